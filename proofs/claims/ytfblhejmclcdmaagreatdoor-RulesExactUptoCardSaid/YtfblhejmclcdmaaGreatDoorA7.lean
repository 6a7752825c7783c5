/- An abstract machine over the model's code, that it is sound; models of the functions and their proofs. -/
import Derived.Test.YtfblhejmclcdmaaGreatDoorA6
set_option linter.unusedVariables false
set_option linter.unusedSimpArgs false

namespace Go.Proofs.YtfblhejmclcdmaaGreatDoor
open Go.Ab
set_option maxRecDepth 100000
theorem JM {l:List Int} {n:Nat} {x:Int} (hn:n≤l.length):(l.take n).contains x=true↔∃k:Nat,k<n∧l.getD k 0=x:=by
 rw [List.contains_iff_mem,List.mem_take_iff_getElem];constructor
 ·rintro ⟨i,hi,e⟩;exact ⟨i,om,by rw [List.getD_eq_getElem?_getD,List.getElem?_eq_getElem om]; exact e⟩
 ·rintro ⟨k,hk,e⟩;rw [List.getD_eq_getElem?_getD,List.getElem?_eq_getElem om] at e;exact ⟨k,om,e⟩
def RsE (l:List cK) (i:Nat):Int→Prop:=
 ET (∃j:Nat,(j:Int)<((l.getD i dReset).After).length∧¬(0≤((l.getD i dReset).After).getD j 0∧((l.getD i dReset).After).getD j 0<(i:Int))) 2<|
 ET (∃j:Nat,1≤j∧(j:Int)<((l.getD i dReset).After).length∧((l.getD i dReset).After).getD j 0≤((l.getD i dReset).After).getD (j - 1) 0) 12<|
 fun r=>r=0
def XI (l:List cK):Int→Prop:=ET (32<(l.length:Int)) 3<|Fst l.length (RsE l)
theorem XI.fun {l:List cK}:yT (XI l):=.Cv (.fst fun _=>.Cv (.Cv .zero))
theorem oV {p:Prop} {c:Int} {A:Int→Prop} (hc:c≠0) (h:ET p c A 0):¬p∧A 0:=by
 rcases h with ⟨_,h⟩ | h
 ·exact absurd h.symm hc
 ·exact h
theorem abF {n:Nat} {E:Nat→Int→Prop} (h:Fst n E 0):∀k,k<n→E k 0:=by
 rcases h with ⟨_,_,_,_,h⟩ | h
 ·exact absurd rfl h
 ·exact h.1
theorem XI.ok {l:List cK} (h:XI l 0):abo l:=by
 obtain ⟨h1,h2⟩:=oV (by decide) h;refine ⟨om,fun i hi=>jf 0 fun j hj=>?_⟩;obtain ⟨h3,_⟩:=oV (by decide) (abF h2 i hi);by_cases q:0≤((l.getD i dReset).After).getD j 0∧((l.getD i dReset).After).getD j 0<(i:Int)
 ·exact q
 ·exact absurd ⟨j,om,q⟩ h3
def abG (l:List cK) (s:List Bool):Prop:=(s.length:Int)=l.length∧∀i:Nat,(i:Int)<l.length→∀j:Nat,(j:Int)<((l.getD i dReset).After).length→s.getD i false=true→s.getD (((l.getD i dReset).After).getD j 0).toNat false=true
def DmA (l:List bT):Int→Prop:=ET (16<(l.length:Int)) 3<|ET (∃i:Nat,(i:Int)<l.length∧¬(-1≤(l.getD i dI).Parent∧(l.getD i dI).Parent<(i:Int))) 2<|fun r=>r=0
theorem DmA.fun {l:List bT}:yT (DmA l):=.Cv (.Cv .zero)
theorem DmA.ok {l:List bT} (h:DmA l 0):Zp l:=by
 obtain ⟨h1,h2⟩:=oV (by decide) h;obtain ⟨h3,_⟩:=oV (by decide) h2;refine ⟨om,fun i hi=>?_⟩;by_cases q : -1≤(l.getD i dI).Parent∧(l.getD i dI).Parent<(i:Int)
 ·exact q
 ·exact absurd ⟨i,om,q⟩ h3
def DgP (l:List bT) (s:List Bool) (i:Nat):Prop:=((l.getD i dI).Always=true→s.getD i false=true)∧(s.getD i false=true→0≤(l.getD i dI).Parent→s.getD (l.getD i dI).Parent.toNat false=true)
def RgP (l:List bT) (s:List Bool):Prop:=(s.length:Int)=l.length∧∀i:Nat,(i:Int)<l.length→DgP l s i
def Ur (l:List aH) (m:List Int):Prop:=∀i:Nat,(i:Int)<m.length→(0≤m.getD i 0∧m.getD i 0<l.length)∧∀k:Nat,k<i→m.getD k 0≠m.getD i 0
def abH (b:aU) (l:List aH) (g:aG):Prop:=((g.Setting.length:Int)=b.bD.length∧(g.Rails.On.length:Int)=b.aV.length∧(g.Rails.Level.length:Int)=b.aV.length∧(g.Released.length:Int)=b.Resets.length∧(g.Powered.length:Int)=b.bI.length)∧
 (∀i:Nat,(i:Int)<g.Setting.length→0≤g.Setting.getD i 0∧g.Setting.getD i 0<(b.bD.getD i aF).Choices.length)∧∀i:Nat,(i:Int)<g.Uses.length → -1≤(g.Uses.getD i bq).Device∧(g.Uses.getD i bq).Device<l.length
theorem JN {p_:bg} (h1:∀g∈p_.Groups,g.bn.length≤2000000∧g.Functions.length≤2000000):W (yw p_) (fun r=>G9 p_ r):=by
 unfold yw;refine wi (fun c1=>?_) (fun c1=>?_)
 ·refine ah ?_;exact bZ c1
 ·refine wi (fun c2=>?_) (fun c2=>?_)
  ·refine ah ?_;exact aD om (bZ c2)
  ·refine bA (fun (g1:(Int×(mo→Option Int)))=>0≤g1.1∧(∀j:Nat,(j:Int)<g1.1→XH p_ j 0)∧(∀s:ByteArray,wL g1.2 (.s s)≠0↔∃k:Nat,(k:Int)<g1.1∧(p_.Groups.getD k ay).Name=s)) (fun (g1:(Int×(mo→Option Int)))=>(p_.Groups.length - g1.1).toNat) ?_ ?_
   ·intro self1 g1 hig1 ihg1;obtain ⟨hg1_1,hg1_2,hg1_3⟩:=hig1;unfold Jm;refine wi (fun c3=>?_) (fun c3=>?_)
    ·have hgl:=h1 _ (getD_in (i:=g1.1.toNat) ay om);refine wn ?_;refine av (Dq) fun v5 hv5=>?_;refine bP (fun c4=>?_) (fun c4=>?_)
     ·have c4o:=c4;have c4:=nr c4;refine ah ?_;(exact aD om (aD om (Az (i:=g1.1.toNat) om (fun k hk=>hg1_2 k om) (bZ (fun h=>by simp [hv5.2 h] at c4o)) (by decide))))
     ·have c4o:=c4;have c4:=nr c4;refine wi (fun c5=>?_) (fun c5=>?_)
      ·refine ah ?_;(exact aD om (aD om (Az (i:=g1.1.toNat) om (fun k hk=>hg1_2 k om) (aD (fun h=>h (hv5.1 (by simpa using c4o))) (bZ (by obtain ⟨k,h1,h2⟩:=(hg1_3 _).1 c5; exact ⟨k,om,by rw [h2]⟩))) (by decide))))
      ·refine av (R6 hgl.1 hgl.2) fun v6 hv6=>?_;refine bP (fun c6=>?_) (fun c6=>?_)
       ·have c6o:=c6;have c6:=nr c6;refine ah ?_;(exact aD om (aD om (Az (i:=g1.1.toNat) om (fun k hk=>hg1_2 k om) (aD (fun h=>h (hv5.1 (by simpa using c4o))) (aD (fun ⟨k,h1,h2⟩=>(hg1_3 _).2 ⟨k,om,QS h2⟩ c5) hv6)) (c6))))
       ·have c6o:=c6;have c6:=nr c6;refine wn ?_;refine ihg1 _ ?_ ?_
        ·(refine ⟨ob,bY hg1_2 hg1_1 (aD (fun h=>h (hv5.1 (by simpa using c4o))) (aD (fun ⟨k,h1,h2⟩=>(hg1_3 _).2 ⟨k,om,QS h2⟩ c5) (by have e:v6=0:=(by simpa using c6o); rw [e] at hv6; exact hv6))),fun s=>?_⟩; dsimp only; rw [tC]; by_cases q:(.s s:mo)=.s (p_.Groups.getD g1.1.toNat ay).Name; (rw [if_pos q]; constructor; (intro _; exact ⟨g1.1.toNat,om,(mo.s.inj q).symm⟩); (intro _; decide)); (rw [if_neg q,hg1_3]; constructor; (rintro ⟨k,h1,h2⟩; exact ⟨k,om,h2⟩); (rintro ⟨k,h1,h2⟩; refine ⟨k,?_,h2⟩; by_cases e:(k:Int)<g1.1; (exact e); exfalso; apply q; rw [← h2,show k=g1.1.toNat by omega])))
        ·exact ob
    ·refine ah ?_;(exact aD om (aD om (IE (fun k hk=>hg1_2 k om))))
   ·(refine ⟨ob,fun j hj=>by dsimp only at hj; omega,fun s=>?_⟩; constructor; (intro h; exact absurd rfl h); (rintro ⟨k,h1,_⟩; dsimp only at h1; omega))
theorem He {p_:bg} (h1:∀g∈p_.Groups,g.bn.length≤2000000∧g.Functions.length≤2000000):W (lg p_) (fun r=>G9 p_ r):=by
 unfold lg;refine wi (fun c1=>?_) (fun c1=>?_)
 ·refine ah ?_;exact bZ c1
 ·refine wi (fun c2=>?_) (fun c2=>?_)
  ·refine ah ?_;exact aD om (bZ c2)
  ·refine bA (fun (g1:Int)=>0≤g1∧(∀j:Nat,(j:Int)<g1→XH p_ j 0)) (fun (g1:Int)=>(p_.Groups.length - g1).toNat) ?_ ?_
   ·intro self1 g1 hig1 ihg1;obtain ⟨hg1_1,hg1_2⟩:=hig1;unfold yG;refine wi (fun c3=>?_) (fun c3=>?_)
    ·refine av (QT om om om h1) fun v3 hv3=>?_;refine bP (fun c4=>?_) (fun c4=>?_)
     ·have c4o:=c4;have c4:=nr c4;refine ah ?_;(exact aD om (aD om (Az (i:=g1.toNat) om (fun k hk=>hg1_2 k om) (hv3) (c4))))
     ·have c4o:=c4;have c4:=nr c4;refine wn ?_;refine ihg1 _ ?_ ?_
      ·(refine ⟨ob,bY hg1_2 hg1_1 (by have e:v3=0:=(by simpa using c4o); rw [e] at hv3; exact hv3)⟩)
      ·exact ob
    ·refine ah ?_;(exact aD om (aD om (IE (fun k hk=>hg1_2 k om))))
   ·(refine ⟨ob,fun j hj=>by (try dsimp only at hj); omega⟩)
theorem Hf {l_:(List cK)} (h1:∀g∈l_,g.After.length≤2000000):W (uM l_) (fun r=>XI l_ r):=by
 unfold uM;refine wi (fun c1=>?_) (fun c1=>?_)
 ·refine ah ?_;exact bZ c1
 ·refine bA (fun (g1:Int)=>0≤g1∧(∀j:Nat,(j:Int)<g1→RsE l_ j 0)) (fun (g1:Int)=>(l_.length - g1).toNat) ?_ ?_
  ·intro self1 g1 hig1 ihg1;obtain ⟨hg1_1,hg1_2⟩:=hig1;unfold FY;refine wi (fun c2=>?_) (fun c2=>?_)
   ·have hgl:=h1 _ (getD_in (i:=g1.toNat) dReset om);refine wn ?_;refine bA (fun (g6:Int)=>0≤g6∧(∀j:Nat,(j:Int)<g6→0≤((l_.getD g1.toNat dReset).After).getD j 0∧((l_.getD g1.toNat dReset).After).getD j 0<((g1.toNat:Nat):Int))) (fun (g6:Int)=>(((l_.getD g1.toNat dReset).After).length - g6).toNat) ?_ ?_
    ·intro self6 g6 hig6 ihg6;obtain ⟨hg6_1,hg6_2⟩:=hig6;unfold FX;refine wi (fun c3=>?_) (fun c3=>?_)
     ·refine wn ?_;refine wi (fun c4=>?_) (fun c4=>?_)
      ·refine ah ?_;exact aD om (Az (i:=g1.toNat) om (fun k hk=>hg1_2 k om) (bZ ⟨g6.toNat,om,om⟩) (by decide))
      ·refine wn ?_;refine ihg6 _ ?_ ?_
       ·(refine ⟨ob,bY hg6_2 hg6_1 om⟩)
       ·exact ob
     ·refine bA (fun (g7:Int)=>1≤g7∧(∀j:Nat,(j:Int)<g7→1≤j→((l_.getD g1.toNat dReset).After).getD (j - 1) 0<((l_.getD g1.toNat dReset).After).getD j 0)) (fun (g7:Int)=>(((l_.getD g1.toNat dReset).After).length - g7).toNat) ?_ ?_
      ·intro self7 g7 hig7 ihg7;obtain ⟨hg7_1,hg7_2⟩:=hig7;unfold DT;refine wi (fun c5=>?_) (fun c5=>?_)
       ·refine wm ?_;refine wn ?_;refine wi (fun c6=>?_) (fun c6=>?_)
        ·refine ah ?_;exact aD om (Az (i:=g1.toNat) om (fun k hk=>hg1_2 k om) (aD (eu hg6_2 om) (bZ ⟨g7.toNat,om,om,by rw [show g7.toNat - 1=(g7 - 1).toNat by omega]; omega⟩)) (by decide))
        ·refine wn ?_;refine ihg7 _ ?_ ?_
         ·(refine ⟨ob,fun j h1 h2=>?_⟩; by_cases q:(j:Int)<g7; (exact hg7_2 j q h2); (have e:j=g7.toNat:=by omega); subst e; rw [show g7.toNat - 1=(g7 - 1).toNat by omega]; omega)
         ·exact ob
       ·refine wn ?_;refine ihg1 _ ?_ ?_
        ·(refine ⟨ob,bY hg1_2 hg1_1 (aD (eu hg6_2 om) (aD (AA hg7_2 om) rfl))⟩)
        ·exact ob
      ·(refine ⟨ob,fun j h1 h2=>by omega⟩)
    ·(refine ⟨ob,fun j hj=>by (try dsimp only at hj); omega⟩)
   ·refine ah ?_;exact aD om (IE fun k hk=>hg1_2 k om)
  ·(refine ⟨ob,fun j hj=>by (try dsimp only at hj); omega⟩)
theorem Hg {l_:(List cK)} (h1:∀g∈l_,g.After.length≤2000000):W (lq l_) (fun r=>XI l_ r):=by
 unfold lq;refine wi (fun c1=>?_) (fun c1=>?_)
 ·refine ah ?_;exact bZ c1
 ·refine bA (fun (g1:Int)=>0≤g1∧(∀j:Nat,(j:Int)<g1→RsE l_ j 0)) (fun (g1:Int)=>(l_.length - g1).toNat) ?_ ?_
  ·intro self1 g1 hig1 ihg1;obtain ⟨hg1_1,hg1_2⟩:=hig1;unfold yJ;refine wi (fun c2=>?_) (fun c2=>?_)
   ·have hgl:=h1 _ (getD_in (i:=g1.toNat) dReset om);refine bA (fun (g6:Int)=>0≤g6∧(∀j:Nat,(j:Int)<g6→0≤((l_.getD g1.toNat dReset).After).getD j 0∧((l_.getD g1.toNat dReset).After).getD j 0<((g1.toNat:Nat):Int))) (fun (g6:Int)=>(((l_.getD g1.toNat dReset).After).length - g6).toNat) ?_ ?_
    ·intro self6 g6 hig6 ihg6;obtain ⟨hg6_1,hg6_2⟩:=hig6;unfold yI;refine wn ?_;refine wi (fun c3=>?_) (fun c3=>?_)
     ·refine wm ?_;refine wm ?_;refine wi (fun c4=>?_) (fun c4=>?_)
      ·refine ah ?_;exact aD om (Az (i:=g1.toNat) om (fun k hk=>hg1_2 k om) (bZ ⟨g6.toNat,om,om⟩) (by decide))
      ·refine wn ?_;refine ihg6 _ ?_ ?_
       ·(refine ⟨ob,bY hg6_2 hg6_1 om⟩)
       ·exact ob
     ·refine bA (fun (g7:Int)=>1≤g7∧(∀j:Nat,(j:Int)<g7→1≤j→((l_.getD g1.toNat dReset).After).getD (j - 1) 0<((l_.getD g1.toNat dReset).After).getD j 0)) (fun (g7:Int)=>(((l_.getD g1.toNat dReset).After).length - g7).toNat) ?_ ?_
      ·intro self7 g7 hig7 ihg7;obtain ⟨hg7_1,hg7_2⟩:=hig7;unfold vT;refine wn ?_;refine wi (fun c5=>?_) (fun c5=>?_)
       ·refine wm ?_;refine wm ?_;refine wn ?_;refine wi (fun c6=>?_) (fun c6=>?_)
        ·refine ah ?_;exact aD om (Az (i:=g1.toNat) om (fun k hk=>hg1_2 k om) (aD (eu hg6_2 om) (bZ ⟨g7.toNat,om,om,by rw [show g7.toNat - 1=(g7 - 1).toNat by omega]; omega⟩)) (by decide))
        ·refine wn ?_;refine ihg7 _ ?_ ?_
         ·(refine ⟨ob,fun j h1 h2=>?_⟩; by_cases q:(j:Int)<g7; (exact hg7_2 j q h2); (have e:j=g7.toNat:=by omega); subst e; rw [show g7.toNat - 1=(g7 - 1).toNat by omega]; omega)
         ·exact ob
       ·refine wn ?_;refine ihg1 _ ?_ ?_
        ·(refine ⟨ob,bY hg1_2 hg1_1 (aD (eu hg6_2 om) (aD (AA hg7_2 om) rfl))⟩)
        ·exact ob
      ·(refine ⟨ob,fun j h1 h2=>by omega⟩)
    ·(refine ⟨ob,fun j hj=>by (try dsimp only at hj); omega⟩)
   ·refine ah ?_;exact aD om (IE fun k hk=>hg1_2 k om)
  ·(refine ⟨ob,fun j hj=>by (try dsimp only at hj); omega⟩)
theorem Ow {l_:(List cK)} {released_:(List Bool)} (h1:abo l_) (h2:∀g∈l_,g.After.length≤2000000):W (wX l_ released_) (fun r=>r=true↔abG l_ released_):=by
 obtain ⟨p1,p2⟩:=h1;unfold wX;refine wi (fun c1=>?_) (fun c1=>?_)
 ·refine ah ?_;(constructor; (intro e; cases e); (rintro ⟨a,_⟩; omega))
 ·refine bA (fun (g1:Int)=>0≤g1∧(∀i:Nat,(i:Int)<g1→∀j:Nat,(j:Int)<((l_.getD i dReset).After).length→released_.getD i false=true→released_.getD (((l_.getD i dReset).After).getD j 0).toNat false=true)) (fun (g1:Int)=>(l_.length - g1).toNat) ?_ ?_
  ·intro self1 g1 hig1 ihg1;obtain ⟨hg1_1,hg1_2⟩:=hig1;unfold D8;refine wi (fun c2=>?_) (fun c2=>?_)
   ·have hgl:=h2 _ (getD_in (i:=g1.toNat) dReset om);refine wn ?_;refine bA (fun (g4:Int)=>0≤g4∧(∀j:Nat,(j:Int)<g4→released_.getD g1.toNat false=true→released_.getD (((l_.getD g1.toNat dReset).After).getD j 0).toNat false=true)) (fun (g4:Int)=>(((l_.getD g1.toNat dReset).After).length - g4).toNat) ?_ ?_
    ·intro self4 g4 hig4 ihg4;obtain ⟨hg4_1,hg4_2⟩:=hig4;unfold D7;refine wi (fun c3=>?_) (fun c3=>?_)
     ·have hx:=p2 g1.toNat om _ (getD_in (i:=g4.toNat) 0 om);refine wm ?_;refine wn ?_;refine bP (fun c4=>?_) (fun c4=>?_)
      ·have c4o:=c4;have c4:=nr c4;refine ah ?_;(constructor; (intro e; cases e); (rintro ⟨_,a⟩; simp only [Bool.and_eq_true,Bool.not_eq_true'] at c4o; have:=a g1.toNat om g4.toNat om c4o.1; rw [this] at c4o; cases c4o.2))
      ·have c4o:=c4;have c4:=nr c4;refine wn ?_;refine ihg4 _ ?_ ?_
       ·(refine ⟨ob,fun j h1 hr=>?_⟩; by_cases q:(j:Int)<g4; (exact hg4_2 j q hr); (have e:j=g4.toNat:=by omega); subst e; simp only [hr,Bool.true_and,Bool.not_eq_false'] at c4o; exact c4o)
       ·exact ob
     ·refine wn ?_;refine ihg1 _ ?_ ?_
      ·(refine ⟨ob,fun i hi j hj hr=>?_⟩; by_cases q:(i:Int)<g1; (exact hg1_2 i q j hj hr); (have e:i=g1.toNat:=by omega); subst e; exact hg4_2 j om hr)
      ·exact ob
    ·(refine ⟨ob,fun j h1 h2=>by omega⟩)
   ·refine ah ?_;(constructor; (intro _; exact ⟨om,fun i hi=>hg1_2 i om⟩); (intro _; rfl))
  ·(refine ⟨ob,fun j h1 h2=>by omega⟩)
theorem Ox {l_:(List cK)} {released_:(List Bool)} (h1:∀g∈l_,g.After.length≤2000000):W (wY l_ released_) (fun r=>(r=true↔XI l_ 0∧abG l_ released_)):=by
 unfold wY;refine av (Hf ob) fun v1 hv1=>?_;refine av (Bj fun hc=>Ow (by have e:v1=0:=(by simpa using hc); rw [e] at hv1; exact hv1.ok) h1) fun v2 hv2=>?_;refine ah ?_;(constructor; (intro hr; simp only [Bool.and_eq_true] at hr; have e:v1=0:=(by simpa using hr.1); exact ⟨e ▸ hv1,(hv2 hr.1).1 hr.2⟩); (rintro ⟨a,b⟩; have e:=XI.fun _ _ hv1 a; subst e; have:=(hv2 rfl).2 b; rw [this]; rfl))
theorem Oy {l_:(List cK)} {released_:(List Bool)} (h1:∀g∈l_,g.After.length≤2000000):W (xD l_ released_) (fun r=>(r=true↔XI l_ 0∧abG l_ released_)):=by
 unfold xD;refine av (Hg ob) fun v1 hv1=>?_;refine wi (fun c1=>?_) (fun c1=>?_)
 ·refine ah ?_;(constructor; (intro e; cases e); (rintro ⟨a,b,_⟩; have e:=XI.fun _ _ hv1 a; omega))
 ·have hok:XI l_ 0:=(by have e:v1=0:=om; rw [e] at hv1; exact hv1);obtain ⟨p1,p2⟩:=hok.ok;refine bA (fun (g1:Int)=>0≤g1∧(∀i:Nat,(i:Int)<g1→∀j:Nat,(j:Int)<((l_.getD i dReset).After).length→released_.getD i false=true→released_.getD (((l_.getD i dReset).After).getD j 0).toNat false=true)) (fun (g1:Int)=>(l_.length - g1).toNat) ?_ ?_
  ·intro self1 g1 hig1 ihg1;obtain ⟨hg1_1,hg1_2⟩:=hig1;unfold Ey;refine wi (fun c2=>?_) (fun c2=>?_)
   ·have hgl:=h1 _ (getD_in (i:=g1.toNat) dReset om);refine bA (fun (g4:Int)=>0≤g4∧(∀j:Nat,(j:Int)<g4→released_.getD g1.toNat false=true→released_.getD (((l_.getD g1.toNat dReset).After).getD j 0).toNat false=true)) (fun (g4:Int)=>(((l_.getD g1.toNat dReset).After).length - g4).toNat) ?_ ?_
    ·intro self4 g4 hig4 ihg4;obtain ⟨hg4_1,hg4_2⟩:=hig4;unfold Ew;refine wn ?_;refine wi (fun c3=>?_) (fun c3=>?_)
     ·have hx:=p2 g1.toNat om _ (getD_in (i:=g4.toNat) 0 om);refine wm ?_;refine wm ?_;refine bP (fun c4=>?_) (fun c4=>?_)
      ·have c4o:=c4;have c4:=nr c4;refine ah ?_;(constructor; (intro e; cases e); (rintro ⟨_,_,a⟩; simp only [Bool.and_eq_true,Bool.not_eq_true'] at c4o; have:=a g1.toNat om g4.toNat om c4o.1; rw [this] at c4o; cases c4o.2))
      ·have c4o:=c4;have c4:=nr c4;refine wn ?_;refine ihg4 _ ?_ ?_
       ·(refine ⟨ob,fun j h1 hr=>?_⟩; by_cases q:(j:Int)<g4; (exact hg4_2 j q hr); (have e:j=g4.toNat:=by omega); subst e; simp only [hr,Bool.true_and,Bool.not_eq_false'] at c4o; exact c4o)
       ·exact ob
     ·refine wn ?_;refine ihg1 _ ?_ ?_
      ·(refine ⟨ob,fun i hi j hj hr=>?_⟩; by_cases q:(i:Int)<g1; (exact hg1_2 i q j hj hr); (have e:i=g1.toNat:=by omega); subst e; exact hg4_2 j om hr)
      ·exact ob
    ·(refine ⟨ob,fun j h1 h2=>by omega⟩)
   ·refine ah ?_;(constructor; (intro _; exact ⟨hok,om,fun i hi=>hg1_2 i om⟩); (intro _; rfl))
  ·(refine ⟨ob,fun j h1 h2=>by omega⟩)
theorem EF {l_:(List bT)}:W (qM l_) (fun r=>DmA l_ r):=by
 unfold qM;refine wi (fun c1=>?_) (fun c1=>?_)
 ·refine ah ?_;exact bZ c1
 ·refine bA (fun (g1:Int)=>0≤g1∧(∀j:Nat,(j:Int)<g1 → -1≤(l_.getD j dI).Parent∧(l_.getD j dI).Parent<(j:Int))) (fun (g1:Int)=>(l_.length - g1).toNat) ?_ ?_
  ·intro self1 g1 hig1 ihg1;obtain ⟨hg1_1,hg1_2⟩:=hig1;unfold DU;refine wi (fun c2=>?_) (fun c2=>?_)
   ·refine wn ?_;refine wi (fun c3=>?_) (fun c3=>?_)
    ·refine ah ?_;exact aD om (bZ ⟨g1.toNat,om,om⟩)
    ·refine wn ?_;refine ihg1 _ ?_ ?_
     ·(refine ⟨ob,bY hg1_2 hg1_1 om⟩)
     ·exact ob
   ·refine ah ?_;exact aD om (aD (eu hg1_2 om) rfl)
  ·(refine ⟨ob,fun j hj=>by (try dsimp only at hj); omega⟩)
theorem Hl {l_:(List bT)}:W (lu l_) (fun r=>DmA l_ r):=by
 unfold lu;refine wi (fun c1=>?_) (fun c1=>?_)
 ·refine ah ?_;exact bZ c1
 ·refine bA (fun (g1:Int)=>0≤g1∧(∀j:Nat,(j:Int)<g1 → -1≤(l_.getD j dI).Parent∧(l_.getD j dI).Parent<(j:Int))) (fun (g1:Int)=>(l_.length - g1).toNat) ?_ ?_
  ·intro self1 g1 hig1 ihg1;obtain ⟨hg1_1,hg1_2⟩:=hig1;unfold yK;refine wi (fun c2=>?_) (fun c2=>?_)
   ·refine wm ?_;refine wi (fun c3=>?_) (fun c3=>?_)
    ·refine ah ?_;exact aD om (bZ ⟨g1.toNat,om,om⟩)
    ·refine wn ?_;refine ihg1 _ ?_ ?_
     ·(refine ⟨ob,bY hg1_2 hg1_1 om⟩)
     ·exact ob
   ·refine ah ?_;exact aD om (aD (eu hg1_2 om) rfl)
  ·(refine ⟨ob,fun j hj=>by (try dsimp only at hj); omega⟩)
theorem Oz {l_:(List bT)} {on_:(List Bool)} (h1:Zp l_):W (wZ l_ on_) (fun r=>r=true↔RgP l_ on_):=by
 obtain ⟨p1,p2⟩:=h1;unfold wZ;refine wi (fun c1=>?_) (fun c1=>?_)
 ·refine ah ?_;(constructor; (intro e; cases e); (rintro ⟨a,_⟩; omega))
 ·refine bA (fun (g1:Int)=>0≤g1∧(∀j:Nat,(j:Int)<g1→DgP l_ on_ j)) (fun (g1:Int)=>(l_.length - g1).toNat) ?_ ?_
  ·intro self1 g1 hig1 ihg1;obtain ⟨hg1_1,hg1_2⟩:=hig1;unfold D9;refine wi (fun c2=>?_) (fun c2=>?_)
   ·have hx:=p2 g1.toNat om;refine wm ?_;refine wm ?_;refine bP (fun c3=>?_) (fun c3=>?_)
    ·have c3o:=c3;have c3:=nr c3;refine ah ?_;(constructor; (intro e; cases e); (rintro ⟨_,this⟩; have hd:=this g1.toNat om; obtain ⟨d1,d2⟩:=hd; revert d1 d2; cases hA:(l_.getD g1.toNat dI).Always<;>cases hB:on_.getD g1.toNat false<;>simp_all))
    ·have c3o:=c3;have c3:=nr c3;refine wn ?_;refine ihg1 _ ?_ ?_
     ·(refine ⟨ob,bY hg1_2 hg1_1 ?_⟩; unfold DgP; revert c3o; cases hA:(l_.getD g1.toNat dI).Always<;>cases hB:on_.getD g1.toNat false<;>simp)
     ·exact ob
   ·refine ah ?_;(constructor; (intro _; exact ⟨om,fun i hi=>hg1_2 i om⟩); (intro _; rfl))
  ·(refine ⟨ob,fun j hj=>by (try dsimp only at hj); omega⟩)
theorem OA {l_:(List bT)} {on_:(List Bool)}:W (w9 l_ on_) (fun r=>(r=true↔DmA l_ 0∧RgP l_ on_)):=by
 unfold w9;refine av (EF) fun v1 hv1=>?_;refine av (Bj fun hc=>Oz (by have e:v1=0:=(by simpa using hc); rw [e] at hv1; exact hv1.ok)) fun v2 hv2=>?_;refine ah ?_;(constructor; (intro hr; simp only [Bool.and_eq_true] at hr; have e:v1=0:=(by simpa using hr.1); exact ⟨e ▸ hv1,(hv2 hr.1).1 hr.2⟩); (rintro ⟨a,b⟩; have e:=DmA.fun _ _ hv1 a; subst e; have:=(hv2 rfl).2 b; rw [this]; rfl))
theorem QU {l_:(List bT)} {on_:(List Bool)}:W (zZ l_ on_) (fun r=>(r=true↔DmA l_ 0∧RgP l_ on_)):=by
 unfold zZ;refine av (Hl) fun v1 hv1=>?_;refine wi (fun c1=>?_) (fun c1=>?_)
 ·refine ah ?_;(constructor; (intro e; cases e); (rintro ⟨a,b,_⟩; have e:=DmA.fun _ _ hv1 a; omega))
 ·have hok:DmA l_ 0:=(by have e:v1=0:=om; rw [e] at hv1; exact hv1);obtain ⟨p1,p2⟩:=hok.ok;refine bA (fun (g1:Int)=>0≤g1∧(∀j:Nat,(j:Int)<g1→DgP l_ on_ j)) (fun (g1:Int)=>(l_.length - g1).toNat) ?_ ?_
  ·intro self1 g1 hig1 ihg1;obtain ⟨hg1_1,hg1_2⟩:=hig1;unfold Gz;refine wi (fun c2=>?_) (fun c2=>?_)
   ·have hx:=p2 g1.toNat om;refine wm ?_;refine wm ?_;refine wm ?_;refine bP (fun c3=>?_) (fun c3=>?_)
    ·have c3o:=c3;have c3:=nr c3;refine ah ?_;(constructor; (intro e; cases e); (rintro ⟨_,_,this⟩; have hd:=this g1.toNat om; obtain ⟨d1,d2⟩:=hd; revert d1 d2; cases hA:(l_.getD g1.toNat dI).Always<;>cases hB:on_.getD g1.toNat false<;>simp_all))
    ·have c3o:=c3;have c3:=nr c3;refine wn ?_;refine ihg1 _ ?_ ?_
     ·(refine ⟨ob,bY hg1_2 hg1_1 ?_⟩; unfold DgP; revert c3o; cases hA:(l_.getD g1.toNat dI).Always<;>cases hB:on_.getD g1.toNat false<;>simp)
     ·exact ob
   ·refine ah ?_;(constructor; (intro _; exact ⟨hok,om,fun i hi=>hg1_2 i om⟩); (intro _; rfl))
  ·(refine ⟨ob,fun j hj=>by (try dsimp only at hj); omega⟩)
theorem yU {l_:(List aH)} {members_:(List Int)} (h1:l_.length≤2000000) (h2:members_.length≤2000000):W (jW l_ members_) (fun r=>r=true↔Ur l_ members_):=by
 unfold jW;refine bA (fun (g1:Int)=>0≤g1∧(∀i:Nat,(i:Int)<g1→(0≤members_.getD i 0∧members_.getD i 0<l_.length)∧∀k:Nat,k<i→members_.getD k 0≠members_.getD i 0)) (fun (g1:Int)=>(members_.length - g1).toNat) ?_ ?_
 ·intro self1 g1 hig1 ihg1;obtain ⟨hg1_1,hg1_2⟩:=hig1;unfold yx;refine wi (fun c1=>?_) (fun c1=>?_)
  ·refine wm ?_;refine av (jN) fun v5 hv5=>?_;subst v5;refine wn ?_;refine av (eD fun hc=>ER ob) fun v6 hv6=>?_;subst v6;refine bP (fun c2=>?_) (fun c2=>?_)
   ·have c2o:=c2;have c2:=nr c2;refine ah ?_;(constructor; (intro e; cases e); (intro a; obtain ⟨b,d⟩:=a g1.toNat om; simp only [Bool.or_eq_true] at c2o; rcases c2o with c | c; (simp only [Bool.not_eq_true',Bool.and_eq_false_iff,decide_eq_false_iff_not] at c; omega); (obtain ⟨k,h3,h4⟩:=(JM om).1 c; exact absurd h4 (d k h3))))
   ·have c2o:=c2;have c2:=nr c2;refine wn ?_;refine ihg1 _ ?_ ?_
    ·(refine ⟨ob,bY hg1_2 hg1_1 ?_⟩; simp only [Bool.or_eq_false_iff] at c2o; refine ⟨(by have:=c2o.1; simp only [Bool.not_eq_false',Bool.and_eq_true,decide_eq_true_eq] at this; omega),fun k hk e=>?_⟩; rw [(JM om).2 ⟨k,hk,e⟩] at c2o; cases c2o.2)
    ·exact ob
  ·refine ah ?_;(constructor; (intro _ i hi; exact hg1_2 i om); (intro _; rfl))
 ·(refine ⟨ob,fun j hj=>by (try dsimp only at hj); omega⟩)
theorem Cb {l_:(List aH)} {members_:(List Int)} (h1:l_.length≤2000000) (h2:members_.length≤2000000):W (mh l_ members_) (fun r=>r=true↔Ur l_ members_):=by
 unfold mh;refine bA (fun (g1:Int)=>0≤g1∧(∀i:Nat,(i:Int)<g1→(0≤members_.getD i 0∧members_.getD i 0<l_.length)∧∀k:Nat,k<i→members_.getD k 0≠members_.getD i 0)) (fun (g1:Int)=>(members_.length - g1).toNat) ?_ ?_
 ·intro self1 g1 hig1 ihg1;obtain ⟨hg1_1,hg1_2⟩:=hig1;unfold BK;refine wi (fun c1=>?_) (fun c1=>?_)
  ·refine wm ?_;refine wi (fun c2=>?_) (fun c2=>?_)
   ·refine ah ?_;(constructor; (intro e; cases e); (intro a; obtain ⟨b,d⟩:=a g1.toNat om; omega))
   ·refine bA (fun (g4:Int)=>0≤g4∧(∀k:Nat,(k:Int)<g4→members_.getD k 0≠members_.getD g1.toNat 0)) (fun (g4:Int)=>(g1 - g4).toNat) ?_ ?_
    ·intro self4 g4 hig4 ihg4;obtain ⟨hg4_1,hg4_2⟩:=hig4;unfold BJ;refine wi (fun c3=>?_) (fun c3=>?_)
     ·refine wm ?_;refine wi (fun c4=>?_) (fun c4=>?_)
      ·refine ah ?_;(constructor; (intro e; cases e); (intro a; obtain ⟨b,d⟩:=a g1.toNat om; exact absurd c4 (d g4.toNat om)))
      ·refine wn ?_;refine ihg4 _ ?_ ?_
       ·(refine ⟨ob,bY hg4_2 hg4_1 c4⟩)
       ·exact ob
     ·refine wn ?_;refine ihg1 _ ?_ ?_
      ·(refine ⟨ob,bY hg1_2 hg1_1 ⟨om,fun k hk=>hg4_2 k om⟩⟩)
      ·exact ob
    ·(refine ⟨ob,fun j hj=>by (try dsimp only at hj); omega⟩)
  ·refine ah ?_;(constructor; (intro _ i hi; exact hg1_2 i om); (intro _; rfl))
 ·(refine ⟨ob,fun j hj=>by (try dsimp only at hj); omega⟩)
end Go.Proofs.YtfblhejmclcdmaaGreatDoor

namespace Go.Proofs.YtfblhejmclcdmaaGreatDoor
open Go.Ab
set_option maxRecDepth 100000
def NdE (b:aU) (n:aH) (dv:Int):Int→Prop:=
 ET (32<(n.Limits.length:Int)∨32<(n.Draws.length:Int)∨10<(n.Functions.length:Int)) 3<|
 ET (∃j:Nat,(j:Int)<n.Limits.length∧¬V3 b.bD.length (n.Limits.getD j dLimit)) 2<|
 ET (∃j:Nat,(j:Int)<n.Draws.length∧¬abp b.aV.length (n.Draws.getD j bX)) 2<|
 ET (∃j:Nat,(j:Int)<n.Functions.length∧¬MU (n.Functions.getD j ByteArray.empty)) 1<|
 ET (∃j:Nat,(j:Int)<n.Resets.length∧¬(0≤n.Resets.getD j 0∧n.Resets.getD j 0<b.Resets.length)) 2<|
 ET (¬(-1≤n.dO∧n.dO<b.bI.length)) 2<|
 ET (∃j:Nat,(j:Int)<n.aL.length∧¬(0≤n.aL.getD j 0∧n.aL.getD j 0<dv)) 2<|
 ET (∃j:Nat,1≤j∧(j:Int)<n.aL.length∧n.aL.getD j 0≤n.aL.getD (j - 1) 0) 12<|
 fun r=>r=0
theorem NdE.fun {b:aU} {n:aH} {dv:Int}:yT (NdE b n dv):=.Cv (.Cv (.Cv (.Cv (.Cv (.Cv (.Cv (.Cv .zero)))))))
def Ho (b:aU):Int→Prop:=Thn (fun r=>r=cZ b.bD)<|Thn (fun r=>r=Sp.cZ b.aV)<|Thn (G9 b.aN)<|Thn (XI b.Resets) (DmA b.bI)
theorem Ho.fun {b:aU}:yT (Ho b):=.thn (fun _ _ h k=>h.trans k.symm) (.thn (fun _ _ h k=>h.trans k.symm) (.thn G9.fun (.thn XI.fun DmA.fun)))
def qB (b:aU) (l:List aH):Int→Prop:=Thn (Ho b)<|ET (12<(l.length:Int)) 3<|Fst l.length fun i=>NdE b (l.getD i aP) l.length
theorem qB.fun {b:aU} {l:List aH}:yT (qB b l):=.thn Ho.fun (.Cv (.fst fun _=>NdE.fun))
theorem yV {b_:aU} (h1:EP b_) (h2:∀g∈b_.aN.Groups,g.bn.length≤2000000∧g.Functions.length≤2000000):W (mY b_) (fun r=>Ho b_ r):=by
 obtain ⟨z1,z2,z3,z4,z5,z6,z7⟩:=h1;unfold mY;refine av (FN (Ar ob)) fun v1 hv1=>?_;subst v1;refine wi (fun c1=>?_) (fun c1=>?_)
 ·refine ah ?_;exact Ay rfl c1
 ·refine av (Sp.yR ob) fun v2 hv2=>?_;subst v2;refine wi (fun c2=>?_) (fun c2=>?_)
  ·refine ah ?_;exact jg c1.symm (Ay rfl c2)
  ·refine av (JN h2) fun v3 hv3=>?_;refine wi (fun c3=>?_) (fun c3=>?_)
   ·refine ah ?_;exact jg c1.symm (jg c2.symm (Ay hv3 c3))
   ·refine av (Hf ob) fun v4 hv4=>?_;refine wi (fun c4=>?_) (fun c4=>?_)
    ·refine ah ?_;exact jg c1.symm (jg c2.symm (jg (c3 ▸ hv3) (Ay hv4 c4)))
    ·refine av (EF) fun v5 hv5=>?_;refine ah ?_;exact jg c1.symm (jg c2.symm (jg (c3 ▸ hv3) (jg (c4 ▸ hv4) hv5)))
theorem yX {b_:aU} (h1:EP b_) (h2:∀g∈b_.aN.Groups,g.bn.length≤2000000∧g.Functions.length≤2000000):W (qo b_) (fun r=>Ho b_ r):=by
 obtain ⟨z1,z2,z3,z4,z5,z6,z7⟩:=h1;unfold qo;refine av (uw ob) fun v1 hv1=>?_;subst v1;refine wi (fun c1=>?_) (fun c1=>?_)
 ·refine ah ?_;exact Ay rfl c1
 ·refine av (Sp.uo ob) fun v2 hv2=>?_;subst v2;refine wi (fun c2=>?_) (fun c2=>?_)
  ·refine ah ?_;exact jg c1.symm (Ay rfl c2)
  ·refine av (He h2) fun v3 hv3=>?_;refine wi (fun c3=>?_) (fun c3=>?_)
   ·refine ah ?_;exact jg c1.symm (jg c2.symm (Ay hv3 c3))
   ·refine av (Hg ob) fun v4 hv4=>?_;refine wi (fun c4=>?_) (fun c4=>?_)
    ·refine ah ?_;exact jg c1.symm (jg c2.symm (jg (c3 ▸ hv3) (Ay hv4 c4)))
    ·refine av (Hl) fun v5 hv5=>?_;refine ah ?_;exact jg c1.symm (jg c2.symm (jg (c3 ▸ hv3) (jg (c4 ▸ hv4) hv5)))
theorem R7 {b_:aU} {n_:aH} {devices_:Int} (h1:EP b_) (h2:0≤devices_) (h3:devices_≤2000000) (h4:n_.Resets.length≤2000000) (h5:n_.aL.length≤2000000):W (CV b_ n_ devices_) (fun r=>NdE b_ n_ devices_ r):=by
 obtain ⟨z1,z2,z3,z4,z5,z6,z7⟩:=h1;unfold CV;refine wi (fun c1=>?_) (fun c1=>?_)
 ·refine ah ?_;exact bZ om
 ·refine bA (fun (g1:Int)=>0≤g1∧(∀j:Nat,(j:Int)<g1→V3 b_.bD.length (n_.Limits.getD j dLimit))) (fun (g1:Int)=>(n_.Limits.length - g1).toNat) ?_ ?_
  ·intro self1 g1 hig1 ihg1;obtain ⟨hg1_1,hg1_2⟩:=hig1;unfold Jo;refine wi (fun c2=>?_) (fun c2=>?_)
   ·refine wm ?_;refine av (jN) fun v3 hv3=>?_;subst v3;refine wi (fun c3=>?_) (fun c3=>?_)
    ·refine ah ?_;(exact aD om (bZ ⟨g1.toNat,om,fun ⟨_,_,_,_,_⟩=>by omega⟩))
    ·refine wn ?_;refine ihg1 _ ?_ ?_
     ·(refine ⟨ob,bY hg1_2 hg1_1 ⟨om,om,om,om,om⟩⟩)
     ·exact ob
   ·refine bA (fun (g2:Int)=>0≤g2∧(∀j:Nat,(j:Int)<g2→abp b_.aV.length (n_.Draws.getD j bX))) (fun (g2:Int)=>(n_.Draws.length - g2).toNat) ?_ ?_
    ·intro self2 g2 hig2 ihg2;obtain ⟨hg2_1,hg2_2⟩:=hig2;unfold F6;refine wi (fun c4=>?_) (fun c4=>?_)
     ·refine wm ?_;refine av (jN) fun v8 hv8=>?_;subst v8;refine av (eD fun hc=>jm (jN)) fun v9 hv9=>?_;subst v9;refine wi (fun c5=>?_) (fun c5=>?_)
      ·refine ah ?_;(exact aD om (aD (eu hg1_2 om) (bZ ⟨g2.toNat,om,fun ⟨_,_,_,_,_,_,_⟩=>by omega⟩)))
      ·refine wn ?_;refine ihg2 _ ?_ ?_
       ·(refine ⟨ob,bY hg2_2 hg2_1 ⟨om,om,om,om,om,om,om⟩⟩)
       ·exact ob
     ·refine bA (fun (g3:Int)=>0≤g3∧(∀j:Nat,(j:Int)<g3→MU (n_.Functions.getD j ByteArray.empty))) (fun (g3:Int)=>(n_.Functions.length - g3).toNat) ?_ ?_
      ·intro self3 g3 hig3 ihg3;obtain ⟨hg3_1,hg3_2⟩:=hig3;unfold F5;refine wi (fun c6=>?_) (fun c6=>?_)
       ·refine wn ?_;refine av (Dq) fun v12 hv12=>?_;refine bP (fun c7=>?_) (fun c7=>?_)
        ·have c7o:=c7;have c7:=nr c7;refine ah ?_;(exact aD om (aD (eu hg1_2 om) (aD (eu hg2_2 om) (bZ ⟨g3.toNat,om,fun h=>by simp [hv12.2 h] at c7o⟩))))
        ·have c7o:=c7;have c7:=nr c7;refine wn ?_;refine ihg3 _ ?_ ?_
         ·(refine ⟨ob,bY hg3_2 hg3_1 (hv12.1 (by simpa using c7o))⟩)
         ·exact ob
       ·refine bA (fun (g4:Int)=>0≤g4∧(∀j:Nat,(j:Int)<g4→0≤n_.Resets.getD j 0∧n_.Resets.getD j 0<b_.Resets.length)) (fun (g4:Int)=>(n_.Resets.length - g4).toNat) ?_ ?_
        ·intro self4 g4 hig4 ihg4;obtain ⟨hg4_1,hg4_2⟩:=hig4;unfold F4;refine wi (fun c8=>?_) (fun c8=>?_)
         ·refine wm ?_;refine av (jN) fun v15 hv15=>?_;subst v15;refine wi (fun c9=>?_) (fun c9=>?_)
          ·refine ah ?_;(exact aD om (aD (eu hg1_2 om) (aD (eu hg2_2 om) (aD (eu hg3_2 om) (bZ ⟨g4.toNat,om,om⟩)))))
          ·refine wn ?_;refine ihg4 _ ?_ ?_
           ·(refine ⟨ob,bY hg4_2 hg4_1 om⟩)
           ·exact ob
         ·refine wn ?_;refine av (jN) fun v16 hv16=>?_;subst v16;refine wi (fun c10=>?_) (fun c10=>?_)
          ·refine ah ?_;(exact aD om (aD (eu hg1_2 om) (aD (eu hg2_2 om) (aD (eu hg3_2 om) (aD (eu hg4_2 om) (bZ om))))))
          ·refine bA (fun (g5:Int)=>0≤g5∧(∀j:Nat,(j:Int)<g5→0≤n_.aL.getD j 0∧n_.aL.getD j 0<devices_)) (fun (g5:Int)=>(n_.aL.length - g5).toNat) ?_ ?_
           ·intro self5 g5 hig5 ihg5;obtain ⟨hg5_1,hg5_2⟩:=hig5;unfold F3;refine wi (fun c11=>?_) (fun c11=>?_)
            ·refine wm ?_;refine av (jN) fun v19 hv19=>?_;subst v19;refine wi (fun c12=>?_) (fun c12=>?_)
             ·refine ah ?_;(exact aD om (aD (eu hg1_2 om) (aD (eu hg2_2 om) (aD (eu hg3_2 om) (aD (eu hg4_2 om) (aD om (bZ ⟨g5.toNat,om,om⟩)))))))
             ·refine wn ?_;refine ihg5 _ ?_ ?_
              ·(refine ⟨ob,bY hg5_2 hg5_1 om⟩)
              ·exact ob
            ·refine bA (fun (g6:Int)=>1≤g6∧(∀j:Nat,(j:Int)<g6→1≤j→n_.aL.getD (j - 1) 0<n_.aL.getD j 0)) (fun (g6:Int)=>(n_.aL.length - g6).toNat) ?_ ?_
             ·intro self6 g6 hig6 ihg6;obtain ⟨hg6_1,hg6_2⟩:=hig6;unfold FZ;refine wi (fun c13=>?_) (fun c13=>?_)
              ·refine wm ?_;refine wn ?_;refine wi (fun c14=>?_) (fun c14=>?_)
               ·refine ah ?_;(exact aD om (aD (eu hg1_2 om) (aD (eu hg2_2 om) (aD (eu hg3_2 om) (aD (eu hg4_2 om) (aD om (aD (eu hg5_2 om) (bZ ⟨g6.toNat,om,om,by rw [show g6.toNat - 1=(g6 - 1).toNat by omega]; omega⟩))))))))
               ·refine wn ?_;refine ihg6 _ ?_ ?_
                ·(refine ⟨ob,fun j h1 h2=>?_⟩; by_cases q:(j:Int)<g6; (exact hg6_2 j q h2); (have e:j=g6.toNat:=by omega); subst e; rw [show g6.toNat - 1=(g6 - 1).toNat by omega]; omega)
                ·exact ob
              ·refine ah ?_;(exact aD om (aD (eu hg1_2 om) (aD (eu hg2_2 om) (aD (eu hg3_2 om) (aD (eu hg4_2 om) (aD om (aD (eu hg5_2 om) (aD (AA hg6_2 om) (rfl)))))))))
             ·(refine ⟨ob,fun j h1 h2=>by omega⟩)
           ·(refine ⟨ob,fun j hj=>by (try dsimp only at hj); omega⟩)
        ·(refine ⟨ob,fun j hj=>by (try dsimp only at hj); omega⟩)
      ·(refine ⟨ob,fun j hj=>by (try dsimp only at hj); omega⟩)
    ·(refine ⟨ob,fun j hj=>by (try dsimp only at hj); omega⟩)
  ·(refine ⟨ob,fun j hj=>by (try dsimp only at hj); omega⟩)
theorem R8 {b_:aU} {l_:(List aH)} {x_:aH} (h1:EP b_) (h2:l_.length≤2000000) (h3:x_.Resets.length≤2000000) (h4:x_.aL.length≤2000000):W (Df b_ l_ x_) (fun r=>NdE b_ x_ l_.length r):=by
 obtain ⟨z1,z2,z3,z4,z5,z6,z7⟩:=h1;unfold Df;refine wi (fun c1=>?_) (fun c1=>?_)
 ·refine ah ?_;exact bZ om
 ·refine bA (fun (g1:Int)=>0≤g1∧(∀j:Nat,(j:Int)<g1→V3 b_.bD.length (x_.Limits.getD j dLimit))) (fun (g1:Int)=>(x_.Limits.length - g1).toNat) ?_ ?_
  ·intro self1 g1 hig1 ihg1;obtain ⟨hg1_1,hg1_2⟩:=hig1;unfold JB;refine wi (fun c2=>?_) (fun c2=>?_)
   ·refine wn ?_;refine wi (fun c3=>?_) (fun c3=>?_)
    ·refine ah ?_;(exact aD om (bZ ⟨g1.toNat,om,fun ⟨_,_,_,_,_⟩=>by omega⟩))
    ·refine wn ?_;refine ihg1 _ ?_ ?_
     ·(refine ⟨ob,bY hg1_2 hg1_1 ⟨om,om,om,om,om⟩⟩)
     ·exact ob
   ·refine bA (fun (g2:Int)=>0≤g2∧(∀j:Nat,(j:Int)<g2→abp b_.aV.length (x_.Draws.getD j bX))) (fun (g2:Int)=>(x_.Draws.length - g2).toNat) ?_ ?_
    ·intro self2 g2 hig2 ihg2;obtain ⟨hg2_1,hg2_2⟩:=hig2;unfold Gw;refine wi (fun c4=>?_) (fun c4=>?_)
     ·refine wn ?_;refine wi (fun c5=>?_) (fun c5=>?_)
      ·refine ah ?_;(exact aD om (aD (eu hg1_2 om) (bZ ⟨g2.toNat,om,fun ⟨_,_,_,_,_,_,_⟩=>by omega⟩)))
      ·refine wn ?_;refine ihg2 _ ?_ ?_
       ·(refine ⟨ob,bY hg2_2 hg2_1 ⟨om,om,om,om,om,om,om⟩⟩)
       ·exact ob
     ·refine bA (fun (g3:Int)=>0≤g3∧(∀j:Nat,(j:Int)<g3→MU (x_.Functions.getD j ByteArray.empty))) (fun (g3:Int)=>(x_.Functions.length - g3).toNat) ?_ ?_
      ·intro self3 g3 hig3 ihg3;obtain ⟨hg3_1,hg3_2⟩:=hig3;unfold Gv;refine wi (fun c6=>?_) (fun c6=>?_)
       ·refine wn ?_;refine av (AB) fun v3 hv3=>?_;refine bP (fun c7=>?_) (fun c7=>?_)
        ·have c7o:=c7;have c7:=nr c7;refine ah ?_;(exact aD om (aD (eu hg1_2 om) (aD (eu hg2_2 om) (bZ ⟨g3.toNat,om,fun h=>by simp [hv3.2 h] at c7o⟩))))
        ·have c7o:=c7;have c7:=nr c7;refine wn ?_;refine ihg3 _ ?_ ?_
         ·(refine ⟨ob,bY hg3_2 hg3_1 (hv3.1 (by simpa using c7o))⟩)
         ·exact ob
       ·refine bA (fun (g4:Int)=>0≤g4∧(∀j:Nat,(j:Int)<g4→0≤x_.Resets.getD j 0∧x_.Resets.getD j 0<b_.Resets.length)) (fun (g4:Int)=>(x_.Resets.length - g4).toNat) ?_ ?_
        ·intro self4 g4 hig4 ihg4;obtain ⟨hg4_1,hg4_2⟩:=hig4;unfold Gu;refine wi (fun c8=>?_) (fun c8=>?_)
         ·refine wn ?_;refine wi (fun c9=>?_) (fun c9=>?_)
          ·refine ah ?_;(exact aD om (aD (eu hg1_2 om) (aD (eu hg2_2 om) (aD (eu hg3_2 om) (bZ ⟨g4.toNat,om,om⟩)))))
          ·refine wn ?_;refine ihg4 _ ?_ ?_
           ·(refine ⟨ob,bY hg4_2 hg4_1 om⟩)
           ·exact ob
         ·refine wi (fun c10=>?_) (fun c10=>?_)
          ·refine ah ?_;(exact aD om (aD (eu hg1_2 om) (aD (eu hg2_2 om) (aD (eu hg3_2 om) (aD (eu hg4_2 om) (bZ om))))))
          ·refine bA (fun (g5:Int)=>0≤g5∧(∀j:Nat,(j:Int)<g5→0≤x_.aL.getD j 0∧x_.aL.getD j 0<(l_.length:Int))) (fun (g5:Int)=>(x_.aL.length - g5).toNat) ?_ ?_
           ·intro self5 g5 hig5 ihg5;obtain ⟨hg5_1,hg5_2⟩:=hig5;unfold Gt;refine wi (fun c11=>?_) (fun c11=>?_)
            ·refine wn ?_;refine wi (fun c12=>?_) (fun c12=>?_)
             ·refine ah ?_;(exact aD om (aD (eu hg1_2 om) (aD (eu hg2_2 om) (aD (eu hg3_2 om) (aD (eu hg4_2 om) (aD om (bZ ⟨g5.toNat,om,om⟩)))))))
             ·refine wn ?_;refine ihg5 _ ?_ ?_
              ·(refine ⟨ob,bY hg5_2 hg5_1 om⟩)
              ·exact ob
            ·refine bA (fun (g6:Int)=>1≤g6∧(∀j:Nat,(j:Int)<g6→1≤j→x_.aL.getD (j - 1) 0<x_.aL.getD j 0)) (fun (g6:Int)=>(x_.aL.length - g6).toNat) ?_ ?_
             ·intro self6 g6 hig6 ihg6;obtain ⟨hg6_1,hg6_2⟩:=hig6;unfold Gs;refine wi (fun c13=>?_) (fun c13=>?_)
              ·refine wm ?_;refine wn ?_;refine wi (fun c14=>?_) (fun c14=>?_)
               ·refine ah ?_;(exact aD om (aD (eu hg1_2 om) (aD (eu hg2_2 om) (aD (eu hg3_2 om) (aD (eu hg4_2 om) (aD om (aD (eu hg5_2 om) (bZ ⟨g6.toNat,om,om,by rw [show g6.toNat - 1=(g6 - 1).toNat by omega]; omega⟩))))))))
               ·refine wn ?_;refine ihg6 _ ?_ ?_
                ·(refine ⟨ob,fun j h1 h2=>?_⟩; by_cases q:(j:Int)<g6; (exact hg6_2 j q h2); (have e:j=g6.toNat:=by omega); subst e; rw [show g6.toNat - 1=(g6 - 1).toNat by omega]; omega)
                ·exact ob
              ·refine ah ?_;(exact aD om (aD (eu hg1_2 om) (aD (eu hg2_2 om) (aD (eu hg3_2 om) (aD (eu hg4_2 om) (aD om (aD (eu hg5_2 om) (aD (AA hg6_2 om) (rfl)))))))))
             ·(refine ⟨ob,fun j h1 h2=>by omega⟩)
           ·(refine ⟨ob,fun j hj=>by (try dsimp only at hj); omega⟩)
        ·(refine ⟨ob,fun j hj=>by (try dsimp only at hj); omega⟩)
      ·(refine ⟨ob,fun j hj=>by (try dsimp only at hj); omega⟩)
    ·(refine ⟨ob,fun j hj=>by (try dsimp only at hj); omega⟩)
  ·(refine ⟨ob,fun j hj=>by (try dsimp only at hj); omega⟩)
theorem uz {b_:aU} {l_:(List aH)} (h1:EP b_) (h2:∀g∈b_.aN.Groups,g.bn.length≤2000000∧g.Functions.length≤2000000) (h3:GY l_):W (lH b_ l_) (fun r=>qB b_ l_ r):=by
 obtain ⟨w1,w2⟩:=h3;unfold lH;refine av (yV h1 h2) fun v1 hv1=>?_;refine wi (fun c1=>?_) (fun c1=>?_)
 ·refine ah ?_;exact Ay hv1 c1
 ·refine wi (fun c2=>?_) (fun c2=>?_)
  ·refine ah ?_;exact jg (c1 ▸ hv1) (bZ c2)
  ·refine bA (fun (g1:Int)=>0≤g1∧(∀j:Nat,(j:Int)<g1→NdE b_ (l_.getD j aP) l_.length 0)) (fun (g1:Int)=>(l_.length - g1).toNat) ?_ ?_
   ·intro self1 g1 hig1 ihg1;obtain ⟨hg1_1,hg1_2⟩:=hig1;unfold Jp;refine wi (fun c3=>?_) (fun c3=>?_)
    ·have hw:=w2 _ (getD_in (i:=g1.toNat) aP om);refine wn ?_;refine av (R7 ob ob ob ob ob) fun v4 hv4=>?_;refine wi (fun c4=>?_) (fun c4=>?_)
     ·refine ah ?_;exact jg (c1 ▸ hv1) (aD om (Az (i:=g1.toNat) om (fun k hk=>hg1_2 k om) hv4 c4))
     ·refine wn ?_;refine ihg1 _ ?_ ?_
      ·(refine ⟨ob,bY hg1_2 hg1_1 (by rw [c4] at hv4; exact hv4)⟩)
      ·exact ob
    ·refine ah ?_;exact jg (c1 ▸ hv1) (aD om (IE fun k hk=>hg1_2 k om))
   ·(refine ⟨ob,fun j hj=>by (try dsimp only at hj); omega⟩)
theorem uD {b_:aU} {l_:(List aH)} (h1:EP b_) (h2:∀g∈b_.aN.Groups,g.bn.length≤2000000∧g.Functions.length≤2000000) (h3:GY l_):W (nE b_ l_) (fun r=>qB b_ l_ r):=by
 obtain ⟨w1,w2⟩:=h3;unfold nE;refine av (yX h1 h2) fun v1 hv1=>?_;refine wi (fun c1=>?_) (fun c1=>?_)
 ·refine ah ?_;exact Ay hv1 c1
 ·refine wi (fun c2=>?_) (fun c2=>?_)
  ·refine ah ?_;exact jg (c1 ▸ hv1) (bZ c2)
  ·refine bA (fun (g1:Int)=>0≤g1∧(∀j:Nat,(j:Int)<g1→NdE b_ (l_.getD j aP) l_.length 0)) (fun (g1:Int)=>(l_.length - g1).toNat) ?_ ?_
   ·intro self1 g1 hig1 ihg1;obtain ⟨hg1_1,hg1_2⟩:=hig1;unfold JC;refine wi (fun c3=>?_) (fun c3=>?_)
    ·have hw:=w2 _ (getD_in (i:=g1.toNat) aP om);refine wn ?_;refine av (R8 ob ob ob ob) fun v4 hv4=>?_;refine wi (fun c4=>?_) (fun c4=>?_)
     ·refine ah ?_;exact jg (c1 ▸ hv1) (aD om (Az (i:=g1.toNat) om (fun k hk=>hg1_2 k om) hv4 c4))
     ·refine wn ?_;refine ihg1 _ ?_ ?_
      ·(refine ⟨ob,bY hg1_2 hg1_1 (by rw [c4] at hv4; exact hv4)⟩)
      ·exact ob
    ·refine ah ?_;exact jg (c1 ▸ hv1) (aD om (IE fun k hk=>hg1_2 k om))
   ·(refine ⟨ob,fun j hj=>by (try dsimp only at hj); omega⟩)
theorem Hq {s_:dY} (h1:Oo s_):W (mG s_) (fun r=>(r=true↔Ur s_.bR s_.aI∧abH s_.aW s_.bR s_.aQ)):=by
 obtain ⟨⟨s1,s2,s3,s4,s5,s6,s7⟩,v_,n1,n2,⟨n3,n4⟩,m1,⟨z1,z2,z3,z4,z5,z6⟩⟩:=h1;have hch:∀i,i<s_.aW.bD.length→(s_.aW.bD.getD i aF).Choices.length≤2000000:=s2;unfold mG;refine av (yU ob ob) fun v1 hv1=>?_;refine bP (fun c1=>?_) (fun c1=>?_)
 ·have c1o:=c1;have c1:=nr c1;refine ah ?_;(constructor; (intro e; cases e); (rintro ⟨a,⟨b1,b2,b3,b4,b5⟩,_⟩; rw [hv1.2 a] at c1o; simp only [Bool.not_true,Bool.false_or,Bool.or_eq_true,bne_iff_ne] at c1o; omega))
 ·have c1o:=c1;have c1:=nr c1;have hm:=hv1.1 (by simp only [Bool.or_eq_false_iff] at c1o; simpa using c1o.1.1.1.1.1);have hl:(s_.aQ.Setting.length:Int)=s_.aW.bD.length:=(by simp only [Bool.or_eq_false_iff] at c1o; simpa using c1o.1.1.1.1.2);refine bA (fun (g1:Int)=>0≤g1∧(∀j:Nat,(j:Int)<g1→0≤s_.aQ.Setting.getD j 0∧s_.aQ.Setting.getD j 0<(s_.aW.bD.getD j aF).Choices.length)) (fun (g1:Int)=>(s_.aW.bD.length - g1).toNat) ?_ ?_
  ·intro self1 g1 hig1 ihg1;obtain ⟨hg1_1,hg1_2⟩:=hig1;unfold uN;refine wi (fun c2=>?_) (fun c2=>?_)
   ·have hq:=hch g1.toNat om;refine wm ?_;refine wn ?_;refine av (jN) fun v4 hv4=>?_;subst v4;refine wi (fun c3=>?_) (fun c3=>?_)
    ·refine ah ?_;(constructor; (intro e; cases e); (rintro ⟨_,_,a,_⟩; have:=a g1.toNat om; omega))
    ·refine wn ?_;refine ihg1 _ ?_ ?_
     ·(refine ⟨ob,bY hg1_2 hg1_1 om⟩)
     ·exact ob
   ·refine bA (fun (g2:Int)=>0≤g2∧(∀j:Nat,(j:Int)<g2 → -1≤(s_.aQ.Uses.getD j bq).Device∧(s_.aQ.Uses.getD j bq).Device<s_.bR.length)) (fun (g2:Int)=>(s_.aQ.Uses.length - g2).toNat) ?_ ?_
    ·intro self2 g2 hig2 ihg2;obtain ⟨hg2_1,hg2_2⟩:=hig2;unfold rV;refine wi (fun c4=>?_) (fun c4=>?_)
     ·refine wm ?_;refine av (jN) fun v7 hv7=>?_;subst v7;refine wi (fun c5=>?_) (fun c5=>?_)
      ·refine ah ?_;(constructor; (intro e; cases e); (rintro ⟨_,_,_,a⟩; have:=a g2.toNat om; omega))
      ·refine wn ?_;refine ihg2 _ ?_ ?_
       ·(refine ⟨ob,bY hg2_2 hg2_1 om⟩)
       ·exact ob
     ·refine ah ?_;(constructor; (intro _; exact ⟨hm,⟨om,om,om,om,om⟩,fun i hi=>hg1_2 i om,fun i hi=>hg2_2 i om⟩); (intro _; rfl))
    ·(refine ⟨ob,fun j hj=>by (try dsimp only at hj); omega⟩)
  ·(refine ⟨ob,fun j hj=>by (try dsimp only at hj); omega⟩)
theorem OB {b_:aU} {l_:(List aH)} {g_:aG} (h1:EP b_) (h2:l_.length≤2000000) (h3:oF g_):W (xA b_ l_ g_) (fun r=>r=true↔abH b_ l_ g_):=by
 obtain ⟨s1,s2,s3,s4,s5,s6,s7⟩:=h1;obtain ⟨z1,z2,z3,z4,z5,z6⟩:=h3;unfold xA;refine wi (fun c1=>?_) (fun c1=>?_)
 ·refine ah ?_;(constructor; (intro e; cases e); (rintro ⟨⟨b1,b2,b3,b4,b5⟩,_⟩; omega))
 ·refine bA (fun (g1:Int)=>0≤g1∧(∀j:Nat,(j:Int)<g1→0≤g_.Setting.getD j 0∧g_.Setting.getD j 0<(b_.bD.getD j aF).Choices.length)) (fun (g1:Int)=>(g_.Setting.length - g1).toNat) ?_ ?_
  ·intro self1 g1 hig1 ihg1;obtain ⟨hg1_1,hg1_2⟩:=hig1;unfold Es;refine wi (fun c2=>?_) (fun c2=>?_)
   ·refine wm ?_;refine wn ?_;refine wi (fun c3=>?_) (fun c3=>?_)
    ·refine ah ?_;(constructor; (intro e; cases e); (rintro ⟨_,a,_⟩; have:=a g1.toNat om; omega))
    ·refine wn ?_;refine ihg1 _ ?_ ?_
     ·(refine ⟨ob,bY hg1_2 hg1_1 om⟩)
     ·exact ob
   ·refine bA (fun (g2:Int)=>0≤g2∧(∀j:Nat,(j:Int)<g2 → -1≤(g_.Uses.getD j bq).Device∧(g_.Uses.getD j bq).Device<l_.length)) (fun (g2:Int)=>(g_.Uses.length - g2).toNat) ?_ ?_
    ·intro self2 g2 hig2 ihg2;obtain ⟨hg2_1,hg2_2⟩:=hig2;unfold Er;refine wi (fun c4=>?_) (fun c4=>?_)
     ·refine wm ?_;refine wi (fun c5=>?_) (fun c5=>?_)
      ·refine ah ?_;(constructor; (intro e; cases e); (rintro ⟨_,_,a⟩; have:=a g2.toNat om; omega))
      ·refine wn ?_;refine ihg2 _ ?_ ?_
       ·(refine ⟨ob,bY hg2_2 hg2_1 om⟩)
       ·exact ob
     ·refine ah ?_;(constructor; (intro _; exact ⟨⟨om,om,om,om,om⟩,fun i hi=>hg1_2 i om,fun i hi=>hg2_2 i om⟩); (intro _; rfl))
    ·(refine ⟨ob,fun j hj=>by (try dsimp only at hj); omega⟩)
  ·(refine ⟨ob,fun j hj=>by (try dsimp only at hj); omega⟩)
end Go.Proofs.YtfblhejmclcdmaaGreatDoor

namespace Go.Proofs.YtfblhejmclcdmaaGreatDoor
open Go.Ab
set_option maxRecDepth 100000
theorem ac7 {l:List aC} {s:List Int} (hf:Rz l) (hs:settB l s=true) {x:bJ} (h0:0≤x.Clock) (h1:x.Clock<l.length):fitX (JG l s) x=Xx (fF l s) x:=by
 obtain ⟨e1,e2,_,_⟩:=K9 hf hs x.Clock.toNat om;unfold fitX Xx;rw [e1,e2,Bool.not_not]
theorem ac8 {l:List aC} {s:List Int} (hf:Rz l) (hs:settB l s=true):Zx l (JG l s)=ownB l (fF l s):=by
 unfold Zx ownB;have:∀i∈List.range l.length,(!ownY (JG l s).1 (JG l s).2 l i)=(!ownX ((fF l s).getD i dA) (l.getD i aF)):=fun i hi=>by
  obtain ⟨e1,e2,_,_⟩:=K9 hf hs i (by simpa using hi);unfold ownY ownX;rw [e1,e2]
 rw [Bool.eq_iff_iff,List.all_eq_true,List.all_eq_true];exact ⟨fun h i hi=>by rw [← this i hi]; exact h i hi,fun h i hi=>by rw [this i hi]; exact h i hi⟩
theorem any_congr {α:Type} {l:List α} {p q:α→Bool} (h:∀x∈l,p x=q x):l.any p=l.any q:=by
 rw [Bool.eq_iff_iff,List.any_eq_true,List.any_eq_true];exact ⟨fun ⟨x,h1,h2⟩=>⟨x,h1,by rw [← h x h1]; exact h2⟩,fun ⟨x,h1,h2⟩=>⟨x,h1,by rw [h x h1]; exact h2⟩⟩
theorem QV {l:List aC} {s:List Int} {m:List bJ} (h1:limsB l m=true) (h2:settB l s=true):fA l s m=ED l s m:=by
 obtain ⟨hck,hml,hmb⟩:=GL h1;have hf:=xE hck;unfold fA ED;rw [h1,h2,ac8 hf h2,any_congr fun x hx=>ac7 hf h2 (GN (GR h1 x hx)).1.1 (GN (GR h1 x hx)).1.2,Bool.and_comm (!_)];rfl
theorem MV {l_:(List aC)} {s_:(List Int)} (h1:l_.length≤2000000) (h2:s_.length≤2000000) (h3:Xw l_):W (ug l_ s_) (fun r=>r=((cZ l_==0)&&settB l_ s_)):=by
 unfold ug;refine av (uw ob) fun v1 hv1=>?_;subst v1;refine bP (fun c1=>?_) (fun c1=>?_)
 ·have c1o:=c1;have c1:=nr c1;refine ah ?_;(rcases Bool.or_eq_true_iff.1 c1o with c | c; (rw [show (cZ l_==0)=false by simpa using c]; rfl); (unfold settB; rw [show ((s_.length:Int)==(l_.length:Int))=false by simpa using c]; simp))
 ·have c1o:=c1;have c1:=nr c1;have he:((s_.length:Int)==(l_.length:Int))=true:=(by have:=(Bool.or_eq_false_iff.1 c1o).2; simpa using this);have hc0:(cZ l_==0)=true:=(by have:=(Bool.or_eq_false_iff.1 c1o).1; simpa using this);refine bA (fun (g1:Int)=>0≤g1∧g1≤l_.length∧(∀j:Nat,(j:Int)<g1→withinF (s_.getD j 0) 0 ((l_.getD j aF).Choices.length - 1)=true)) (fun (g1:Int)=>(l_.length - g1).toNat) ?_ ?_
  ·intro self1 g1 hig1 ihg1;obtain ⟨hg1_1,hg1_2,hg1_3⟩:=hig1;unfold BL;refine wi (fun c2=>?_) (fun c2=>?_)
   ·have hch:=h3 g1.toNat om;refine wm ?_;refine wn ?_;refine wi (fun c3=>?_) (fun c3=>?_)
    ·refine ah ?_;(unfold settB; rw [he,rC (i:=g1.toNat) om (by unfold withinF; rw [Bool.and_eq_false_iff,decide_eq_false_iff_not,decide_eq_false_iff_not]; omega)]; simp)
    ·refine wn ?_;refine ihg1 _ ?_ ?_
     ·(refine ⟨ob,ob,bY hg1_3 hg1_1 (by unfold withinF; rw [Bool.and_eq_true,decide_eq_true_eq,decide_eq_true_eq]; omega)⟩)
     ·exact ob
   ·refine ah ?_;(unfold settB; rw [he,hc0,uh fun j hj=>hg1_3 j om]; rfl)
  ·(refine ⟨ob,ob,fun j hj=>by omega⟩)
theorem yY {l_:(List aC)} {s_:(List Int)} {m_:(List bJ)} (h1:l_.length≤2000000) (h2:s_.length≤2000000) (h3:m_.length≤2000000) (h4:Xw l_):W (uX l_ s_ m_) (fun r=>r=fA l_ s_ m_):=by
 unfold uX;refine av (MV ob ob ob) fun v1 hv1=>?_;subst v1;refine av (eD fun hc=>jm (G6 ob ob)) fun v2 hv2=>?_;subst v2;refine bP (fun c1=>?_) (fun c1=>?_)
 ·have c1o:=c1;have c1:=nr c1;refine ah ?_;(unfold fA; rcases Bool.or_eq_true_iff.1 c1o with c | c; (simp only [Bool.not_eq_true',Bool.and_eq_false_iff,beq_eq_false_iff_ne] at c; rcases c with c | c; (rw [show limsB l_ m_=false by (unfold limsB; rw [show (cZ l_==0)=false by simpa using c]; rfl)]; rfl); (rw [c,Bool.and_false]; rfl)); (rw [show limsB l_ m_=false by simpa using c]; rfl))
 ·have c1o:=c1;have c1:=nr c1;have hss:settB l_ s_=true:=(by have:=(Bool.or_eq_false_iff.1 c1o).1; simp only [Bool.not_eq_false',Bool.and_eq_true] at this; exact this.2);have hlm:limsB l_ m_=true:=(by have:=(Bool.or_eq_false_iff.1 c1o).2; simpa using this);obtain ⟨hck,hml,hmb⟩:=GL hlm;have hst:=Iy l_ s_ l_.length;refine av (G8 (K8 (xE hck) hss) (abd (xE hck) hss)) fun v3 hv3=>?_;subst v3;have hs1:(JG l_ s_).1.length=l_.length:=hst.1;have hs2:(JG l_ s_).2.length=l_.length:=hst.2;refine bA (fun (g1:Int)=>0≤g1∧g1≤m_.length∧(m_.drop g1.toNat).any (fitX (JG l_ s_))=m_.any (fitX (JG l_ s_))) (fun (g1:Int)=>(m_.length - g1).toNat) ?_ ?_
  ·intro self1 g1 hig1 ihg1;obtain ⟨hg1_1,hg1_2,hg1_3⟩:=hig1;unfold Gx;refine wi (fun c2=>?_) (fun c2=>?_)
   ·have hlt:g1.toNat<m_.length:=om;have hx:=(GN (GR hlm _ (getD_in (i:=g1.toNat) dLimit hlt))).1;rw [drop_cons dLimit hlt,List.any_cons] at hg1_3;refine wm ?_;refine wn ?_;refine av (eD fun hc=>jm (yS)) fun v6 hv6=>?_;subst v6;refine bP (fun c3=>?_) (fun c3=>?_)
    ·have c3o:=c3;have c3:=nr c3;refine ah ?_;(rw [QV hlm hss]; unfold ED; rw [← hg1_3,show fitX (JG l_ s_) (m_.getD g1.toNat dLimit)=true from c3o]; rfl)
    ·have c3o:=c3;have c3:=nr c3;refine wn ?_;refine ihg1 _ ?_ ?_
     ·(refine ⟨ob,ob,?_⟩; rw [← hg1_3,show fitX (JG l_ s_) (m_.getD g1.toNat dLimit)=false from c3o,show (g1+1).toNat=g1.toNat+1 by omega]; rfl)
     ·exact ob
   ·refine av (N9 ob ob ob) fun v7 hv7=>?_;subst v7;refine ah ?_;(rw [QV hlm hss]; unfold ED; rw [← hg1_3,show g1.toNat=m_.length by omega,List.drop_length]; rfl)
  ·(refine ⟨ob,ob,rfl⟩)
end Go.Proofs.YtfblhejmclcdmaaGreatDoor

namespace Go.Proofs.YtfblhejmclcdmaaGreatDoor
open Go.Ab
set_option maxRecDepth 100000
theorem G9.v {p:bg} (h:G9 p 0):aea p:=by
 obtain ⟨h1,h2⟩:=oV (by decide) h;obtain ⟨h3,h4⟩:=oV (by decide) h2;have h5:=abF h4;have hg:∀i:Nat,(i:Int)<p.Groups.length→GpV p.bn (p.Groups.getD i ay)∧∀k:Nat,k<i→(p.Groups.getD k ay).Name.toList≠(p.Groups.getD i ay).Name.toList:=fun i hi=>by
  obtain ⟨a1,a2⟩:=oV (by decide) (h5 i om);obtain ⟨b1,b2⟩:=oV (by decide) a2;obtain ⟨c1,c2⟩:=oV (by decide) b2;obtain ⟨d1,d2⟩:=oV (by decide) c2;obtain ⟨e1,e2⟩:=oV (by decide) d2;obtain ⟨f1,f2⟩:=oV (by decide) e2;obtain ⟨k1,k2⟩:=oV (by decide) f2;obtain ⟨l1,_⟩:=oV (by decide) k2;refine ⟨⟨⟨om,om,jf 0 fun j hj=>?_⟩,Classical.not_not.1 a1,fun k hk hl=>?_,fun j hj=>?_,fun k j hj hk e=>l1 ⟨k,j,hj,hk,e⟩⟩,fun k hk e=>b1 ⟨k,hk,e⟩⟩
  ·exact Classical.byContradiction fun q=>e1 ⟨j,om,q⟩
  ·exact Classical.byContradiction fun q=>f1 ⟨k,hk,hl,om⟩
  ·exact Classical.byContradiction fun q=>k1 ⟨j,hj,q⟩
 exact ⟨⟨om,om,jf ay fun i hi=>(hg i om).1.ok⟩,fun i hi=>(hg i hi).1,fun i k hk hi=>(hg i hi).2 k hk⟩
def aee (p:bg) (l:List iC) (i:Nat):Prop:=QE p (l.getD i dS)∧(∀k:Nat,k<i→(l.getD k dS).bW≠(l.getD i dS).bW)∧
 ∀k:Nat,k<i→∀a b:Nat,(a:Int)<(p.Groups.getD (l.getD k dS).bW.toNat ay).bn.length→(b:Int)<(p.Groups.getD (l.getD i dS).bW.toNat ay).bn.length→(p.Groups.getD (l.getD k dS).bW.toNat ay).bn.getD a 0≠(p.Groups.getD (l.getD i dS).bW.toNat ay).bn.getD b 0
def ZB (p:bg) (l:List iC):Prop:=∀i:Nat,(i:Int)<l.length→aee p l i
theorem QW {p_:bg} {l_:(List iC)} (h1:∀g∈p_.Groups,g.bn.length≤2000000∧g.Functions.length≤2000000) (h2:l_.length≤2000000):W (zJ p_ l_) (fun r=>(r.2=0↔G9 p_ 0∧ZB p_ l_)):=by
 unfold zJ;refine bA (fun (g1:(Int×(Nat→Int)×(Nat→Int)))=>0≤g1.1∧(∀x:Nat,(x:Int)<g1.1→g1.2.2 x = -1)) (fun (g1:(Int×(Nat→Int)×(Nat→Int)))=>(64 - g1.1).toNat) ?_ ?_
 ·intro self1 g1 hig1 ihg1;obtain ⟨hg1_1,hg1_2⟩:=hig1;unfold Gc;refine wi (fun c1=>?_) (fun c1=>?_)
  ·refine wm ?_;refine ihg1 _ ?_ ?_
   ·(refine ⟨ob,fun x hx=>?_⟩; dsimp only at hx ⊢; by_cases q:x=g1.1.toNat; (rw [q,JZ]); (rw [upd_ne q]; exact hg1_2 x om))
   ·exact ob
  ·refine av (JN h1) fun v1 hv1=>?_;refine wi (fun c2=>?_) (fun c2=>?_)
   ·refine ah ?_;(refine ⟨fun e=>by (try dsimp only at e); omega,fun ⟨a,_⟩=>absurd (G9.fun _ _ hv1 a) c2⟩)
   ·have hpa:G9 p_ 0:=(by rw [c2] at hv1; exact hv1);have hpv:=hpa.v;obtain ⟨⟨p1,p2,p3⟩,gr,nm⟩:=id hpv;refine wn ?_;refine bA (fun (g2:(Int×(Nat→Int)×(List Bool)))=>0≤g2.1∧g2.2.2.length=p_.Groups.length∧(∀x:Nat,x<64→(0≤g2.2.1 x↔∃j:Nat,(j:Int)<g2.1∧∃k:Nat,(k:Int)<(p_.Groups.getD (l_.getD j dS).bW.toNat ay).bn.length∧(p_.Groups.getD (l_.getD j dS).bW.toNat ay).bn.getD k 0=x))∧(∀x:Nat,g2.2.2.getD x false=true↔∃j:Nat,(j:Int)<g2.1∧(l_.getD j dS).bW=x)∧(∀i:Nat,(i:Int)<g2.1→aee p_ l_ i)) (fun (g2:(Int×(Nat→Int)×(List Bool)))=>(l_.length - g2.1).toNat) ?_ ?_
    ·intro self2 g2 hig2 ihg2;obtain ⟨hg2_1,hg2_2,hg2_3,hg2_4,hg2_5⟩:=hig2;unfold D6;refine wi (fun c3=>?_) (fun c3=>?_)
     ·refine wm ?_;refine wi (fun c4=>?_) (fun c4=>?_)
      ·refine ah ?_;(refine ⟨fun e=>by (try dsimp only at e); omega,fun ⟨_,h⟩=>?_⟩; obtain ⟨⟨u1,u2,u3,u4⟩,_⟩:=h g2.1.toNat om; omega)
      ·have hu:QE p_ (l_.getD g2.1.toNat dS):=⟨om,om,om,om⟩;obtain ⟨u1,u2,u3,u4⟩:=id hu;refine wn ?_;refine bP (fun c5=>?_) (fun c5=>?_)
       ·have c5o:=c5;have c5:=nr c5;refine ah ?_;(refine ⟨fun e=>by (try dsimp only at e); omega,fun ⟨_,h⟩=>?_⟩; obtain ⟨_,hd,_⟩:=h g2.1.toNat om; obtain ⟨j,e3,e4⟩:=(hg2_4 _).1 c5o; exact absurd e4 (fun e4=>hd j om om))
       ·have c5o:=c5;have c5:=nr c5;refine wm ?_;refine bA (fun (g5:(Int×(Nat→Int)×(List Bool)))=>0≤g5.1∧g5.1≤(p_.Groups.getD (l_.getD g2.1.toNat dS).bW.toNat ay).bn.length∧g5.2.2.length=p_.Groups.length∧(∀x:Nat,x<64→(0≤g5.2.1 x↔(∃j:Nat,(j:Int)<g2.1∧∃k:Nat,(k:Int)<(p_.Groups.getD (l_.getD j dS).bW.toNat ay).bn.length∧(p_.Groups.getD (l_.getD j dS).bW.toNat ay).bn.getD k 0=x)∨∃k:Nat,(k:Int)<g5.1∧(p_.Groups.getD (l_.getD g2.1.toNat dS).bW.toNat ay).bn.getD k 0=x))∧(∀x:Nat,g5.2.2.getD x false=true↔∃j:Nat,(j:Int)<g2.1+1∧(l_.getD j dS).bW=x)∧(∀b:Nat,(b:Int)<g5.1→∀j:Nat,(j:Int)<g2.1→∀a:Nat,(a:Int)<(p_.Groups.getD (l_.getD j dS).bW.toNat ay).bn.length→(p_.Groups.getD (l_.getD j dS).bW.toNat ay).bn.getD a 0≠(p_.Groups.getD (l_.getD g2.1.toNat dS).bW.toNat ay).bn.getD b 0)) (fun (g5:(Int×(Nat→Int)×(List Bool)))=>((p_.Groups.getD (l_.getD g2.1.toNat dS).bW.toNat ay).bn.length - g5.1).toNat) ?_ ?_
        ·intro self5 g5 hig5 ihg5;obtain ⟨hg5_1,hg5_2,hg5_3,hg5_4,hg5_5,hg5_6⟩:=hig5;unfold D5;refine wi (fun c6=>?_) (fun c6=>?_)
         ·have hmg:=getD_in (l:=p_.Groups) (i:=(l_.getD g2.1.toNat dS).bW.toNat) ay om;have hgl:=(h1 _ hmg).1;have hpn:=(p3 _ hmg).pn _ (getD_in (i:=g5.1.toNat) 0 om);refine wm ?_;refine wi (fun c7=>?_) (fun c7=>?_)
          ·refine ah ?_;(refine ⟨fun e=>by (try dsimp only at e); omega,fun ⟨_,h⟩=>?_⟩; obtain ⟨_,_,hd⟩:=h g2.1.toNat om; exfalso; rcases (hg5_4 _ om).1 c7 with ⟨j,e3,k,e5,e6⟩ | ⟨k,e5,e6⟩; (exact hd j om k g5.1.toNat e5 om (by rw [e6]; omega)); (have:=Wi hpv u1 u2 k g5.1.toNat om om; omega))
          ·refine wm ?_;refine ihg5 _ ?_ ?_
           ·(refine ⟨ob,ob,ob,fun x hx=>?_,hg5_5,fun b hb j hj a ha=>?_⟩; (dsimp only; by_cases q:x=((p_.Groups.getD (l_.getD g2.1.toNat dS).bW.toNat ay).bn.getD g5.1.toNat 0).toNat; (rw [q,JZ]; constructor; (intro _; exact .inr ⟨g5.1.toNat,om,om⟩); (intro _; omega)); (rw [upd_ne q,hg5_4 x hx]; constructor; (rintro (h | ⟨k,e5,e6⟩); (exact .inl h); (exact .inr ⟨k,om,e6⟩)); (rintro (h | ⟨k,e5,e6⟩); (exact .inl h); (refine .inr ⟨k,?_,e6⟩; by_cases e:(k:Int)<g5.1; (exact e); exfalso; apply q; rw [show g5.1.toNat=k by omega]; omega)))); (by_cases q:(b:Int)<g5.1; (exact hg5_6 b q j hj a ha); (have e:b=g5.1.toNat:=by (try dsimp only at hb); omega); subst e; intro e7; have e8:=(hg5_4 ((p_.Groups.getD (l_.getD g2.1.toNat dS).bW.toNat ay).bn.getD g5.1.toNat 0).toNat om).2 (.inl ⟨j,hj,a,ha,by rw [e7]; omega⟩); omega))
           ·exact ob
         ·refine wn ?_;refine ihg2 _ ?_ ?_
          ·(refine ⟨ob,hg5_3,fun x hx=>?_,fun x=>hg5_5 x,bY hg2_5 hg2_1 ⟨hu,fun k hk e=>?_,fun k hk a b ha hb=>hg5_6 b om k om a ha⟩⟩; (dsimp only; rw [hg5_4 x hx]; constructor; (rintro (⟨j,e3,e⟩ | ⟨k,e5,e6⟩); (exact ⟨j,om,e⟩); (exact ⟨g2.1.toNat,om,k,om,e6⟩)); (rintro ⟨j,e3,k,e5,e6⟩; by_cases q:(j:Int)<g2.1; (exact .inl ⟨j,q,k,e5,e6⟩); (have e:j=g2.1.toNat:=by omega); subst e; exact .inr ⟨k,om,e6⟩)); (rw [(hg2_4 _).2 ⟨k,om,om⟩] at c5; cases c5))
          ·exact ob
        ·(refine ⟨ob,ob,ob,fun x hx=>⟨fun h=>.inl ((hg2_3 x hx).1 h),?_⟩,fun x=>?_,fun b hb=>?_⟩; (rintro (h | ⟨k,e5,_⟩); (exact (hg2_3 x hx).2 h); (exfalso; (try dsimp only at e5); omega)); (dsimp only; by_cases q:x=(l_.getD g2.1.toNat dS).bW.toNat; (rw [q,ac4 om]; exact ⟨fun _=>⟨g2.1.toNat,om,om⟩,fun _=>rfl⟩); (rw [ac3 q,hg2_4]; constructor; (rintro ⟨j,e3,e4⟩; exact ⟨j,om,e4⟩); (rintro ⟨j,e3,e4⟩; refine ⟨j,?_,e4⟩; by_cases e:(j:Int)<g2.1; (exact e); exfalso; apply q; rw [show g2.1.toNat=j by omega]; omega))); (exfalso; (try dsimp only at hb); omega))
     ·refine ah ?_;(refine ⟨fun _=>⟨hpa,fun i hi=>hg2_5 i om⟩,fun _=>rfl⟩)
    ·(refine ⟨ob,by simp,fun x hx=>⟨fun h=>?_,fun ⟨j,e,_⟩=>?_⟩,fun x=>⟨fun hx=>?_,fun ⟨j,e,_⟩=>?_⟩,fun j hj=>?_⟩; (exfalso; have:=hg1_2 x om; (try dsimp only at h); omega); (exfalso; (try dsimp only at e); omega); (exfalso; dsimp only at hx; rw [List.getD_eq_getElem?_getD,List.getElem?_replicate] at hx; split at hx<;>simp at hx); (exfalso; (try dsimp only at e); omega); (exfalso; (try dsimp only at hj); omega))
 ·(refine ⟨ob,fun j hj=>by (try dsimp only at hj); omega⟩)
end Go.Proofs.YtfblhejmclcdmaaGreatDoor

namespace Go.Proofs.YtfblhejmclcdmaaGreatDoor
open Go.Ab
set_option maxRecDepth 100000
structure NdV (b:aU) (k:Int) (n:aH):Prop where
 ok:abq b n
 fw:∀j:Nat,(j:Int)<n.Functions.length→MU (n.Functions.getD j ByteArray.empty)
 pr:∀x∈n.aL,0≤x∧x<k
 ps:∀k:Nat,1≤k→(k:Int)<n.aL.length→n.aL.getD (k - 1) 0<n.aL.getD k 0
def afA (l:List Int):Prop:=∀k j:Nat,j<k→(k:Int)<l.length→l.getD j 0≠l.getD k 0
def nmU (p:bg) (u:iC):ByteArray:=((p.Groups.getD u.bW.toNat ay).Functions.getD u.Function.toNat ByteArray.empty)
def R9 (p:bg) (us:List aK) (m:Int) (f:ByteArray):Nat:=us.countP fun u=>(u.Device==m)&&decide (nmU p u.Use=f)
def cntF (l:List ByteArray) (f:ByteArray):Nat:=l.countP fun x=>decide (x=f)
theorem IG {p:bg} {us:List aK} {u:aK} {m:Int} {f:ByteArray}:R9 p (us++[u]) m f=R9 p us m f+(if u.Device=m∧nmU p u.Use=f then 1 else 0):=by
 unfold R9;rw [List.countP_append,List.countP_singleton];congr 1;simp only [Bool.and_eq_true,beq_iff_eq,decide_eq_true_eq]
theorem II {l:List ByteArray} {x f:ByteArray}:cntF (l++[x]) f=cntF l f+(if x=f then 1 else 0):=by
 unfold cntF;rw [List.countP_append,List.countP_singleton];congr 1;simp only [decide_eq_true_eq]
theorem ZC {l:List ByteArray} {f:ByteArray} (k:Nat):cntF (l.take k) f≤cntF l f:=by
 unfold cntF;conv=>rhs; rw [← List.take_append_drop k l]
 rw [List.countP_append]; omega
theorem XJ {l:List aC} {s:List Int} (h1:cZ l=0) (h2:settB l s=true):(Aq l s).2=0:=by
 unfold Aq;rw [h1,h2]; rfl
def aeW (r:bF) (x:bJ):Prop:=r.Num≠0∧r.Num≤x.High*r.Den∧x.Low*r.Den≤r.Num
structure agb (s:dY):Prop where
 sc:Oo s
 sh:XC s
 bv:BdV s.aW
 dst:afA s.aI
 st:∀i:Nat,(i:Int)<s.aW.bD.length→0≤s.aQ.Setting.getD i 0∧s.aQ.Setting.getD i 0<(s.aW.bD.getD i aF).Choices.length
 us:∀u∈s.aQ.Uses,-1≤u.Device∧u.Device<s.bR.length
 sb:settB s.aW.bD s.aQ.Setting=true
 mt:fA s.aW.bD s.aQ.Setting []=true
 lm:∀m∈s.aI,∀x∈(s.bR.getD m.toNat aP).Limits,aeW ((fF s.aW.bD s.aQ.Setting).getD x.Clock.toNat dA) x
 dr:Sp.fA s.aW.aV s.aQ.Rails (s.aI.flatMap fun m=>(s.bR.getD m.toNat aP).Draws)=true
 pn:UsV s.aW.aN (s.aQ.Uses.map aK.Use)
 fn:∀m∈s.aI,∀f,cntF (s.bR.getD m.toNat aP).Functions f≤R9 s.aW.aN s.aQ.Uses m f
 rs:aeR s.aW.Resets s.aQ.Released
 rl:∀m∈s.aI,∀x∈(s.bR.getD m.toNat aP).Resets,s.aQ.Released.getD x.toNat false=true
 dm:aeS s.aW.bI s.aQ.Powered
 dl:∀m∈s.aI,0≤(s.bR.getD m.toNat aP).dO→s.aQ.Powered.getD (s.bR.getD m.toNat aP).dO.toNat false=true
end Go.Proofs.YtfblhejmclcdmaaGreatDoor

namespace Go.Proofs.YtfblhejmclcdmaaGreatDoor
open Go.Ab
set_option maxRecDepth 100000
def aeX (b:aU) (l:List bJ):Prop:=l.length≤1∧∀y∈l,V3 b.bD.length y
def afB (b:aU) (l:List bB):Prop:=l.length≤1∧∀y∈l,abp b.aV.length y
def afC (l:List ByteArray):Prop:=l.length≤2∧∀y∈l,MU y
def afD (b:aU) (l:List Int):Prop:=l.length≤100∧∀y∈l,0≤y∧y<b.Resets.length
def afE (k:Int) (l:List Int):Prop:=l.length≤100∧(∀p∈l,0≤p∧p<k)∧aeb l
structure NdG (b:aU) (k:Int) (x:aH):Prop where
 lm:aeX b x.Limits
 dw:afB b x.Draws
 fw:afC x.Functions
 rs:afD b x.Resets
 dm : -1≤x.dO∧x.dO<b.bI.length
 pr:afE k x.aL
end Go.Proofs.YtfblhejmclcdmaaGreatDoor

namespace Go.Proofs.YtfblhejmclcdmaaGreatDoor
open Go.Ab
set_option maxRecDepth 100000
theorem Sp.ZE {l:List au} {d:List bB} (h:(Sp.tq l d).2=0):(Sp.tq l d).1.On.length=l.length∧(Sp.tq l d).1.Level.length=l.length:=by
 unfold Sp.tq at h ⊢;cases h1:Sp.beginF l d != 0 with
 | true=>rw [h1] at h; simp at h1; exact absurd h h1
 | false=>
  rw [h1] at h;cases h2:decide (0≤(Sp.Uk l d).2)||!Sp.fA l ⟨Sp.jl l d,(Sp.Uk l d).1.lv⟩ d with
  | true=>rw [h2] at h; cases h
  | false=>
   simp only [Bool.or_eq_false_iff,Bool.not_eq_false'] at h2;have hm:=h2.2;unfold Sp.fA at hm;cases h3:!Sp.rE l ⟨Sp.jl l d,(Sp.Uk l d).1.lv⟩||!Sp.mE l d with
   | true=>rw [h3] at hm; cases hm
   | false=>
    simp only [Bool.or_eq_false_iff,Bool.not_eq_false'] at h3;have:=(Sp.IB.1 h3.1).2;exact ⟨this.On,this.len⟩
theorem Lr {o0_:bH} (h1:0≤o0_.At) (h2:o0_.L.length≤600):W (pz o0_) (fun r=>r.1.Value≤100∧0≤r.2.At∧r.2.L.length≤600):=by
 unfold pz;refine av (dF (by simp) (by simp) om om) fun v1 hv1=>?_;obtain ⟨hv1_1,hv1_2,hv1_3⟩:=hv1;refine av (dJ ob ob ob ob ob ob) fun v2 hv2=>?_;obtain ⟨hv2_1,hv2_2,hv2_3,hv2_4,hv2_5⟩:=hv2;refine av (dJ ob ob ob ob ob ob) fun v3 hv3=>?_;obtain ⟨hv3_1,hv3_2,hv3_3,hv3_4,hv3_5⟩:=hv3;refine ah ?_;exact ob
end Go.Proofs.YtfblhejmclcdmaaGreatDoor


namespace Go.Proofs.YtfblhejmclcdmaaGreatDoor
open Go.Ab
set_option maxRecDepth 100000
def afF (l:List aH) (m:List Int):List bJ:=m.flatMap fun i=>(l.getD i.toNat aP).Limits
def afG (l:List aH) (m:List Int):List bB:=m.flatMap fun i=>(l.getD i.toNat aP).Draws
def fnM (l:List aH) (m:List Int):List ByteArray:=m.flatMap fun i=>(l.getD i.toNat aP).Functions
def rsM (l:List aH) (m:List Int):List Int:=m.flatMap fun i=>(l.getD i.toNat aP).Resets
def usM (l:List aH) (m:List Int):List Int:=m.flatMap fun i=>if 0≤(l.getD i.toNat aP).dO then [(l.getD i.toNat aP).dO] else []
def owM (l:List aH) (m:List Int):List Int:=m.flatMap fun i=>List.replicate (l.getD i.toNat aP).Functions.length i
def UdK (p:bg) (z:List Int) (ns:List ByteArray) (ow:List Int) (u:aK) (k:Nat):Prop:=u.Device=ow.getD k 0∧u.Use.bW=z.getD k 0∧0≤u.Use.Function∧u.Use.Function<(p.Groups.getD u.Use.bW.toNat ay).Functions.length∧nmU p u.Use=ns.getD k ByteArray.empty
structure GrG (b:aU) (l:List aH) (m:List Int) (g:aG):Prop where
 st:settB b.bD g.Setting=true
 ft:ED b.bD g.Setting (afF l m)=true
 dr:Sp.tq b.aV (afG l m)=(g.Rails,0)
 fg:∃z:List Int,z.length=(fnM l m).length∧g.Uses.length=z.length∧afy b.aN (fnM l m) z∧∀k:Nat,(k:Int)<g.Uses.length→UdK b.aN z (fnM l m) (owM l m) (g.Uses.getD k bq) k
 rn:g.Released.length=b.Resets.length
 rc:aeR b.Resets g.Released
 rl:∀j:Nat,(j:Int)<(rsM l m).length→g.Released.getD ((rsM l m).getD j 0).toNat false=true
 pn:g.Powered.length=b.bI.length
 pc:aeS b.bI g.Powered
 pl:∀j:Nat,(j:Int)<(usM l m).length→g.Powered.getD ((usM l m).getD j 0).toNat false=true
end Go.Proofs.YtfblhejmclcdmaaGreatDoor

namespace Go.Proofs.YtfblhejmclcdmaaGreatDoor
open Go.Ab
set_option maxRecDepth 100000
end Go.Proofs.YtfblhejmclcdmaaGreatDoor

namespace Go.Proofs.YtfblhejmclcdmaaGreatDoor
open Go.Ab
set_option maxRecDepth 100000
theorem Ls:W CX (fun r=>r=true):=⟨true,M.adX 100 _ _ (by decide +kernel),rfl⟩
theorem aeY {b:aU} (h:aa6 b):EP b:=by
 obtain ⟨b1,b2,b3,b4,b5,b6,b7,b8,b9⟩:=h;exact ⟨om,fun i hi=>by have:=b2 _ (getD_in (i:=i) aF hi); omega,om,fun g hg=>by have:=b6 g hg; omega,om,fun g hg=>by have:=b8 g hg; omega,om⟩
theorem Lu {α:Type} {l:List α} {i:Int} {v:α} {n:Nat} (h:l.length≤n):(oG l i v).2.length≤n:=by rw [dM]; exact h
theorem QX {w:bU} {g:aG} {n:Nat} (h:oF g) (hn:g.Uses.length≤n) (h2:n<2000000):oF (dx w g).2∧(dx w g).2.Uses.length≤n+1:=by
 obtain ⟨z1,z2,z3,z4,z5,z6⟩:=id h;have hn1:g.Uses.length≤n+1:=by omega
 have h0:oF g∧g.Uses.length≤n+1:=⟨h,hn1⟩;unfold dx;cases decide (w.Value<0) with
 | true=>exact h0
 | false=>
  cases w.Kind==1 with
  | true=>exact ⟨⟨Lu z1,z2,z3,z4,z5,z6⟩,hn1⟩
  | false=>
   cases w.Kind==2 with
   | true=>exact ⟨⟨z1,z2,Lu z3,z4,z5,z6⟩,hn1⟩
   | false=>
    cases w.Kind==3 with
    | true=>
     cases decide (w.Value≤1) with
     | true=>exact ⟨⟨z1,Lu z2,z3,z4,z5,z6⟩,hn1⟩
     | false=>exact h0
    | false=>
     cases w.Kind==11 with
     | true=>
      cases decide (w.Value≤1) with
      | true=>exact ⟨⟨z1,z2,z3,z4,Lu z5,z6⟩,hn1⟩
      | false=>exact h0
     | false=>
      cases w.Kind==12 with
      | true=>
       cases decide (w.Value≤1) with
       | true=>exact ⟨⟨z1,z2,z3,z4,z5,Lu z6⟩,hn1⟩
       | false=>exact h0
      | false=>
       cases w.Kind==10 with
       | true=>
        cases !(decide (0≤w.Unit)&&decide (w.Unit≤23)) with
        | true=>exact h0
        | false=>
         have hd:(ES w.Unit g.Uses).length≤n:=by
          unfold ES;cases decide (0≤GA g.Uses (RL w.Unit)) with
          | true=>exact Nat.le_trans (List.length_eraseIdx_le ..) hn
          | false=>exact hn
         have ha:(G5 w.Unit w.Value (ES w.Unit g.Uses)).length≤n+1:=by
          unfold G5;cases decide (0<w.Value) with
          | true=>simp only [cond_true,List.length_append,List.length_singleton]; omega
          | false=>simp only [cond_false]; omega
         exact ⟨⟨z1,z2,z3,Nat.le_trans ha om,z5,z6⟩,ha⟩
       | false=>exact h0
theorem XK:oF emG:=⟨by simp [emG],by simp [emG],by simp [emG],by simp [emG],by simp [emG],by simp [emG]⟩
end Go.Proofs.YtfblhejmclcdmaaGreatDoor


namespace Go.Proofs.YtfblhejmclcdmaaGreatDoor
open Go.Ab
set_option maxRecDepth 100000
theorem ZF {r:bF} (hv:validR r=true) (h:qz r=false):r.Num≠0:=by
 intro e;obtain ⟨_,_,h3,_,h5⟩:=jL hv;rw [e] at h5;unfold gL at h5;rw [show (0:Int).toNat=0 from rfl,Nat.gcd_zero_left] at h5;have:r.Den=1:=by omega
 unfold qz at h;rw [e,this] at h;cases h
theorem XL {r:bF} {lo hi:Int} (h:mM r lo hi=true):lo*r.Den≤r.Num∧r.Num≤hi*r.Den:=by
 unfold mM at h;simp only [Bool.and_eq_true,Bool.or_eq_true,decide_eq_true_eq,beq_iff_eq] at h;obtain ⟨hv,h1,h2⟩:=h;obtain ⟨n0,_,d1,_,_⟩:=jL hv;have e:=Int.mul_tdiv_add_tmod r.Num r.Den;have m0:=Int.tmod_nonneg r.Den n0;have m1:=Int.tmod_lt_of_pos r.Num (show 0<r.Den by omega);have e2:r.Den*r.Num.tdiv r.Den=r.Num.tdiv r.Den*r.Den:=Int.mul_comm _ _;have l1:lo*r.Den≤r.Num.tdiv r.Den*r.Den:=Int.mul_le_mul_of_nonneg_right h1 om;refine ⟨om,?_⟩;rcases h2 with h2 | ⟨h2,h3⟩
 ·have l2:(r.Num.tdiv r.Den+1)*r.Den≤hi*r.Den:=Int.mul_le_mul_of_nonneg_right h2 om;rw [Int.add_mul,Int.one_mul] at l2;omega
 ·rw [← h2]; omega
theorem ZG {α β:Type} {f:α→β} {l:List α} {k:Nat} {d:α} {e:β} (h:k<l.length):(l.map f).getD k e=f (l.getD k d):=by
 rw [List.getD_eq_getElem?_getD,List.getElem?_map,List.getD_eq_getElem?_getD,List.getElem?_eq_getElem h]; rfl
end Go.Proofs.YtfblhejmclcdmaaGreatDoor


namespace Go.Proofs.YtfblhejmclcdmaaGreatDoor
open Go.Ab
set_option maxRecDepth 100000
theorem Pk {α:Type} {l:List α} {j:Nat} {v d:α} (hj:j<l.length):(l.set j v).getD j d=v:=by
 rw [List.getD_eq_getElem?_getD,List.getElem?_set_self hj]; rfl
theorem Yq {α:Type} {l:List α} {i j:Nat} {v d:α} (h:i≠j):(l.set j v).getD i d=l.getD i d:=by
 rw [List.getD_eq_getElem?_getD,List.getElem?_set_ne (Ne.symm h),← List.getD_eq_getElem?_getD]
theorem ac9 {r:bF} (h:r.Num≠0):qz r=false:=by
 unfold qz;rw [show (r.Num==0)=false by simpa using h]; rfl
theorem XM {r:bF} {lo hi:Int} (hv:validR r=true) (h1:lo*r.Den≤r.Num) (h2:r.Num≤hi*r.Den):mM r lo hi=true:=by
 unfold mM;obtain ⟨n0,_,d1,_,_⟩:=jL hv;have e:=Int.mul_tdiv_add_tmod r.Num r.Den;have m0:=Int.tmod_nonneg r.Den n0;have m1:=Int.tmod_lt_of_pos r.Num (show 0<r.Den by omega);have e2:r.Den*r.Num.tdiv r.Den=r.Num.tdiv r.Den*r.Den:=Int.mul_comm _ _;simp only [Bool.and_eq_true,Bool.or_eq_true,decide_eq_true_eq,beq_iff_eq];have q1:lo≤r.Num.tdiv r.Den:=by
  refine Int.not_lt.1 fun h=>?_;have:(r.Num.tdiv r.Den+1)*r.Den≤lo*r.Den:=Int.mul_le_mul_of_nonneg_right h om;rw [Int.add_mul,Int.one_mul] at this;omega
 have q2:r.Num.tdiv r.Den≤hi:=by
  refine Int.not_lt.1 fun h=>?_;have:(hi+1)*r.Den≤r.Num.tdiv r.Den*r.Den:=Int.mul_le_mul_of_nonneg_right h om;rw [Int.add_mul,Int.one_mul] at this;omega
 refine ⟨hv,q1,?_⟩;by_cases q:r.Num.tdiv r.Den<hi
 ·exact .inl q
 ·have:r.Num.tdiv r.Den=hi:=by omega
  refine .inr ⟨this,?_⟩;rw [this] at e e2;omega
theorem MW {l:List aC} {s:List Int} (h:fA l s []=true):cZ l=0∧settB l s=true∧ownB l (fF l s)=true:=by
 unfold fA at h;simp only [Bool.and_eq_true] at h;exact ⟨(GL h.1.1).1,h.1.2,h.2.1⟩
def abI (r:bF) (x:bJ) (bt:Bool):Prop:=r.Num≠0∧r.Num≤x.High*r.Den∧(bt=false→x.Low*r.Den≤r.Num)
theorem Tj {l:List aC} {s:List Int} {k lo hi:Int} (h:fA l s []=true) (k0:0≤k) (k1:k<l.length) (h0:0≤lo) (h1:lo≤hi) (h2:hi≤4000000000):
  fA l s [⟨k,lo,hi⟩]=true↔((fF l s).getD k.toNat dA).Num≠0∧((fF l s).getD k.toNat dA).Num≤hi*((fF l s).getD k.toNat dA).Den∧lo*((fF l s).getD k.toNat dA).Den≤((fF l s).getD k.toNat dA).Num:=by
 obtain ⟨c1,c2,c3⟩:=MW h;have hv:=(K9 (xE c1) c2 k.toNat om).2.2.1;have hb:GH (l.length:Int) ⟨k,lo,hi⟩=false:=by
  unfold GH withinF;simp only [Bool.or_eq_false_iff,Bool.not_eq_false',Bool.and_eq_true,decide_eq_true_eq];omega
 have hl:limsB l [⟨k,lo,hi⟩]=true:=by
  unfold limsB;rw [c1,show List.any [(⟨k,lo,hi⟩:bJ)] (GH l.length)=false by rw [List.any_cons,hb]; rfl]; rfl
 unfold fA;rw [hl,c2,c3];simp only [Bool.true_and,List.any_cons,List.any_nil,Bool.or_false,Bool.not_eq_true'];unfold Xx;dsimp only;constructor
 ·intro e;rw [Bool.or_eq_false_iff,Bool.not_eq_false'] at e;obtain ⟨w1,w2⟩:=XL e.2;exact ⟨ZF hv e.1,w2,w1⟩
 ·rintro ⟨a1,a2,a3⟩;rw [ac9 a1,XM hv a3 a2]; rfl
def abJ (b:aU) (g:aG) (n:aH) (bt:Bool):Prop:=∀j:Nat,(j:Int)<n.Limits.length→abI ((fF b.bD g.Setting).getD (n.Limits.getD j dLimit).Clock.toNat dA) (n.Limits.getD j dLimit) bt
def abK (b:aU) (g:aG) (n:aH) (d:Int):Prop:=∀f:ByteArray,cntF n.Functions f≤R9 b.aN g.Uses d f
def ada (g:aG) (n:aH):Prop:=∀j:Nat,(j:Int)<n.Resets.length→g.Released.getD (n.Resets.getD j 0).toNat false=true
def adb (g:aG) (n:aH):Prop:=0≤n.dO→g.Powered.getD n.dO.toNat false=true
def drM (l:List aH) (ms:List Int):List bB:=ms.flatMap fun m=>(l.getD m.toNat aP).Draws
theorem iQ {b:Bool} {P:Prop} (h:b=true↔P) (c:b=false):¬P:=fun p=>by rw [h.2 p] at c; cases c
theorem QY {p_:bg} {l_:(List iC)} (h1:∀g∈p_.Groups,g.bn.length≤2000000∧g.Functions.length≤2000000) (h2:l_.length≤2000000):W (zK p_ l_) (fun r=>(r.2=0↔G9 p_ 0∧ZB p_ l_)):=by
 unfold zK;refine av (QW ob ob) fun v1 hv1=>?_;refine wi (fun c1=>?_) (fun c1=>?_)
 ·refine ah ?_;(exact ⟨fun e=>absurd e c1,fun h=>absurd (hv1.2 h) c1⟩)
 ·obtain ⟨p1,_,_⟩:=(hv1.1 c1).1.v.ok;unfold yA;refine wn ?_;refine av (pX (by simp only [List.length_map,List.length_range]; omega)) fun v2 hv2=>?_;subst v2;refine ah ?_;(exact ⟨fun _=>hv1.1 c1,fun _=>rfl⟩)
theorem OC {p_:bg} {l_:(List iC)} (h1:∀g∈p_.Groups,g.bn.length≤2000000∧g.Functions.length≤2000000) (h2:l_.length≤2000000):W (xC p_ l_) (fun r=>(r.2=0↔G9 p_ 0∧ZB p_ l_)):=by
 unfold xC;refine av (He h1) fun v1 hv1=>?_;refine wi (fun c1=>?_) (fun c1=>?_)
 ·refine ah ?_;(refine ⟨fun e=>by (try dsimp only at e); omega,fun ⟨a,_⟩=>absurd (G9.fun _ _ hv1 a) c1⟩)
 ·have hpa:G9 p_ 0:=(by rw [c1] at hv1; exact hv1);have hpv:=hpa.v;obtain ⟨⟨p1,p2,p3⟩,gr,nm⟩:=id hpv;refine wn ?_;refine bA (fun (g1:(Int×(List Int)))=>0≤g1.1∧g1.2.length=p_.bn.toNat∧(∀x:Nat,(x:Int)<g1.1→g1.2.getD x 0 = -1)) (fun (g1:(Int×(List Int)))=>(p_.bn - g1.1).toNat) ?_ ?_
  ·intro self1 g1 hig1 ihg1;obtain ⟨hg1_1,hg1_2,hg1_3⟩:=hig1;unfold Ev;refine wi (fun c2=>?_) (fun c2=>?_)
   ·refine wm ?_;refine ihg1 _ ?_ ?_
    ·(refine ⟨ob,by simp only [List.length_set]; exact hg1_2,fun x hx=>?_⟩; dsimp only at hx ⊢; by_cases q:x=g1.1.toNat; (rw [q,Pk om]); (rw [Yq q]; exact hg1_3 x om))
    ·exact ob
   ·refine bA (fun (g2:(Int×(List Int)))=>0≤g2.1∧g2.2.length=p_.bn.toNat∧(∀x:Nat,(x:Int)<p_.bn→(g2.2.getD x 0 ≠ -1↔∃j:Nat,(j:Int)<g2.1∧∃k:Nat,(k:Int)<(p_.Groups.getD (l_.getD j dS).bW.toNat ay).bn.length∧(p_.Groups.getD (l_.getD j dS).bW.toNat ay).bn.getD k 0=x))∧(∀i:Nat,(i:Int)<g2.1→aee p_ l_ i)) (fun (g2:(Int×(List Int)))=>(l_.length - g2.1).toNat) ?_ ?_
    ·intro self2 g2 hig2 ihg2;obtain ⟨hg2_1,hg2_2,hg2_3,hg2_4⟩:=hig2;unfold Eu;refine wi (fun c3=>?_) (fun c3=>?_)
     ·refine wm ?_;refine wm ?_;refine wi (fun c4=>?_) (fun c4=>?_)
      ·refine ah ?_;(refine ⟨fun e=>by (try dsimp only at e); omega,fun ⟨_,h⟩=>?_⟩; obtain ⟨⟨u1,u2,u3,u4⟩,_⟩:=h g2.1.toNat om; omega)
      ·have hu:QE p_ (l_.getD g2.1.toNat dS):=⟨om,om,om,om⟩;obtain ⟨u1,u2,u3,u4⟩:=id hu;refine bA (fun (g7:Int)=>0≤g7∧(∀k:Nat,(k:Int)<g7→(l_.getD k dS).bW≠(l_.getD g2.1.toNat dS).bW)) (fun (g7:Int)=>(g2.1 - g7).toNat) ?_ ?_
       ·intro self7 g7 hig7 ihg7;obtain ⟨hg7_1,hg7_2⟩:=hig7;unfold BN;refine wi (fun c5=>?_) (fun c5=>?_)
        ·refine wn ?_;refine wi (fun c6=>?_) (fun c6=>?_)
         ·refine ah ?_;(refine ⟨fun e=>by (try dsimp only at e); omega,fun ⟨_,h⟩=>?_⟩; obtain ⟨_,hd,_⟩:=h g2.1.toNat om; exact absurd c6 (hd g7.toNat om))
         ·refine wn ?_;refine ihg7 _ ?_ ?_
          ·(refine ⟨ob,bY hg7_2 hg7_1 c6⟩)
          ·exact ob
        ·refine wn ?_;refine bA (fun (g8:(Int×(List Int)))=>0≤g8.1∧g8.1≤(p_.Groups.getD (l_.getD g2.1.toNat dS).bW.toNat ay).bn.length∧g8.2.length=p_.bn.toNat∧(∀x:Nat,(x:Int)<p_.bn→(g8.2.getD x 0 ≠ -1↔(∃j:Nat,(j:Int)<g2.1∧∃k:Nat,(k:Int)<(p_.Groups.getD (l_.getD j dS).bW.toNat ay).bn.length∧(p_.Groups.getD (l_.getD j dS).bW.toNat ay).bn.getD k 0=x)∨∃k:Nat,(k:Int)<g8.1∧(p_.Groups.getD (l_.getD g2.1.toNat dS).bW.toNat ay).bn.getD k 0=x))∧(∀b:Nat,(b:Int)<g8.1→∀j:Nat,(j:Int)<g2.1→∀a:Nat,(a:Int)<(p_.Groups.getD (l_.getD j dS).bW.toNat ay).bn.length→(p_.Groups.getD (l_.getD j dS).bW.toNat ay).bn.getD a 0≠(p_.Groups.getD (l_.getD g2.1.toNat dS).bW.toNat ay).bn.getD b 0)) (fun (g8:(Int×(List Int)))=>((p_.Groups.getD (l_.getD g2.1.toNat dS).bW.toNat ay).bn.length - g8.1).toNat) ?_ ?_
         ·intro self8 g8 hig8 ihg8;obtain ⟨hg8_1,hg8_2,hg8_3,hg8_4,hg8_5⟩:=hig8;unfold BM;refine wi (fun c7=>?_) (fun c7=>?_)
          ·have hmg:=getD_in (l:=p_.Groups) (i:=(l_.getD g2.1.toNat dS).bW.toNat) ay om;have hgl:=(h1 _ hmg).1;have hpn:=(p3 _ hmg).pn _ (getD_in (i:=g8.1.toNat) 0 om);refine wm ?_;refine wi (fun c8=>?_) (fun c8=>?_)
           ·refine ah ?_;(refine ⟨fun e=>by (try dsimp only at e); omega,fun ⟨_,h⟩=>?_⟩; obtain ⟨_,_,hd⟩:=h g2.1.toNat om; exfalso; rcases (hg8_4 ((p_.Groups.getD (l_.getD g2.1.toNat dS).bW.toNat ay).bn.getD g8.1.toNat 0).toNat om).1 c8 with ⟨j,e3,k,e5,e6⟩ | ⟨k,e5,e6⟩; (exact hd j om k g8.1.toNat e5 om (by rw [e6]; omega)); (have:=Wi hpv u1 u2 k g8.1.toNat om om; omega))
           ·refine wm ?_;refine ihg8 _ ?_ ?_
            ·(refine ⟨ob,ob,by simp only [List.length_set]; exact hg8_3,fun x hx=>?_,fun b hb j hj a ha=>?_⟩; (dsimp only; by_cases q:x=((p_.Groups.getD (l_.getD g2.1.toNat dS).bW.toNat ay).bn.getD g8.1.toNat 0).toNat; (rw [q,Pk om]; constructor; (intro _; exact .inr ⟨g8.1.toNat,om,om⟩); (intro _; omega)); (rw [Yq q,hg8_4 x hx]; constructor; (rintro (h | ⟨k,e5,e6⟩); (exact .inl h); (exact .inr ⟨k,om,e6⟩)); (rintro (h | ⟨k,e5,e6⟩); (exact .inl h); (refine .inr ⟨k,?_,e6⟩; by_cases e:(k:Int)<g8.1; (exact e); exfalso; apply q; rw [show g8.1.toNat=k by omega]; omega)))); (by_cases q:(b:Int)<g8.1; (exact hg8_5 b q j hj a ha); (have e:b=g8.1.toNat:=by (try dsimp only at hb); omega); subst e; intro e7; have e8:=(hg8_4 ((p_.Groups.getD (l_.getD g2.1.toNat dS).bW.toNat ay).bn.getD g8.1.toNat 0).toNat om).2 (.inl ⟨j,hj,a,ha,by rw [e7]; omega⟩); omega))
            ·exact ob
          ·refine wn ?_;refine ihg2 _ ?_ ?_
           ·(refine ⟨ob,hg8_3,fun x hx=>?_,bY hg2_4 hg2_1 ⟨hu,fun k hk e=>hg7_2 k om e,fun k hk a b ha hb=>hg8_5 b om k om a ha⟩⟩; dsimp only; rw [hg8_4 x hx]; constructor; (rintro (⟨j,e3,e⟩ | ⟨k,e5,e6⟩); (exact ⟨j,om,e⟩); (exact ⟨g2.1.toNat,om,k,om,e6⟩)); (rintro ⟨j,e3,k,e5,e6⟩; by_cases q:(j:Int)<g2.1; (exact .inl ⟨j,q,k,e5,e6⟩); (have e:j=g2.1.toNat:=by omega); subst e; exact .inr ⟨k,om,e6⟩))
           ·exact ob
         ·(refine ⟨ob,ob,ob,fun x hx=>⟨fun h=>.inl ((hg2_3 x hx).1 h),?_⟩,fun b hb=>?_⟩; (rintro (h | ⟨k,e5,_⟩); (exact (hg2_3 x hx).2 h); (exfalso; (try dsimp only at e5); omega)); (exfalso; (try dsimp only at hb); omega))
       ·(refine ⟨ob,fun j hj=>by (try dsimp only at hj); omega⟩)
     ·refine ah ?_;(refine ⟨fun _=>⟨hpa,fun i hi=>hg2_4 i om⟩,fun _=>rfl⟩)
    ·(refine ⟨ob,om,fun x hx=>⟨fun h=>?_,fun ⟨j,e,_⟩=>?_⟩,fun j hj=>?_⟩; (exact absurd (hg1_3 x om) h); (exfalso; (try dsimp only at e); omega); (exfalso; (try dsimp only at hj); omega))
  ·(refine ⟨ob,by simp,fun x hx=>by dsimp only at hx; omega⟩)
theorem Sb {l_:(List aK)} (h1:l_.length≤2000000):W (Dg l_) (fun r=>r=l_.map aK.Use):=by
 unfold Dg;refine bA (fun (g1:(Int×(List iC)))=>0≤g1.1∧g1.1≤l_.length∧g1.2=(l_.take g1.1.toNat).map aK.Use) (fun (g1:(Int×(List iC)))=>(l_.length - g1.1).toNat) ?_ ?_
 ·intro self1 g1 hig1 ihg1;obtain ⟨hg1_1,hg1_2,hg1_3⟩:=hig1;unfold JD;have hgl:g1.2.length=g1.1.toNat:=(by rw [hg1_3,List.length_map,List.length_take]; omega);refine wi (fun c1=>?_) (fun c1=>?_)
  ·refine wm ?_;refine wn ?_;refine ihg1 _ ?_ ?_
   ·(refine ⟨ob,ob,?_⟩; dsimp only; rw [show (g1.1+1).toNat=g1.1.toNat+1 by omega,fH bq om,List.map_append,hg1_3]; rfl)
   ·exact ob
  ·refine ah ?_;(rw [hg1_3,show g1.1.toNat=l_.length by omega,List.take_length])
 ·(refine ⟨ob,ob,rfl⟩)
end Go.Proofs.YtfblhejmclcdmaaGreatDoor

namespace Go.Proofs.YtfblhejmclcdmaaGreatDoor
open Go.Ab
set_option maxRecDepth 100000
def fnG (l:List ByteArray) (j:Nat):ByteArray:=l.getD j ByteArray.empty
theorem abL {l:List ByteArray} {f:ByteArray} (h:0<cntF l f):∃j:Nat,(j:Int)<l.length∧fnG l j=f:=by
 unfold cntF at h;obtain ⟨x,hx,e⟩:=List.countP_pos_iff.1 h;obtain ⟨j,hj,rfl⟩:=List.mem_iff_getElem.1 hx;exact ⟨j,om,by unfold fnG; rw [List.getD_eq_getElem?_getD,List.getElem?_eq_getElem hj]; simpa using e⟩
theorem Us {l:List Int} {p:Int→Bool}:l.any p=false↔∀j:Nat,(j:Int)<l.length→p (l.getD j 0)=false:=by
 rw [List.any_eq_false];constructor
 ·intro h j hj;have:=h _ (getD_in (i:=j) 0 om);simpa using this
 ·intro h;have:∀x∈l,p x=false:=jf 0 fun j hj=>h j om;intro x hx;rw [this x hx]; decide
theorem EU {s_:dY} (h1:Oo s_):W (lI s_) (fun r=>r=fA s_.aW.bD s_.aQ.Setting []):=by
 obtain ⟨⟨s1,s2,s3,s4,s5,s6,s7⟩,vl_,n1,n2,⟨n3,n4⟩,m1,⟨z1,z2,z3,z4,z5,z6⟩⟩:=h1;unfold lI;refine av (RF ob ob ob ob) fun v1 hv1=>?_;subst v1;refine ah ?_;rfl
theorem EW {s_:dY} (h1:Oo s_) (h2:XC s_) (h3:fA s_.aW.bD s_.aQ.Setting []=true):W (lJ s_) (fun r=>r=true↔∀i:Nat,(i:Int)<s_.aI.length→abJ s_.aW s_.aQ (s_.bR.getD (s_.aI.getD i 0).toNat aP) s_.gN):=by
 obtain ⟨⟨s1,s2,s3,s4,s5,s6,s7⟩,vl_,n1,n2,⟨n3,n4⟩,m1,⟨z1,z2,z3,z4,z5,z6⟩⟩:=h1;obtain ⟨y1,y2,y3,y4,y5,y6⟩:=h2;obtain ⟨k1,k2,k3⟩:=MW h3;unfold lJ;refine av (RG ob ob ob) fun v1 hv1=>?_;subst v1;refine bP (fun c1=>?_) (fun c1=>?_)
 ·have c1o:=c1;have c1:=nr c1;refine ah ?_;(exact absurd (XJ k1 k2) c1)
 ·have c1o:=c1;have c1:=nr c1;obtain ⟨r1,r2,r3⟩:=abr (by simpa using c1o);have hrl:(Aq s_.aW.bD s_.aQ.Setting).1.length=s_.aW.bD.length:=(by rw [r3]; exact sW ..);refine bA (fun (g1:Int)=>0≤g1∧(∀i:Nat,(i:Int)<g1→abJ s_.aW s_.aQ (s_.bR.getD (s_.aI.getD i 0).toNat aP) s_.gN)) (fun (g1:Int)=>(s_.aI.length - g1).toNat) ?_ ?_
  ·intro self1 g1 hig1 ihg1;obtain ⟨hg1_1,hg1_2⟩:=hig1;unfold rX;refine wi (fun c2=>?_) (fun c2=>?_)
   ·have hmem:=getD_in (l:=s_.aI) (i:=g1.toNat) 0 om;have hmi:=y1 _ hmem;have hnd:=getD_in (l:=s_.bR) (i:=(s_.aI.getD g1.toNat 0).toNat) aP om;have hno:=n2 _ hnd;have hns:=n4 _ hnd;refine wm ?_;refine bA (fun (g4:Int)=>0≤g4∧(∀j:Nat,(j:Int)<g4→abI ((fF s_.aW.bD s_.aQ.Setting).getD ((s_.bR.getD (s_.aI.getD g1.toNat 0).toNat aP).Limits.getD j dLimit).Clock.toNat dA) ((s_.bR.getD (s_.aI.getD g1.toNat 0).toNat aP).Limits.getD j dLimit) s_.gN)) (fun (g4:Int)=>((s_.bR.getD (s_.aI.getD g1.toNat 0).toNat aP).Limits.length - g4).toNat) ?_ ?_
    ·intro self4 g4 hig4 ihg4;obtain ⟨hg4_1,hg4_2⟩:=hig4;unfold rW;refine wi (fun c3=>?_) (fun c3=>?_)
     ·obtain ⟨x1,x2,x3,x4,x5⟩:=hno.lm _ (getD_in (i:=g4.toNat) dLimit om);have hll:=hno.ll;have hv:=abt r1 r2 (((s_.bR.getD ((s_.aI.getD g1.toNat 0).toNat) aP).Limits.getD g4.toNat dLimit).Clock.toNat) om;rw [← r3] at hv;have q1:=MI (show 0≤_ by exact Int.le_trans (by decide) hv.1) hv.2 (Int.le_trans x3 x4) x5;have q2:=MI (show 0≤_ by exact Int.le_trans (by decide) hv.1) hv.2 x3 (Int.le_trans x4 x5);refine wm ?_;refine wm ?_;refine wi (fun c4=>?_) (fun c4=>?_)
      ·rw [r3] at c4;refine ah ?_;(constructor; (intro e; cases e); (intro h; exfalso; obtain ⟨l1,l2,l3⟩:=h g1.toNat om g4.toNat om; rcases c4 with (c4 | c4) | c4; (exact l1 c4); (exact Int.not_lt.2 l2 c4); (exact Int.not_lt.2 (l3 (by simpa using c4.1)) c4.2)))
      ·rw [r3] at c4;refine wn ?_;refine ihg4 _ ?_ ?_
       ·(refine ⟨ob,bY hg4_2 hg4_1 ⟨c4.1.1,c4.1.2,fun e=>c4.2.resolve_left (by rw [e]; decide)⟩⟩)
       ·exact ob
     ·have hll:=hno.ll;refine wn ?_;refine ihg1 _ ?_ ?_
      ·(refine ⟨ob,bY hg1_2 hg1_1 (fun j hj=>hg4_2 j om)⟩)
      ·exact ob
    ·(refine ⟨ob,fun j hj=>by (try dsimp only at hj); omega⟩)
   ·refine ah ?_;(constructor; (intro _; exact fun i hi=>hg1_2 i om); (intro _; rfl))
  ·(refine ⟨ob,fun j hj=>by (try dsimp only at hj); omega⟩)
theorem Cc {s_:dY} (h1:Oo s_) (h2:XC s_):W (j4 s_) (fun r=>r=Sp.fA s_.aW.aV s_.aQ.Rails (drM s_.bR s_.aI)):=by
 obtain ⟨⟨s1,s2,s3,s4,s5,s6,s7⟩,vl_,n1,n2,⟨n3,n4⟩,m1,⟨z1,z2,z3,z4,z5,z6⟩⟩:=h1;obtain ⟨y1,y2,y3,y4,y5,y6⟩:=h2;unfold j4;refine bA (fun (g1:(Int×(List bB)))=>0≤g1.1∧g1.1≤s_.aI.length∧(g1.2.length:Int)≤32*g1.1∧g1.2=drM s_.bR (s_.aI.take g1.1.toNat)) (fun (g1:(Int×(List bB)))=>(s_.aI.length - g1.1).toNat) ?_ ?_
 ·intro self1 g1 hig1 ihg1;obtain ⟨hg1_1,hg1_2,hg1_3,hg1_4⟩:=hig1;unfold qh;refine wi (fun c1=>?_) (fun c1=>?_)
  ·have hmem:=getD_in (l:=s_.aI) (i:=g1.1.toNat) 0 om;have hmi:=y1 _ hmem;have hnd:=getD_in (l:=s_.bR) (i:=(s_.aI.getD g1.1.toNat 0).toNat) aP om;have hno:=n2 _ hnd;have hns:=n4 _ hnd;have hdl:=hno.dl;refine wm ?_;refine wm ?_;refine ihg1 _ ?_ ?_
   ·(refine ⟨ob,ob,ob,?_⟩; dsimp only; unfold drM at *; rw [show (g1.1+1).toNat=g1.1.toNat+1 by omega,fH 0 om,List.flatMap_append,hg1_4]; simp only [List.flatMap_cons,List.flatMap_nil,List.append_nil])
   ·exact ob
  ·refine av (N7 ob ob) fun v1 hv1=>?_;subst v1;refine av (Sp.QD ob ob ob) fun v2 hv2=>?_;subst v2;refine ah ?_;(rw [hg1_4,show g1.1.toNat=s_.aI.length by omega,List.take_length])
 ·(refine ⟨ob,ob,ob,rfl⟩)
theorem I5 {s_:dY} (h1:Oo s_) (h2:∀g∈s_.aW.aN.Groups,g.bn.length≤2000000∧g.Functions.length≤2000000):W (nO s_) (fun r=>(r=true↔G9 s_.aW.aN 0∧ZB s_.aW.aN (s_.aQ.Uses.map aK.Use))):=by
 obtain ⟨⟨s1,s2,s3,s4,s5,s6,s7⟩,vl_,n1,n2,⟨n3,n4⟩,m1,⟨z1,z2,z3,z4,z5,z6⟩⟩:=h1;unfold nO;refine bA (fun (g1:(Int×(List iC)))=>0≤g1.1∧g1.1≤s_.aQ.Uses.length∧g1.2=(s_.aQ.Uses.take g1.1.toNat).map aK.Use) (fun (g1:(Int×(List iC)))=>(s_.aQ.Uses.length - g1.1).toNat) ?_ ?_
 ·intro self1 g1 hig1 ihg1;obtain ⟨hg1_1,hg1_2,hg1_3⟩:=hig1;unfold wC;have hgl:g1.2.length=g1.1.toNat:=(by rw [hg1_3,List.length_map,List.length_take]; omega);refine wi (fun c1=>?_) (fun c1=>?_)
  ·refine wm ?_;refine wn ?_;refine ihg1 _ ?_ ?_
   ·(refine ⟨ob,ob,?_⟩; dsimp only; rw [show (g1.1+1).toNat=g1.1.toNat+1 by omega,fH bq om,List.map_append,hg1_3]; rfl)
   ·exact ob
  ·refine av (QY h2 ob) fun v1 hv1=>?_;refine ah ?_;(rw [hg1_3,show g1.1.toNat=s_.aQ.Uses.length by omega,List.take_length] at hv1; rw [← hv1]; simp)
 ·(refine ⟨ob,ob,rfl⟩)
theorem AJ {s_:dY} (h1:Oo s_) (h2:XC s_) (h3:∀u∈s_.aQ.Uses,QE s_.aW.aN u.Use):W (jP s_) (fun r=>r=true↔∀i:Nat,(i:Int)<s_.aI.length→abK s_.aW s_.aQ (s_.bR.getD (s_.aI.getD i 0).toNat aP) (s_.aI.getD i 0)):=by
 obtain ⟨⟨s1,s2,s3,s4,s5,s6,s7⟩,vl_,n1,n2,⟨n3,n4⟩,m1,⟨z1,z2,z3,z4,z5,z6⟩⟩:=h1;obtain ⟨y1,y2,y3,y4,y5,y6⟩:=h2;unfold jP;refine bA (fun (g1:Int)=>0≤g1∧(∀i:Nat,(i:Int)<g1→abK s_.aW s_.aQ (s_.bR.getD (s_.aI.getD i 0).toNat aP) (s_.aI.getD i 0))) (fun (g1:Int)=>(s_.aI.length - g1).toNat) ?_ ?_
 ·intro self1 g1 hig1 ihg1;obtain ⟨hg1_1,hg1_2⟩:=hig1;unfold oP;refine wi (fun c1=>?_) (fun c1=>?_)
  ·have hmem:=getD_in (l:=s_.aI) (i:=g1.toNat) 0 om;have hmi:=y1 _ hmem;have hnd:=getD_in (l:=s_.bR) (i:=(s_.aI.getD g1.toNat 0).toNat) aP om;have hno:=n2 _ hnd;have hns:=n4 _ hnd;have hfl:=hno.fl;refine wn ?_;refine bA (fun (g6:(Int×(mo→Option Int)))=>0≤g6.1∧g6.1≤s_.aQ.Uses.length∧(∀k,0≤wL g6.2 k∧wL g6.2 k≤g6.1)∧(∀f,wL g6.2 (.s f)=(R9 s_.aW.aN (s_.aQ.Uses.take g6.1.toNat) (s_.aI.getD g1.toNat 0) f:Int))) (fun (g6:(Int×(mo→Option Int)))=>(s_.aQ.Uses.length - g6.1).toNat) ?_ ?_
   ·intro self6 g6 hig6 ihg6;obtain ⟨hg6_1,hg6_2,hg6_3,hg6_4⟩:=hig6;unfold oO;refine wi (fun c2=>?_) (fun c2=>?_)
    ·obtain ⟨u1,u2,u3,u4⟩:=h3 _ (getD_in (i:=g6.1.toNat) bq om);have hmk:=hg6_3 (.s (((s_.aW.aN.Groups.getD ((((s_.aQ.Uses.getD g6.1.toNat bq).Use).bW).toNat) ay).Functions).getD ((((s_.aQ.Uses.getD g6.1.toNat bq).Use).Function).toNat) ByteArray.empty));refine wn ?_;refine bP (fun c3=>?_) (fun c3=>?_)
     ·have c3o:=c3;have c3:=nr c3;refine wm ?_;refine wm ?_;refine ihg6 _ ?_ ?_
      ·(refine ⟨ob,ob,fun k=>?_,fun f=>?_⟩; (dsimp only; rw [tC]; have:=hg6_3 k; split<;>omega); dsimp only; rw [tC,hg6_4,hg6_4,show (g6.1+1).toNat=g6.1.toNat+1 by omega,fH bq om,IG]; by_cases q:f=nmU s_.aW.aN (s_.aQ.Uses.getD g6.1.toNat bq).Use; (subst q; refine (if_pos rfl).trans ?_; rw [if_pos ⟨by simpa using c3o,rfl⟩]; show ((R9 _ _ _ (nmU _ _):Nat):Int)+1=_; omega); (refine (if_neg (fun e=>q (mo.s.inj e))).trans ?_; rw [if_neg (fun e=>q e.2.symm)]; rfl))
      ·exact ob
     ·have c3o:=c3;have c3:=nr c3;refine wn ?_;refine ihg6 _ ?_ ?_
      ·(refine ⟨ob,ob,fun k=>?_,fun f=>?_⟩; (have:=hg6_3 k; dsimp only; omega); dsimp only; rw [hg6_4,show (g6.1+1).toNat=g6.1.toNat+1 by omega,fH bq om,IG,if_neg (fun e=>absurd e.1 (by simpa using c3o))]; rfl)
      ·exact ob
    ·refine wn ?_;refine bA (fun (g7:(Int×(mo→Option Int)))=>0≤g7.1∧(∀k,0≤wL g7.2 k∧wL g7.2 k≤2000000)∧(∀f,wL g7.2 (.s f)=(R9 s_.aW.aN s_.aQ.Uses (s_.aI.getD g1.toNat 0) f:Int) - (cntF ((s_.bR.getD (s_.aI.getD g1.toNat 0).toNat aP).Functions.take g7.1.toNat) f:Int))) (fun (g7:(Int×(mo→Option Int)))=>((s_.bR.getD (s_.aI.getD g1.toNat 0).toNat aP).Functions.length - g7.1).toNat) ?_ ?_
     ·intro self7 g7 hig7 ihg7;obtain ⟨hg7_1,hg7_2,hg7_3⟩:=hig7;unfold ou;refine wi (fun c4=>?_) (fun c4=>?_)
      ·have hmk:=hg7_2 (.s (((s_.bR.getD ((s_.aI.getD g1.toNat 0).toNat) aP).Functions).getD g7.1.toNat ByteArray.empty));have hlt:g7.1.toNat<(s_.bR.getD (s_.aI.getD g1.toNat 0).toNat aP).Functions.length:=om;have hts:=fH ByteArray.empty hlt;have hcs:cntF ((s_.bR.getD (s_.aI.getD g1.toNat 0).toNat aP).Functions.take (g7.1.toNat+1)) ((s_.bR.getD (s_.aI.getD g1.toNat 0).toNat aP).Functions.getD g7.1.toNat ByteArray.empty)=cntF ((s_.bR.getD (s_.aI.getD g1.toNat 0).toNat aP).Functions.take g7.1.toNat) ((s_.bR.getD (s_.aI.getD g1.toNat 0).toNat aP).Functions.getD g7.1.toNat ByteArray.empty)+1:=(by rw [hts,II,if_pos rfl]);have hct:=ZC (l:=(s_.bR.getD (s_.aI.getD g1.toNat 0).toNat aP).Functions) (f:=(s_.bR.getD (s_.aI.getD g1.toNat 0).toNat aP).Functions.getD g7.1.toNat ByteArray.empty) (g7.1.toNat+1);have hq:=hg7_3 ((s_.bR.getD (s_.aI.getD g1.toNat 0).toNat aP).Functions.getD g7.1.toNat ByteArray.empty);refine wm ?_;refine wi (fun c5=>?_) (fun c5=>?_)
       ·refine ah ?_;(constructor; (intro e; cases e); (intro h; exfalso; rw [tC,if_pos rfl] at c5; have hff:=h g1.toNat om ((s_.bR.getD (s_.aI.getD g1.toNat 0).toNat aP).Functions.getD g7.1.toNat ByteArray.empty); omega))
       ·rw [tC,if_pos rfl] at c5;refine wn ?_;refine ihg7 _ ?_ ?_
        ·(refine ⟨ob,fun k=>?_,fun f=>?_⟩; (dsimp only; rw [tC]; have:=hg7_2 k; split<;>omega); dsimp only; rw [tC,show (g7.1+1).toNat=g7.1.toNat+1 by omega]; by_cases q:f=(s_.bR.getD (s_.aI.getD g1.toNat 0).toNat aP).Functions.getD g7.1.toNat ByteArray.empty; (subst q; rw [if_pos rfl,hcs]; omega); (rw [if_neg (fun e=>q (mo.s.inj e)),hts,II,if_neg (fun e=>q e.symm),hg7_3 f]; rfl))
        ·exact ob
      ·refine wn ?_;refine ihg1 _ ?_ ?_
       ·(refine ⟨ob,bY hg1_2 hg1_1 (fun f=>?_)⟩; have e1:=hg7_3 f; have e2:=hg7_2 (.s f); rw [List.take_of_length_le om] at e1; omega)
       ·exact ob
     ·(refine ⟨ob,fun k=>by have:=hg6_3 k; dsimp only; omega,fun f=>?_⟩; dsimp only; rw [hg6_4 f,show g6.1.toNat=s_.aQ.Uses.length by omega,List.take_length]; show _=_ - ((0:Nat):Int); omega)
   ·(refine ⟨ob,ob,fun k=>⟨Int.le_refl _,Int.le_refl _⟩,fun f=>rfl⟩)
  ·refine ah ?_;(constructor; (intro _; exact fun i hi=>hg1_2 i om); (intro _; rfl))
 ·(refine ⟨ob,fun j hj=>by (try dsimp only at hj); omega⟩)
theorem EX {s_:dY} (h1:Oo s_) (h2:XC s_):W (lK s_) (fun r=>(r=true↔(XI s_.aW.Resets 0∧abG s_.aW.Resets s_.aQ.Released)∧∀i:Nat,(i:Int)<s_.aI.length→ada s_.aQ (s_.bR.getD (s_.aI.getD i 0).toNat aP))):=by
 obtain ⟨⟨s1,s2,s3,s4,s5,s6,s7⟩,vl_,n1,n2,⟨n3,n4⟩,m1,⟨z1,z2,z3,z4,z5,z6⟩⟩:=h1;obtain ⟨y1,y2,y3,y4,y5,y6⟩:=h2;unfold lK;refine av (Ox ob) fun v1 hv1=>?_;refine bP (fun c1=>?_) (fun c1=>?_)
 ·have c1o:=c1;have c1:=nr c1;refine ah ?_;(constructor; (intro e; cases e); (intro h; exact absurd (hv1.2 h.1) (by simpa using c1o)))
 ·have c1o:=c1;have c1:=nr c1;refine bA (fun (g1:Int)=>0≤g1∧(∀i:Nat,(i:Int)<g1→ada s_.aQ (s_.bR.getD (s_.aI.getD i 0).toNat aP))) (fun (g1:Int)=>(s_.aI.length - g1).toNat) ?_ ?_
  ·intro self1 g1 hig1 ihg1;obtain ⟨hg1_1,hg1_2⟩:=hig1;unfold rY;refine wi (fun c2=>?_) (fun c2=>?_)
   ·have hmem:=getD_in (l:=s_.aI) (i:=g1.toNat) 0 om;have hmi:=y1 _ hmem;have hnd:=getD_in (l:=s_.bR) (i:=(s_.aI.getD g1.toNat 0).toNat) aP om;have hno:=n2 _ hnd;have hns:=n4 _ hnd;refine wm ?_;refine av (vX om (fun x hx=>(by have:=hno.rs x hx; omega))) fun v4 hv4=>?_;subst v4;refine bP (fun c3=>?_) (fun c3=>?_)
    ·have c3o:=c3;have c3:=nr c3;refine ah ?_;(constructor; (intro e; cases e); (intro h; exfalso; have:=Us.2 (fun j hj=>by have:=h.2 g1.toNat om j hj; rw [this]; rfl) |>.symm.trans c3o; cases this))
    ·have c3o:=c3;have c3:=nr c3;refine wn ?_;refine ihg1 _ ?_ ?_
     ·(refine ⟨ob,bY hg1_2 hg1_1 (fun j hj=>?_)⟩; have:=Us.1 c3o j hj; simpa using this)
     ·exact ob
   ·refine ah ?_;(constructor; (intro _; exact ⟨hv1.1 (by simpa using c1o),fun i hi=>hg1_2 i om⟩); (intro _; rfl))
  ·(refine ⟨ob,fun j hj=>by (try dsimp only at hj); omega⟩)
theorem Dt {s_:dY} (h1:Oo s_) (h2:XC s_):W (kH s_) (fun r=>(r=true↔(DmA s_.aW.bI 0∧RgP s_.aW.bI s_.aQ.Powered)∧∀i:Nat,(i:Int)<s_.aI.length→adb s_.aQ (s_.bR.getD (s_.aI.getD i 0).toNat aP))):=by
 obtain ⟨⟨s1,s2,s3,s4,s5,s6,s7⟩,vl_,n1,n2,⟨n3,n4⟩,m1,⟨z1,z2,z3,z4,z5,z6⟩⟩:=h1;obtain ⟨y1,y2,y3,y4,y5,y6⟩:=h2;unfold kH;refine av (OA) fun v1 hv1=>?_;refine bP (fun c1=>?_) (fun c1=>?_)
 ·have c1o:=c1;have c1:=nr c1;refine ah ?_;(constructor; (intro e; cases e); (intro h; exact absurd (hv1.2 h.1) (by simpa using c1o)))
 ·have c1o:=c1;have c1:=nr c1;refine av (vY om (fun x hx=>(by have q:=y1 x hx; have:=(n2 _ (getD_in (i:=x.toNat) aP om)).dm; omega))) fun v2 hv2=>?_;subst v2;refine ah ?_;(rw [Bool.not_eq_true',Us]; constructor; (intro h; refine ⟨hv1.1 (by simpa using c1o),fun i hi=>?_⟩; have:=h i hi; intro h0; simp only [Bool.and_eq_false_iff,decide_eq_false_iff_not,Bool.not_eq_false'] at this; exact this.resolve_left (fun q=>q h0)); (intro h j hj; have:=h.2 j hj; unfold adb at this; simp only [Bool.and_eq_false_iff,decide_eq_false_iff_not,Bool.not_eq_false']; by_cases q:0≤(s_.bR.getD (s_.aI.getD j 0).toNat aP).dO; (exact .inr (this q)); exact .inl q))
end Go.Proofs.YtfblhejmclcdmaaGreatDoor

namespace Go.Proofs.YtfblhejmclcdmaaGreatDoor
open Go.Ab
set_option maxRecDepth 100000
theorem QZ {l:List aC} {s:List Int} {x:bJ} (h:fA l s []=true) (hx:V3 l.length x):fA l s [⟨x.Clock,0,x.High⟩]=true↔abI ((fF l s).getD x.Clock.toNat dA) x true:=by
 obtain ⟨x1,x2,x3,x4,x5⟩:=hx;rw [Tj h x1 x2 (Int.le_refl 0) om x5,Int.zero_mul];obtain ⟨c1,c2,_⟩:=MW h;have hv:=(jL (K9 (xE c1) c2 x.Clock.toNat om).2.2.1).1;exact ⟨fun ⟨a,b,_⟩=>⟨a,b,nofun⟩,fun ⟨a,b,_⟩=>⟨a,b,hv⟩⟩
theorem Q0 {l:List aC} {s:List Int} {x:bJ} (h:fA l s []=true) (hx:V3 l.length x):fA l s [⟨x.Clock,x.Low,x.High⟩]=true↔abI ((fF l s).getD x.Clock.toNat dA) x false:=by
 obtain ⟨x1,x2,x3,x4,x5⟩:=hx;rw [Tj h x1 x2 x3 x4 x5];exact ⟨fun ⟨a,b,c⟩=>⟨a,b,fun _=>c⟩,fun ⟨a,b,c⟩=>⟨a,b,c rfl⟩⟩
theorem Wj {A B:Int→Prop} (h:Thn A B 0):A 0∧B 0:=by
 rcases h with h | h
 ·exact absurd rfl h.2
 ·exact h
theorem Ut {b:aU} {l:List aH} (h:qB b l 0):Yo b∧l.length≤12∧∀n∈l,abq b n:=by
 obtain ⟨h1,h2⟩:=Wj h;obtain ⟨b1,h3⟩:=Wj h1;obtain ⟨b2,h4⟩:=Wj h3;obtain ⟨b3,h5⟩:=Wj h4;obtain ⟨b4,b5⟩:=Wj h5;obtain ⟨c1,c2⟩:=oV (by decide) h2;refine ⟨⟨b1.symm,b2.symm,b3.v.ok,b4.ok,b5.ok⟩,om,jf aP fun i hi=>?_⟩;obtain ⟨d1,d2⟩:=oV (by decide) (abF c2 i hi);obtain ⟨e1,e2⟩:=oV (by decide) d2;obtain ⟨f1,f2⟩:=oV (by decide) e2;obtain ⟨g1,g2⟩:=oV (by decide) f2;obtain ⟨k1,k2⟩:=oV (by decide) g2;obtain ⟨m1,m2⟩:=oV (by decide) k2;refine ⟨om,om,om,jf dLimit fun j hj=>?_,jf bX fun j hj=>?_,jf 0 fun j hj=>?_,Classical.not_not.1 m1⟩
 ·exact Classical.byContradiction fun q=>e1 ⟨j,om,q⟩
 ·exact Classical.byContradiction fun q=>f1 ⟨j,om,q⟩
 ·exact Classical.byContradiction fun q=>k1 ⟨j,om,q⟩
def ae0 (b:aU) (l:List aH) (ms:List Int) (g:aG) (bt:Bool):Prop:=∀i:Nat,(i:Int)<ms.length→abJ b g (l.getD (ms.getD i 0).toNat aP) bt
def ae1 (b:aU) (l:List aH) (ms:List Int) (g:aG):Prop:=∀i:Nat,(i:Int)<ms.length→abK b g (l.getD (ms.getD i 0).toNat aP) (ms.getD i 0)
def ae2 (b:aU) (l:List aH) (ms:List Int) (g:aG):Prop:=(XI b.Resets 0∧abG b.Resets g.Released)∧∀i:Nat,(i:Int)<ms.length→ada g (l.getD (ms.getD i 0).toNat aP)
def afI (b:aU) (l:List aH) (ms:List Int) (g:aG):Prop:=(DmA b.bI 0∧RgP b.bI g.Powered)∧∀i:Nat,(i:Int)<ms.length→adb g (l.getD (ms.getD i 0).toNat aP)
def Wm (b:aU) (l:List aH) (ms:List Int) (g:aG) (bt:Bool):Int→Prop:=
 ET (¬(Ur l ms∧abH b l g)) 1<|
 ET (fA b.bD g.Setting []=false) 2<|
 ET (¬ae0 b l ms g bt) 3<|
 ET (Sp.fA b.aV g.Rails (drM l ms)=false) 4<|
 ET (¬(G9 b.aN 0∧ZB b.aN (g.Uses.map aK.Use))) 5<|
 ET (¬ae1 b l ms g) 6<|
 ET (¬ae2 b l ms g) 7<|
 ET (¬afI b l ms g) 8<|
 fun r=>r=0
theorem Wm.fun {b:aU} {l:List aH} {ms:List Int} {g:aG} {bt:Bool}:yT (Wm b l ms g bt):=.Cv (.Cv (.Cv (.Cv (.Cv (.Cv (.Cv (.Cv .zero)))))))
def ZH (b:aU) (l:List aH) (ms:List Int) (g:aG) (bt:Bool):Int→Prop:=ET (¬qB b l 0) 1 (Wm b l ms g bt)
theorem ZH.fun {b:aU} {l:List aH} {ms:List Int} {g:aG} {bt:Bool}:yT (ZH b l ms g bt):=.Cv Wm.fun
theorem ae3 {s:dY} (h:Ur s.bR s.aI∧abH s.aW s.bR s.aQ):XC s:=by
 obtain ⟨h1,⟨h2,h3,h4,h5,h6⟩,_,_⟩:=h;exact ⟨jf 0 fun j hj=>(h1 j om).1,om,om,om,om,om⟩
theorem Yr {p:bg} {us:List aK} (h:ZB p (us.map aK.Use)):∀u∈us,QE p u.Use:=by
 refine jf bq fun i hi=>?_;have:=(h i (by rw [List.length_map]; omega)).1;rw [ZG (d:=bq) hi] at this;exact this
theorem sH {s_:dY} (h1:Oo s_) (h2:∀g∈s_.aW.aN.Groups,g.bn.length≤2000000∧g.Functions.length≤2000000):W (gK s_) (fun r=>Wm s_.aW s_.bR s_.aI s_.aQ s_.gN r):=by
 unfold gK;refine wn ?_;refine av (Hq h1) fun v1 hv1=>?_;refine wi (fun c1=>?_) (fun c1=>?_)
 ·refine wn ?_;refine ah ?_;(exact bZ (iQ hv1 c1))
 ·have q1:=hv1.1 c1;have hsh:=ae3 q1;refine wm ?_;refine av (EU h1) fun v2 hv2=>?_;subst v2;refine wi (fun c2=>?_) (fun c2=>?_)
  ·refine wn ?_;refine ah ?_;(exact aD (fun h=>h q1) (bZ c2))
  ·refine wm ?_;refine av (EW h1 hsh c2) fun v3 hv3=>?_;refine wi (fun c3=>?_) (fun c3=>?_)
   ·refine wn ?_;refine ah ?_;(exact aD (fun h=>h q1) (aD (by rw [c2]; decide) (bZ (iQ hv3 c3))))
   ·have q3:=hv3.1 c3;refine wm ?_;refine av (Cc h1 hsh) fun v4 hv4=>?_;subst v4;refine wi (fun c4=>?_) (fun c4=>?_)
    ·refine wn ?_;refine ah ?_;(exact aD (fun h=>h q1) (aD (by rw [c2]; decide) (aD (fun h=>h q3) (bZ c4))))
    ·refine wm ?_;refine av (I5 h1 h2) fun v5 hv5=>?_;refine wi (fun c5=>?_) (fun c5=>?_)
     ·refine wn ?_;refine ah ?_;(exact aD (fun h=>h q1) (aD (by rw [c2]; decide) (aD (fun h=>h q3) (aD (by rw [c4]; decide) (bZ (iQ hv5 c5))))))
     ·have q5:=hv5.1 c5;refine wm ?_;refine av (AJ h1 hsh (Yr q5.2)) fun v6 hv6=>?_;refine wi (fun c6=>?_) (fun c6=>?_)
      ·refine wn ?_;refine ah ?_;(exact aD (fun h=>h q1) (aD (by rw [c2]; decide) (aD (fun h=>h q3) (aD (by rw [c4]; decide) (aD (fun h=>h q5) (bZ (iQ hv6 c6)))))))
      ·have q6:=hv6.1 c6;refine wm ?_;refine av (EX h1 hsh) fun v7 hv7=>?_;refine wi (fun c7=>?_) (fun c7=>?_)
       ·refine wn ?_;refine ah ?_;(exact aD (fun h=>h q1) (aD (by rw [c2]; decide) (aD (fun h=>h q3) (aD (by rw [c4]; decide) (aD (fun h=>h q5) (aD (fun h=>h q6) (bZ (iQ hv7 c7))))))))
       ·have q7:=hv7.1 c7;refine wm ?_;refine av (Dt h1 hsh) fun v8 hv8=>?_;refine wi (fun c8=>?_) (fun c8=>?_)
        ·refine wn ?_;refine ah ?_;(exact aD (fun h=>h q1) (aD (by rw [c2]; decide) (aD (fun h=>h q3) (aD (by rw [c4]; decide) (aD (fun h=>h q5) (aD (fun h=>h q6) (aD (fun h=>h q7) (bZ (iQ hv8 c8)))))))))
        ·refine wn ?_;refine ah ?_;(exact aD (fun h=>h q1) (aD (by rw [c2]; decide) (aD (fun h=>h q3) (aD (by rw [c4]; decide) (aD (fun h=>h q5) (aD (fun h=>h q6) (aD (fun h=>h q7) (aD (fun h=>h (hv8.1 c8)) rfl))))))))
theorem EG {b_:aU} {l_:(List aH)} {members_:(List Int)} {g_:aG} {between_:Bool} (h1:EP b_) (h2:∀g∈b_.aN.Groups,g.bn.length≤2000000∧g.Functions.length≤2000000) (h3:GY l_) (h4:members_.length≤10000) (h5:oF g_):W (fD b_ l_ members_ g_ between_) (fun r=>ZH b_ l_ members_ g_ between_ r):=by
 unfold fD;refine av (uz h1 h2 h3) fun v1 hv1=>?_;refine wi (fun c1=>?_) (fun c1=>?_)
 ·refine ah ?_;exact bZ (fun h=>c1 (qB.fun _ _ hv1 h))
 ·have hn0:qB b_ l_ 0:=(by rw [c1] at hv1; exact hv1);obtain ⟨nk1,nk2,nk3⟩:=Ut hn0;refine av (sH ⟨h1,nk1,nk2,nk3,h3,h4,h5⟩ h2) fun v2 hv2=>?_;refine ah ?_;exact aD (fun h=>h hn0) hv2
theorem OD {b_:aU} {g_:aG} {x_:aH} {between_:Bool} (h1:b_.bD.length≤2000000) (h2:g_.Setting.length≤2000000) (h3:Xw b_.bD) (h4:fA b_.bD g_.Setting []=true) (h5:∀x∈x_.Limits,V3 b_.bD.length x) (h6:x_.Limits.length≤2000000):W (xB b_ g_ x_ between_) (fun r=>r=true↔abJ b_ g_ x_ between_):=by
 unfold xB;refine bA (fun (g1:Int)=>0≤g1∧(∀j:Nat,(j:Int)<g1→abI ((fF b_.bD g_.Setting).getD (x_.Limits.getD j dLimit).Clock.toNat dA) (x_.Limits.getD j dLimit) between_)) (fun (g1:Int)=>(x_.Limits.length - g1).toNat) ?_ ?_
 ·intro self1 g1 hig1 ihg1;obtain ⟨hg1_1,hg1_2⟩:=hig1;unfold Et;refine wi (fun c1=>?_) (fun c1=>?_)
  ·have hx:=h5 _ (getD_in (i:=g1.toNat) dLimit om);refine wn ?_;refine wi (fun c2=>?_) (fun c2=>?_)
   ·subst c2;unfold l8;refine av (yY ob ob ob ob) fun v3 hv3=>?_;subst v3;refine wi (fun c3=>?_) (fun c3=>?_)
    ·refine ah ?_;(constructor; (intro e; cases e); (intro h; exfalso; rw [(QZ h4 hx).2 (h g1.toNat om)] at c3; cases c3))
    ·refine wn ?_;refine ihg1 _ ?_ ?_
     ·(refine ⟨ob,bY hg1_2 hg1_1 ((QZ h4 hx).1 c3)⟩)
     ·exact ob
   ·subst c2;unfold l8;refine av (yY ob ob ob ob) fun v3 hv3=>?_;subst v3;refine wi (fun c4=>?_) (fun c4=>?_)
    ·refine ah ?_;(constructor; (intro e; cases e); (intro h; exfalso; rw [(Q0 h4 hx).2 (h g1.toNat om)] at c4; cases c4))
    ·refine wn ?_;refine ihg1 _ ?_ ?_
     ·(refine ⟨ob,bY hg1_2 hg1_1 ((Q0 h4 hx).1 c4)⟩)
     ·exact ob
  ·refine ah ?_;(constructor; (intro _; exact fun j hj=>hg1_2 j om); (intro _; rfl))
 ·(refine ⟨ob,fun j hj=>by (try dsimp only at hj); omega⟩)
theorem Kl {b_:aU} {g_:aG} {x_:aH} {device_:Int} (h1:g_.Uses.length≤2000000) (h2:x_.Functions.length≤2000000) (h3:∀u∈g_.Uses,QE b_.aN u.Use):W (pG b_ g_ x_ device_) (fun r=>r=true↔abK b_ g_ x_ device_):=by
 unfold pG;refine bA (fun (g1:Int)=>0≤g1∧(∀j:Nat,(j:Int)<g1→cntF x_.Functions (fnG x_.Functions j)≤R9 b_.aN g_.Uses device_ (fnG x_.Functions j))) (fun (g1:Int)=>(x_.Functions.length - g1).toNat) ?_ ?_
 ·intro self1 g1 hig1 ihg1;obtain ⟨hg1_1,hg1_2⟩:=hig1;unfold yO;refine wi (fun c1=>?_) (fun c1=>?_)
  ·refine wn ?_;refine bA (fun (g6:(Int×Int))=>0≤g6.2∧g6.2≤x_.Functions.length∧(0≤g6.1∧g6.1≤g6.2)∧g6.1=(cntF (x_.Functions.take g6.2.toNat) (x_.Functions.getD g1.toNat ByteArray.empty):Int)) (fun (g6:(Int×Int))=>(x_.Functions.length - g6.2).toNat) ?_ ?_
   ·intro self6 g6 hig6 ihg6;obtain ⟨hg6_1,hg6_2,hg6_3,hg6_4⟩:=hig6;unfold yN;refine wi (fun c2=>?_) (fun c2=>?_)
    ·refine wn ?_;refine bP (fun c3=>?_) (fun c3=>?_)
     ·have c3o:=c3;have c3:=nr c3;refine wm ?_;refine ihg6 _ ?_ ?_
      ·(refine ⟨ob,ob,ob,?_⟩; dsimp only; rw [hg6_4,show (g6.2+1).toNat=g6.2.toNat+1 by omega,fH ByteArray.empty om,II,if_pos (QS (by simpa using c3o))]; rfl)
      ·exact ob
     ·have c3o:=c3;have c3:=nr c3;refine wn ?_;refine ihg6 _ ?_ ?_
      ·(refine ⟨ob,ob,ob,?_⟩; dsimp only; rw [hg6_4,show (g6.2+1).toNat=g6.2.toNat+1 by omega,fH ByteArray.empty om,II,if_neg (fun e=>by rw [e] at c3o; simp at c3o)]; rfl)
      ·exact ob
    ·refine bA (fun (g7:(Int×Int))=>0≤g7.2∧g7.2≤g_.Uses.length∧(0≤g7.1∧g7.1≤g7.2)∧g7.1=(R9 b_.aN (g_.Uses.take g7.2.toNat) device_ (x_.Functions.getD g1.toNat ByteArray.empty):Int)) (fun (g7:(Int×Int))=>(g_.Uses.length - g7.2).toNat) ?_ ?_
     ·intro self7 g7 hig7 ihg7;obtain ⟨hg7_1,hg7_2,hg7_3,hg7_4⟩:=hig7;unfold wH;refine wi (fun c4=>?_) (fun c4=>?_)
      ·obtain ⟨u1,u2,u3,u4⟩:=h3 _ (getD_in (i:=g7.2.toNat) bq om);refine wm ?_;refine wn ?_;refine bP (fun c5=>?_) (fun c5=>?_)
       ·have c5o:=c5;have c5:=nr c5;refine wm ?_;refine ihg7 _ ?_ ?_
        ·(refine ⟨ob,ob,ob,?_⟩; dsimp only; rw [hg7_4,show (g7.2+1).toNat=g7.2.toNat+1 by omega,fH bq om,IG,if_pos (by simp only [Bool.and_eq_true,beq_iff_eq] at c5o; exact ⟨c5o.1,QS c5o.2⟩)]; rfl)
        ·exact ob
       ·have c5o:=c5;have c5:=nr c5;refine wn ?_;refine ihg7 _ ?_ ?_
        ·(refine ⟨ob,ob,ob,?_⟩; dsimp only; rw [hg7_4,show (g7.2+1).toNat=g7.2.toNat+1 by omega,fH bq om,IG,if_neg (fun e=>by have e2:=e.2; unfold nmU at e2; rw [e.1,e2] at c5o; simp at c5o)]; rfl)
        ·exact ob
      ·rw [List.take_of_length_le om] at hg6_4 hg7_4;refine wi (fun c6=>?_) (fun c6=>?_)
       ·refine ah ?_;(constructor; (intro e; cases e); (intro h; exfalso; have:=h (x_.Functions.getD g1.toNat ByteArray.empty); omega))
       ·refine wn ?_;refine ihg1 _ ?_ ?_
        ·(refine ⟨ob,bY hg1_2 hg1_1 (by unfold fnG; omega)⟩)
        ·exact ob
     ·(refine ⟨ob,ob,ob,rfl⟩)
   ·(refine ⟨ob,ob,ob,rfl⟩)
  ·refine ah ?_;(constructor; (intro _ f; rcases Nat.eq_zero_or_pos (cntF x_.Functions f) with e | e; (omega); (obtain ⟨j,h4,rfl⟩:=abL e; exact hg1_2 j om)); (intro _; rfl))
 ·(refine ⟨ob,fun j hj=>by (try dsimp only at hj); omega⟩)
end Go.Proofs.YtfblhejmclcdmaaGreatDoor

namespace Go.Proofs.YtfblhejmclcdmaaGreatDoor.Sp
open Go.Ab
set_option maxRecDepth 100000
theorem Q5 {l_:(List au)} {r_:bf} (h1:l_.length≤2000000) (h2:r_.Level.length≤2000000):W (zX l_ r_) (fun r=>r=rE l_ r_):=by
 unfold zX;refine av (Sp.uo ob) fun v1 hv1=>?_;subst v1;refine bP (fun c1=>?_) (fun c1=>?_)
 ·have c1o:=c1;have c1:=nr c1;refine ah ?_;(unfold rE; rw [c1o]; rfl)
 ·have c1o:=c1;have c1:=nr c1;have hck:cZ l_=0∧r_.On.length=l_.length∧r_.Level.length=l_.length:=(by have:=c1o; simp only [Bool.or_eq_false_iff,bne_eq_false_iff_eq] at this; omega);obtain ⟨b1,b2,b3⟩:=Dk hck.1;refine bA (fun (g1:Int)=>0≤g1∧g1≤l_.length∧rlN (l_.drop g1.toNat) (r_.Level.drop g1.toNat)=rlN l_ r_.Level) (fun (g1:Int)=>(l_.length - g1).toNat) ?_ ?_
  ·intro self1 g1 hig1 ihg1;obtain ⟨hg1_1,hg1_2,hg1_3⟩:=hig1;unfold Gy;obtain ⟨i,rfl⟩:=Int.eq_ofNat_of_zero_le hg1_1;refine wi (fun c2=>?_) (fun c2=>?_)
   ·have hlt:i<l_.length:=om;have hb:=b2 i hlt;rw [show ((i:Int).toNat)=i from rfl,drop_cons aj hlt,drop_cons 0 (show i<r_.Level.length by omega),rlN] at hg1_3;simp only [Int.toNat_natCast] at *;refine wm ?_;refine wn ?_;refine av (Sp.lU) fun v4 hv4=>?_;subst v4;refine bP (fun c3=>?_) (fun c3=>?_)
    ·have c3o:=c3;have c3:=nr c3;refine ah ?_;(unfold rE; rw [c1o,← hg1_3]; rw [show withinF (r_.Level.getD i 0) 0 _=false by simpa using c3o]; rfl)
    ·have c3o:=c3;have c3:=nr c3;refine wn ?_;refine ihg1 _ ?_ ?_
     ·(refine ⟨ob,ob,?_⟩; rw [← hg1_3,show withinF (r_.Level.getD i 0) 0 _=true by simpa using c3o,show ((i:Int)+1).toNat=i+1 by omega]; rfl)
     ·exact ob
   ·refine ah ?_;have e:i=l_.length:=om;unfold rE; rw [c1o,← hg1_3,show (i:Int).toNat=i from rfl,e,List.drop_length]; cases List.drop l_.length r_.Level<;>rfl
  ·(refine ⟨ob,ob,rfl⟩)
end Go.Proofs.YtfblhejmclcdmaaGreatDoor.Sp


namespace Go.Proofs.YtfblhejmclcdmaaGreatDoor
open Go.Ab
set_option maxRecDepth 100000
theorem Q6 {l_:(List au)} {r_:bf} {d_:(List bB)} (h1:l_.length≤2000000) (h2:d_.length≤2000000) (h3:r_.Level.length≤2000000):W (zY l_ r_ d_) (fun r=>r=Sp.fA l_ r_ d_):=by
 unfold zY;refine av (Sp.JK ob ob) fun v1 hv1=>?_;subst v1;refine av (eD fun hc=>jm (Sp.Q5 ob ob)) fun v2 hv2=>?_;subst v2;refine av (eD fun hc=>jm (Sp.JL (Sp.Xz (by simp only [Bool.and_eq_true] at hc; exact hc.1)) (Sp.IB.1 (by simp only [Bool.and_eq_true] at hc; exact hc.2)).2)) fun v3 hv3=>?_;subst v3;refine ah ?_;(unfold Sp.fA; cases Sp.mE l_ d_<;>cases Sp.rE l_ r_<;>rfl)
theorem wh {b_:aU} {l_:(List aH)} {members_:(List Int)} {g_:aG} {between_:Bool} (h1:EP b_) (h2:∀g∈b_.aN.Groups,g.bn.length≤2000000∧g.Functions.length≤2000000) (h3:GY l_) (h4:members_.length≤10000) (h5:oF g_):W (kg b_ l_ members_ g_ between_) (fun r=>ZH b_ l_ members_ g_ between_ r):=by
 obtain ⟨n3,n4⟩:=id h3;obtain ⟨s1,s2,s3,s4,s5,s6,s7⟩:=id h1;obtain ⟨z1,z2,z3,z4,z5,z6⟩:=id h5;unfold kg;refine av (uD h1 h2 h3) fun v1 hv1=>?_;refine av (Bj fun hc=>Cb n3 om) fun v2 hv2=>?_;refine av (Bj fun hc=>OB h1 n3 h5) fun v3 hv3=>?_;refine bP (fun c1=>?_) (fun c1=>?_)
 ·have c1o:=c1;have c1:=nr c1;refine ah ?_;(by_cases q:qB b_ l_ 0; (refine aD (fun h=>h q) (bZ (fun h=>?_)); have e:=qB.fun _ _ hv1 q; have a2:=(hv2 (by rw [e]; rfl)).2 h.1; have a3:=(hv3 (by rw [e,a2]; rfl)).2 h.2; rw [e,a2,a3] at c1o; cases c1o); exact bZ q)
 ·have c1o:=c1;have c1:=nr c1;have e1:v1=0∧v2=true∧v3=true:=(by simp only [Bool.or_eq_false_iff,bne_eq_false_iff_eq,Bool.not_eq_false'] at c1o; exact ⟨c1o.1.1,c1o.1.2,c1o.2⟩);have hn0:qB b_ l_ 0:=(by rw [e1.1] at hv1; exact hv1);have q1:Ur l_ members_∧abH b_ l_ g_:=⟨(hv2 (by rw [e1.1]; rfl)).1 e1.2.1,(hv3 (by rw [e1.1,e1.2.1]; rfl)).1 e1.2.2⟩;have nok:=Ut hn0;have hsl:=q1.2.1;refine av (yY s1 z1 (by decide) s2) fun v4 hv4=>?_;subst v4;refine wi (fun c2=>?_) (fun c2=>?_)
  ·refine ah ?_;(exact aD (fun h=>h hn0) (aD (fun h=>h q1) (bZ c2)))
  ·refine bA (fun (g1:(Int×(List bB)))=>0≤g1.1∧g1.1≤members_.length∧(g1.2.length:Int)≤32*g1.1∧g1.2=drM l_ (members_.take g1.1.toNat)∧(∀i:Nat,(i:Int)<g1.1→abJ b_ g_ (l_.getD (members_.getD i 0).toNat aP) between_)) (fun (g1:(Int×(List bB)))=>(members_.length - g1.1).toNat) ?_ ?_
   ·intro self1 g1 hig1 ihg1;obtain ⟨hg1_1,hg1_2,hg1_3,hg1_4,hg1_5⟩:=hig1;unfold Ez;refine wi (fun c3=>?_) (fun c3=>?_)
    ·have hmi:=(q1.1 g1.1.toNat om).1;have hnd:=getD_in (l:=l_) (i:=(members_.getD g1.1.toNat 0).toNat) aP om;have hno:=nok.2.2 _ hnd;have hns:=n4 _ hnd;obtain ⟨o1,o2,o3,o4,o5,o6,o7⟩:=id hno;refine aZ (by first | omega | (unfold InI64; omega) | (intro h0; have:=of_decide_eq_true h0; omega) | (unfold big; omega)) ?_;refine aZ (by first | omega | (unfold InI64; omega) | (intro h0; have:=of_decide_eq_true h0; omega) | (unfold big; omega)) ?_;refine av (OD s1 z1 s2 c2 o4 om) fun v7 hv7=>?_;refine wi (fun c4=>?_) (fun c4=>?_)
     ·refine ah ?_;(exact aD (fun h=>h hn0) (aD (fun h=>h q1) (aD (by rw [c2]; decide) (bZ (fun h=>iQ hv7 c4 (h g1.1.toNat om))))))
     ·refine aZ (by first | omega | (unfold InI64; omega) | (intro h0; have:=of_decide_eq_true h0; omega) | (unfold big; omega)) ?_;refine aZ (by first | omega | (unfold InI64; omega) | (intro h0; have:=of_decide_eq_true h0; omega) | (unfold big; omega)) ?_;refine aZ (by first | omega | (unfold InI64; omega) | (intro h0; have:=of_decide_eq_true h0; omega) | (unfold big; omega)) ?_;refine ihg1 _ ?_ ?_
      ·(refine ⟨om,om,by (simp only [List.length_append]; omega),?_,bY hg1_5 hg1_1 (hv7.1 c4)⟩; dsimp only; unfold drM at *; rw [show (g1.1+1).toNat=g1.1.toNat+1 by omega,fH 0 om,List.flatMap_append,hg1_4]; simp only [List.flatMap_cons,List.flatMap_nil,List.append_nil])
      ·omega
    ·have q3:ae0 b_ l_ members_ g_ between_:=fun i hi=>hg1_5 i om;have hdr:g1.2=drM l_ members_:=(by rw [hg1_4,show g1.1.toNat=members_.length by omega,List.take_length]);have hdl2:(drM l_ members_).length≤2000000:=(by rw [← hdr]; omega);rw [hdr];refine av (Q6 s3 hdl2 z3) fun v8 hv8=>?_;subst v8;refine wi (fun c5=>?_) (fun c5=>?_)
     ·refine ah ?_;(exact aD (fun h=>h hn0) (aD (fun h=>h q1) (aD (by rw [c2]; decide) (aD (fun h=>h q3) (bZ c5)))))
     ·refine av (Sb z4) fun v9 hv9=>?_;subst v9;refine av (OC h2 (by rw [List.length_map]; exact z4)) fun v10 hv10=>?_;refine wi (fun c6=>?_) (fun c6=>?_)
      ·refine ah ?_;(exact aD (fun h=>h hn0) (aD (fun h=>h q1) (aD (by rw [c2]; decide) (aD (fun h=>h q3) (aD (by rw [c5]; decide) (bZ (fun h=>c6 (hv10.2 h))))))))
      ·have q5:=hv10.1 c6;have hown:=Yr q5.2;refine bA (fun (g2:Int)=>0≤g2∧(∀i:Nat,(i:Int)<g2→abK b_ g_ (l_.getD (members_.getD i 0).toNat aP) (members_.getD i 0))) (fun (g2:Int)=>(members_.length - g2).toNat) ?_ ?_
       ·intro self2 g2 hig2 ihg2;obtain ⟨hg2_1,hg2_2⟩:=hig2;unfold BR;refine wi (fun c7=>?_) (fun c7=>?_)
        ·have hmi:=(q1.1 g2.toNat om).1;have hnd:=getD_in (l:=l_) (i:=(members_.getD g2.toNat 0).toNat) aP om;have hno:=nok.2.2 _ hnd;have hns:=n4 _ hnd;obtain ⟨o1,o2,o3,o4,o5,o6,o7⟩:=id hno;refine aZ (by first | omega | (unfold InI64; omega) | (intro h0; have:=of_decide_eq_true h0; omega) | (unfold big; omega)) ?_;refine aZ (by first | omega | (unfold InI64; omega) | (intro h0; have:=of_decide_eq_true h0; omega) | (unfold big; omega)) ?_;refine av (Kl z4 om hown) fun v13 hv13=>?_;refine wi (fun c8=>?_) (fun c8=>?_)
         ·refine ah ?_;(exact aD (fun h=>h hn0) (aD (fun h=>h q1) (aD (by rw [c2]; decide) (aD (fun h=>h q3) (aD (by rw [c5]; decide) (aD (fun h=>h q5) (bZ (fun h=>iQ hv13 c8 (h g2.toNat om)))))))))
         ·refine aZ (by first | omega | (unfold InI64; omega) | (intro h0; have:=of_decide_eq_true h0; omega) | (unfold big; omega)) ?_;refine ihg2 _ ?_ ?_
          ·(refine ⟨om,bY hg2_2 hg2_1 (hv13.1 c8)⟩)
          ·omega
        ·have q6:ae1 b_ l_ members_ g_:=fun i hi=>hg2_2 i om;refine av (Oy s6) fun v14 hv14=>?_;refine wi (fun c9=>?_) (fun c9=>?_)
         ·refine ah ?_;(exact aD (fun h=>h hn0) (aD (fun h=>h q1) (aD (by rw [c2]; decide) (aD (fun h=>h q3) (aD (by rw [c5]; decide) (aD (fun h=>h q5) (aD (fun h=>h q6) (bZ (fun h=>iQ hv14 c9 h.1)))))))))
         ·have q7a:=hv14.1 c9;refine bA (fun (g3:Int)=>0≤g3∧(∀i:Nat,(i:Int)<g3→ada g_ (l_.getD (members_.getD i 0).toNat aP))) (fun (g3:Int)=>(members_.length - g3).toNat) ?_ ?_
          ·intro self3 g3 hig3 ihg3;obtain ⟨hg3_1,hg3_2⟩:=hig3;unfold BQ;refine wi (fun c10=>?_) (fun c10=>?_)
           ·have hmi:=(q1.1 g3.toNat om).1;have hnd:=getD_in (l:=l_) (i:=(members_.getD g3.toNat 0).toNat) aP om;have hno:=nok.2.2 _ hnd;have hns:=n4 _ hnd;obtain ⟨o1,o2,o3,o4,o5,o6,o7⟩:=id hno;refine aZ (by first | omega | (unfold InI64; omega) | (intro h0; have:=of_decide_eq_true h0; omega) | (unfold big; omega)) ?_;refine aZ (by first | omega | (unfold InI64; omega) | (intro h0; have:=of_decide_eq_true h0; omega) | (unfold big; omega)) ?_;refine bA (fun (g6:Int)=>0≤g6∧(∀j:Nat,(j:Int)<g6→g_.Released.getD ((l_.getD (members_.getD g3.toNat 0).toNat aP).Resets.getD j 0).toNat false=true)) (fun (g6:Int)=>((l_.getD (members_.getD g3.toNat 0).toNat aP).Resets.length - g6).toNat) ?_ ?_
            ·intro self6 g6 hig6 ihg6;obtain ⟨hg6_1,hg6_2⟩:=hig6;unfold BO;refine wi (fun c11=>?_) (fun c11=>?_)
             ·have hx:=o6 _ (getD_in (i:=g6.toNat) 0 om);refine aZ (by first | omega | (unfold InI64; omega) | (intro h0; have:=of_decide_eq_true h0; omega) | (unfold big; omega)) ?_;refine aZ (by first | omega | (unfold InI64; omega) | (intro h0; have:=of_decide_eq_true h0; omega) | (unfold big; omega)) ?_;refine wi (fun c12=>?_) (fun c12=>?_)
              ·refine ah ?_;(exact aD (fun h=>h hn0) (aD (fun h=>h q1) (aD (by rw [c2]; decide) (aD (fun h=>h q3) (aD (by rw [c5]; decide) (aD (fun h=>h q5) (aD (fun h=>h q6) (bZ (fun h=>by have:=h.2 g3.toNat om g6.toNat om; rw [this] at c12; cases c12)))))))))
              ·refine aZ (by first | omega | (unfold InI64; omega) | (intro h0; have:=of_decide_eq_true h0; omega) | (unfold big; omega)) ?_;refine ihg6 _ ?_ ?_
               ·(refine ⟨om,bY hg6_2 hg6_1 c12⟩)
               ·omega
             ·refine aZ (by first | omega | (unfold InI64; omega) | (intro h0; have:=of_decide_eq_true h0; omega) | (unfold big; omega)) ?_;refine ihg3 _ ?_ ?_
              ·(refine ⟨om,bY hg3_2 hg3_1 (fun j hj=>hg6_2 j om)⟩)
              ·omega
            ·(refine ⟨om,fun j hj=>by (try dsimp only at hj); omega⟩)
           ·have q7:ae2 b_ l_ members_ g_:=⟨q7a,fun i hi=>hg3_2 i om⟩;refine av (QU) fun v15 hv15=>?_;refine wi (fun c13=>?_) (fun c13=>?_)
            ·refine ah ?_;(exact aD (fun h=>h hn0) (aD (fun h=>h q1) (aD (by rw [c2]; decide) (aD (fun h=>h q3) (aD (by rw [c5]; decide) (aD (fun h=>h q5) (aD (fun h=>h q6) (aD (fun h=>h q7) (bZ (fun h=>iQ hv15 c13 h.1))))))))))
            ·have q8a:=hv15.1 c13;refine bA (fun (g7:Int)=>0≤g7∧(∀i:Nat,(i:Int)<g7→adb g_ (l_.getD (members_.getD i 0).toNat aP))) (fun (g7:Int)=>(members_.length - g7).toNat) ?_ ?_
             ·intro self7 g7 hig7 ihg7;obtain ⟨hg7_1,hg7_2⟩:=hig7;unfold BP;refine wi (fun c14=>?_) (fun c14=>?_)
              ·have hmi:=(q1.1 g7.toNat om).1;have hnd:=getD_in (l:=l_) (i:=(members_.getD g7.toNat 0).toNat) aP om;have hno:=nok.2.2 _ hnd;have hns:=n4 _ hnd;obtain ⟨o1,o2,o3,o4,o5,o6,o7⟩:=id hno;refine aZ (by first | omega | (unfold InI64; omega) | (intro h0; have:=of_decide_eq_true h0; omega) | (unfold big; omega)) ?_;refine aZ (by first | omega | (unfold InI64; omega) | (intro h0; have:=of_decide_eq_true h0; omega) | (unfold big; omega)) ?_;refine aZ (by first | omega | (unfold InI64; omega) | (intro h0; have:=of_decide_eq_true h0; omega) | (unfold big; omega)) ?_;refine bP (fun c15=>?_) (fun c15=>?_)
               ·have c15o:=c15;have c15:=nr c15;refine ah ?_;(exact aD (fun h=>h hn0) (aD (fun h=>h q1) (aD (by rw [c2]; decide) (aD (fun h=>h q3) (aD (by rw [c5]; decide) (aD (fun h=>h q5) (aD (fun h=>h q6) (aD (fun h=>h q7) (bZ (fun h=>by have:=h.2 g7.toNat om c15.1; rw [this] at c15; cases c15.2))))))))))
               ·have c15o:=c15;have c15:=nr c15;refine aZ (by first | omega | (unfold InI64; omega) | (intro h0; have:=of_decide_eq_true h0; omega) | (unfold big; omega)) ?_;refine ihg7 _ ?_ ?_
                ·(refine ⟨om,bY hg7_2 hg7_1 (fun h0=>?_)⟩; simp only [Bool.and_eq_false_iff,decide_eq_false_iff_not,Bool.not_eq_false'] at c15o; exact c15o.resolve_left (fun q=>q h0))
                ·omega
              ·refine ah ?_;(exact aD (fun h=>h hn0) (aD (fun h=>h q1) (aD (by rw [c2]; decide) (aD (fun h=>h q3) (aD (by rw [c5]; decide) (aD (fun h=>h q5) (aD (fun h=>h q6) (aD (fun h=>h q7) (aD (fun h=>h ⟨q8a,fun i hi=>hg7_2 i om⟩) rfl)))))))))
             ·(refine ⟨om,fun j hj=>by (try dsimp only at hj); omega⟩)
          ·(refine ⟨om,fun j hj=>by (try dsimp only at hj); omega⟩)
       ·(refine ⟨om,fun j hj=>by (try dsimp only at hj); omega⟩)
   ·(refine ⟨om,by (dsimp only; omega),by (simp only [List.length_nil]; omega),rfl,fun i hi=>by (try dsimp only at hi); omega⟩)
end Go.Proofs.YtfblhejmclcdmaaGreatDoor


namespace Go.Proofs.YtfblhejmclcdmaaGreatDoor
open Go.Ab
set_option maxRecDepth 100000
def Ww (w:bU) (g:aG):aG×Int:=bif (dx w g).1 then ((dx w g).2,0) else (g,2)
theorem Oa {w:bU} {g g':aG} (h:dx w g=(false,g')):(g,2)=Ww w g:=by unfold Ww; rw [h]; rfl
theorem Du {w:bU} {g g':aG} (h:dx w g=(true,g')):(g',0)=Ww w g:=by unfold Ww; rw [h]; rfl
theorem ae4 {w:bU} {g:aG} (h:w.Value<0):dx w g=(false,g):=by unfold dx; rw [decide_eq_true h]; rfl
theorem ag1 {w:bU} {g:aG} (h:0≤w.Value) (k:w.Kind=1):dx w g=((oG g.Setting w.Unit w.Value).1,{ g with Setting:=(oG g.Setting w.Unit w.Value).2 }):=by unfold dx; rw [k,decide_eq_false om]; rfl
theorem ag2 {w:bU} {g:aG} (h:0≤w.Value) (k:w.Kind=2):dx w g=((oG g.Rails.Level w.Unit w.Value).1,{ g with Rails:=⟨g.Rails.On,(oG g.Rails.Level w.Unit w.Value).2⟩ }):=by unfold dx; rw [k,decide_eq_false om]; rfl
theorem ag3 {w:bU} {g:aG} (h:0≤w.Value) (k:w.Kind=3):dx w g=(bif decide (w.Value≤1) then ((oG g.Rails.On w.Unit (w.Value==1)).1,{ g with Rails:=⟨(oG g.Rails.On w.Unit (w.Value==1)).2,g.Rails.Level⟩ }) else (false,g)):=by unfold dx; rw [k,decide_eq_false (show ¬ w.Value<0 by omega)]; rfl
theorem ae6 {w:bU} {g:aG} (h:0≤w.Value) (k:w.Kind=11):dx w g=(bif decide (w.Value≤1) then ((oG g.Released w.Unit (w.Value==1)).1,{ g with Released:=(oG g.Released w.Unit (w.Value==1)).2 }) else (false,g)):=by unfold dx; rw [k,decide_eq_false (show ¬ w.Value<0 by omega)]; rfl
theorem ae7 {w:bU} {g:aG} (h:0≤w.Value) (k:w.Kind=12):dx w g=(bif decide (w.Value≤1) then ((oG g.Powered w.Unit (w.Value==1)).1,{ g with Powered:=(oG g.Powered w.Unit (w.Value==1)).2 }) else (false,g)):=by unfold dx; rw [k,decide_eq_false (show ¬ w.Value<0 by omega)]; rfl
theorem ae8 {w:bU} {g:aG} (h:0≤w.Value) (k:w.Kind=10):dx w g=(bif !(decide (0≤w.Unit)&&decide (w.Unit≤23)) then (false,g) else (true,{ g with Uses:=G5 w.Unit w.Value (ES w.Unit g.Uses) })):=by unfold dx; rw [k,decide_eq_false (show ¬ w.Value<0 by omega)]; rfl
theorem agx {w:bU} {g:aG} (h:¬w.Kind=1∧¬w.Kind=2∧¬w.Kind=3∧¬w.Kind=11∧¬w.Kind=12∧¬w.Kind=10):dx w g=(false,g):=by
 unfold dx;obtain ⟨h1,h2,h3,h4,h5,h6⟩:=h;rw [show (w.Kind==1)=false by simpa using h1,show (w.Kind==2)=false by simpa using h2,show (w.Kind==3)=false by simpa using h3,show (w.Kind==11)=false by simpa using h4,show (w.Kind==12)=false by simpa using h5,show (w.Kind==10)=false by simpa using h6];cases decide (w.Value<0)<;>rfl
theorem Lv {α:Type} {l:List α} {u:Int} {v:α} (h:u<0∨(l.length:Int)≤u):oG l u v=(false,l):=by
 unfold oG;rw [show (decide (u<0)||decide ((l.length:Int)≤u))=true by simpa using h]; rfl
theorem Hr {α:Type} {l:List α} {u:Int} {v:α} (h:0≤u) (k:u<l.length):oG l u v=(true,l.set u.toNat v):=by
 unfold oG;rw [decide_eq_false om,decide_eq_false om]; rfl
theorem Yt {i:Int} {o:List aK} (h0:0≤i) (h1:i<o.length):(J5 o (0+i.toNat) ((o.drop (0+(i+1).toNat)).take (o.length - (i+1).toNat))).take (i.toNat+(o.length - (i+1).toNat))=o.eraseIdx i.toNat:=by
 refine adB bq ?_ ?_
 ·rw [List.length_take,eT,List.length_eraseIdx_of_lt om];omega
 ·intro t ht;rw [List.length_take,eT] at ht;rw [nT _ _ _ _ om,Il bq om,QG];simp only [List.length_take,List.length_drop];by_cases c:t<i.toNat
  ·rw [if_neg om,if_pos c]
  ·rw [if_pos om,if_neg c,nT _ _ _ _ om,Tg];congr 1;omega
def ApK (g:aG) (w:bU) (p:Int×Bool):Prop:=(w.Kind=1∧p=((g.Setting.length:Int),false))∨(w.Kind=2∧p=((g.Rails.Level.length:Int),false))∨(w.Kind=3∧p=((g.Rails.On.length:Int),true))∨(w.Kind=11∧p=((g.Released.length:Int),true))∨(w.Kind=12∧p=((g.Powered.length:Int),true))∨(w.Kind=10∧p=(24,false))
theorem aef {g:aG} {w:bU} {p:Int×Bool} (h:ApK g w p) (c:((w.Unit<0∨p.1≤w.Unit)∨w.Value<0)∨p.2=true∧1<w.Value):(g,2)=Ww w g:=by
 by_cases hv:w.Value<0
 ·exact Oa (ae4 hv)
 ·have hv:0≤w.Value:=by omega
  rcases h with ⟨k,rfl⟩ | ⟨k,rfl⟩ | ⟨k,rfl⟩ | ⟨k,rfl⟩ | ⟨k,rfl⟩ | ⟨k,rfl⟩
  ·refine Oa (g':=g) ?_;rw [ag1 hv k,Lv (by simp at c; omega)]
  ·refine Oa (g':=g) ?_;rw [ag2 hv k,Lv (by simp at c; omega)]
  ·refine Oa (g':=g) ?_;rw [ag3 hv k];by_cases q:w.Value≤1
   ·rw [decide_eq_true q,Lv (by simp at c; omega)]; rfl
   ·rw [decide_eq_false q]; rfl
  ·refine Oa (g':=g) ?_;rw [ae6 hv k];by_cases q:w.Value≤1
   ·rw [decide_eq_true q,Lv (by simp at c; omega)]; rfl
   ·rw [decide_eq_false q]; rfl
  ·refine Oa (g':=g) ?_;rw [ae7 hv k];by_cases q:w.Value≤1
   ·rw [decide_eq_true q,Lv (by simp at c; omega)]; rfl
   ·rw [decide_eq_false q]; rfl
  ·refine Oa (g':=g) ?_;rw [ae8 hv k,show (!(decide (0≤w.Unit)&&decide (w.Unit≤23)))=true by simp at c ⊢; omega]; rfl
theorem AL {i_:Int} {j_:Int} {o0_:(List aK)} (h1:0≤i_) (h2:j_=i_+1) (h3:j_≤o0_.length) (h4:o0_.length≤2000000):W (jB i_ j_ o0_) (fun r=>r.1+1=o0_.length∧r.2.length=o0_.length∧r.2.take r.1=o0_.eraseIdx i_.toNat):=by
 unfold jB;refine wn ?_;refine bP (fun c1=>?_) (fun c1=>?_)
 ·have c1o:=c1;have c1:=nr c1;have c1:i_=j_:=(by simpa using c1o);refine ah ?_;(exfalso; omega)
 ·have c1o:=c1;have c1:=nr c1;refine wm ?_;refine wm ?_;refine ah ?_;(refine ⟨by dsimp only; omega,by simp only [eT],(del_eq ⟨h1,h2⟩ h3 (Nat.le_refl _) om rfl).trans (by rw [List.take_length])⟩)
theorem MX {w_:bU} {o1_:(List Int)} {o2_:(List Bool)} {o3_:(List Int)} {o4_:(List aK)} {o5_:(List Bool)} {o6_:(List Bool)} (h1:o4_.length≤2000000) (h2:w_.Value≤9223372036854775807):W (qZ w_ o1_ o2_ o3_ o4_ o5_ o6_) (fun r=>(r.1,grT r.2)=dx w_ ⟨o1_,⟨o2_,o3_⟩,o4_,o5_,o6_⟩∧r.2.2.1.length=o1_.length∧r.2.2.2.1.length=o2_.length∧r.2.2.2.2.1.length=o3_.length∧r.2.2.2.2.2.1.length=o5_.length∧r.2.2.2.2.2.2.1.length=o6_.length∧r.2.1≤r.2.2.2.2.2.2.2.length∧r.2.2.2.2.2.2.2.length≤o4_.length+1):=by
 unfold qZ;refine bP (fun c1=>?_) (fun c1=>?_)
 ·have c1o:=c1;have c1:=nr c1;refine ah ?_;(refine ⟨(by unfold dx grT Pf; dsimp only; rw [List.take_length,c1o]; rfl),?_,?_,?_,?_,?_,?_,?_⟩<;>first | rfl | exact dM .. | (dsimp only; omega) | (simp only [List.length_append,List.length_take,List.length_singleton]; omega))
 ·have c1o:=c1;have c1:=nr c1;refine bP (fun c2=>?_) (fun c2=>?_)
  ·have c2o:=c2;have c2:=nr c2;refine av (pI) fun v1 hv1=>?_;subst v1;refine aZ (by (exact dM ..)) ?_;refine ah ?_;(refine ⟨(by unfold dx grT Pf; dsimp only; rw [List.take_length,c1o,c2o]; rfl),?_,?_,?_,?_,?_,?_,?_⟩<;>first | rfl | exact dM .. | (dsimp only; omega) | (simp only [List.length_append,List.length_take,List.length_singleton]; omega))
  ·have c2o:=c2;have c2:=nr c2;refine bP (fun c3=>?_) (fun c3=>?_)
   ·have c3o:=c3;have c3:=nr c3;refine av (pI) fun v2 hv2=>?_;subst v2;refine aZ (by (exact dM ..)) ?_;refine ah ?_;(refine ⟨(by unfold dx grT Pf; dsimp only; rw [List.take_length,c1o,c2o,c3o]; rfl),?_,?_,?_,?_,?_,?_,?_⟩<;>first | rfl | exact dM .. | (dsimp only; omega) | (simp only [List.length_append,List.length_take,List.length_singleton]; omega))
   ·have c3o:=c3;have c3:=nr c3;refine bP (fun c4=>?_) (fun c4=>?_)
    ·have c4o:=c4;have c4:=nr c4;refine bP (fun c5=>?_) (fun c5=>?_)
     ·have c5o:=c5;have c5:=nr c5;have d5:decide (w_.Value≤1)=true:=(by simpa using c5o);refine av (jF) fun v3 hv3=>?_;subst v3;refine aZ (by (exact dM ..)) ?_;refine ah ?_;(refine ⟨(by unfold dx grT Pf; dsimp only; rw [List.take_length,c1o,c2o,c3o,c4o,d5]; rfl),?_,?_,?_,?_,?_,?_,?_⟩<;>first | rfl | exact dM .. | (dsimp only; omega) | (simp only [List.length_append,List.length_take,List.length_singleton]; omega))
     ·have c5o:=c5;have c5:=nr c5;have d5:decide (w_.Value≤1)=false:=(by simpa using c5o);refine wn ?_;refine ah ?_;(refine ⟨(by unfold dx grT Pf; dsimp only; rw [List.take_length,c1o,c2o,c3o,c4o,d5]; rfl),?_,?_,?_,?_,?_,?_,?_⟩<;>first | rfl | exact dM .. | (dsimp only; omega) | (simp only [List.length_append,List.length_take,List.length_singleton]; omega))
    ·have c4o:=c4;have c4:=nr c4;refine bP (fun c6=>?_) (fun c6=>?_)
     ·have c6o:=c6;have c6:=nr c6;refine bP (fun c7=>?_) (fun c7=>?_)
      ·have c7o:=c7;have c7:=nr c7;have d7:decide (w_.Value≤1)=true:=(by simpa using c7o);refine av (jF) fun v4 hv4=>?_;subst v4;refine aZ (by (exact dM ..)) ?_;refine ah ?_;(refine ⟨(by unfold dx grT Pf; dsimp only; rw [List.take_length,c1o,c2o,c3o,c4o,c6o,d7]; rfl),?_,?_,?_,?_,?_,?_,?_⟩<;>first | rfl | exact dM .. | (dsimp only; omega) | (simp only [List.length_append,List.length_take,List.length_singleton]; omega))
      ·have c7o:=c7;have c7:=nr c7;have d7:decide (w_.Value≤1)=false:=(by simpa using c7o);refine wn ?_;refine ah ?_;(refine ⟨(by unfold dx grT Pf; dsimp only; rw [List.take_length,c1o,c2o,c3o,c4o,c6o,d7]; rfl),?_,?_,?_,?_,?_,?_,?_⟩<;>first | rfl | exact dM .. | (dsimp only; omega) | (simp only [List.length_append,List.length_take,List.length_singleton]; omega))
     ·have c6o:=c6;have c6:=nr c6;refine bP (fun c8=>?_) (fun c8=>?_)
      ·have c8o:=c8;have c8:=nr c8;refine bP (fun c9=>?_) (fun c9=>?_)
       ·have c9o:=c9;have c9:=nr c9;have d9:decide (w_.Value≤1)=true:=(by simpa using c9o);refine av (jF) fun v5 hv5=>?_;subst v5;refine aZ (by (exact dM ..)) ?_;refine ah ?_;(refine ⟨(by unfold dx grT Pf; dsimp only; rw [List.take_length,c1o,c2o,c3o,c4o,c6o,c8o,d9]; rfl),?_,?_,?_,?_,?_,?_,?_⟩<;>first | rfl | exact dM .. | (dsimp only; omega) | (simp only [List.length_append,List.length_take,List.length_singleton]; omega))
       ·have c9o:=c9;have c9:=nr c9;have d9:decide (w_.Value≤1)=false:=(by simpa using c9o);refine wn ?_;refine ah ?_;(refine ⟨(by unfold dx grT Pf; dsimp only; rw [List.take_length,c1o,c2o,c3o,c4o,c6o,c8o,d9]; rfl),?_,?_,?_,?_,?_,?_,?_⟩<;>first | rfl | exact dM .. | (dsimp only; omega) | (simp only [List.length_append,List.length_take,List.length_singleton]; omega))
      ·have c8o:=c8;have c8:=nr c8;refine bP (fun c10=>?_) (fun c10=>?_)
       ·have c10o:=c10;have c10:=nr c10;refine av (jN) fun v6 hv6=>?_;subst v6;refine bP (fun c11=>?_) (fun c11=>?_)
        ·have c11o:=c11;have c11:=nr c11;refine ah ?_;(refine ⟨(by unfold dx grT Pf; dsimp only; rw [List.take_length,c1o,c2o,c3o,c4o,c6o,c8o,c10o,c11o]; rfl),?_,?_,?_,?_,?_,?_,?_⟩<;>first | rfl | exact dM .. | (dsimp only; omega) | (simp only [List.length_append,List.length_take,List.length_singleton]; omega))
        ·have c11o:=c11;have c11:=nr c11;refine av (mO ob) fun v9 hv9=>?_;subst v9;refine bP (fun c12=>?_) (fun c12=>?_)
         ·have c12o:=c12;have c12:=nr c12;refine aZ (by (have:=Pe c12; unfold InI64; omega)) ?_;refine av (AL c12 rfl (by have:=Pe c12; omega) h1) fun v10 hv10=>?_;obtain ⟨hv10_1,hv10_2,hv10_3⟩:=hv10;refine wn ?_;unfold jK;refine wn ?_;refine bP (fun c13=>?_) (fun c13=>?_)
          ·have c13o:=c13;have c13:=nr c13;refine wm ?_;refine ah ?_;(refine ⟨(by unfold dx; rw [c1o,c2o,c3o,c4o,c6o,c8o,c10o,c11o]; simp only [cond_true,cond_false]; unfold G5 ES grT Pf; dsimp only; rw [c12o,c13o,um om,hv10_3]; rfl),?_,?_,?_,?_,?_,?_,?_⟩<;>first | rfl | exact dM .. | (dsimp only; omega) | (simp only [List.length_append,List.length_take,List.length_singleton]; omega))
          ·have c13o:=c13;have c13:=nr c13;refine ah ?_;(refine ⟨(by unfold dx; rw [c1o,c2o,c3o,c4o,c6o,c8o,c10o,c11o]; simp only [cond_true,cond_false]; unfold G5 ES grT Pf; dsimp only; rw [c12o,c13o,hv10_3]; rfl),?_,?_,?_,?_,?_,?_,?_⟩<;>first | rfl | exact dM .. | (dsimp only; omega) | (simp only [List.length_append,List.length_take,List.length_singleton]; omega))
         ·have c12o:=c12;have c12:=nr c12;unfold jK;refine wn ?_;refine bP (fun c14=>?_) (fun c14=>?_)
          ·have c14o:=c14;have c14:=nr c14;refine wm ?_;refine ah ?_;(refine ⟨(by unfold dx; rw [c1o,c2o,c3o,c4o,c6o,c8o,c10o,c11o]; simp only [cond_true,cond_false]; unfold G5 ES grT Pf; dsimp only; rw [c12o,c14o,um om,List.take_length]; rfl),?_,?_,?_,?_,?_,?_,?_⟩<;>first | rfl | exact dM .. | (dsimp only; omega) | (simp only [List.length_append,List.length_take,List.length_singleton]; omega))
          ·have c14o:=c14;have c14:=nr c14;refine ah ?_;(refine ⟨(by unfold dx; rw [c1o,c2o,c3o,c4o,c6o,c8o,c10o,c11o]; simp only [cond_true,cond_false]; unfold G5 ES grT Pf; dsimp only; rw [c12o,c14o,List.take_length]; rfl),?_,?_,?_,?_,?_,?_,?_⟩<;>first | rfl | exact dM .. | (dsimp only; omega) | (simp only [List.length_append,List.length_take,List.length_singleton]; omega))
       ·have c10o:=c10;have c10:=nr c10;refine ah ?_;(refine ⟨(by unfold dx grT Pf; dsimp only; rw [List.take_length,c1o,c2o,c3o,c4o,c6o,c8o,c10o]; rfl),?_,?_,?_,?_,?_,?_,?_⟩<;>first | rfl | exact dM .. | (dsimp only; omega) | (simp only [List.length_append,List.length_take,List.length_singleton]; omega))
theorem Q7 {b_:aU} {g_:aG} {w_:bU} (h1:oF g_) (h2:w_.Value≤9223372036854775807):W (Aa b_ g_ w_) (fun r=>r=Ww w_ g_):=by
 obtain ⟨z1,z2,z3,z4,z5,z6⟩:=id h1;unfold Aa;refine av (GZ h1) fun v1 hv1=>?_;subst v1;refine av (MX z4 h2) fun v2 hv2=>?_;obtain ⟨hv2_1,hv2_2,hv2_3,hv2_4,hv2_5,hv2_6,hv2_7,hv2_8⟩:=hv2;have hg:(⟨g_.Setting,⟨g_.Rails.On,g_.Rails.Level⟩,g_.Uses,g_.Released,g_.Powered⟩:aG)=g_:=rfl;have hap:=hv2_1;rw [hg] at hap;dsimp only at hv2_2 hv2_3 hv2_4 hv2_5 hv2_6 hv2_8;refine aZ (by (refine ⟨hv2_2,hv2_3,hv2_4,hv2_5,hv2_6,?_⟩; (try simp only [List.length_take]); omega)) ?_;refine wi (fun c1=>?_) (fun c1=>?_)
 ·refine av (GZ h1) fun v3 hv3=>?_;subst v3;refine ah ?_;(unfold Ww; rw [← hap]; dsimp only; rw [c1]; rfl)
 ·refine ah ?_;(unfold Ww; rw [← hap]; dsimp only; rw [c1]; rfl)
theorem iL {g_:aG} {w_:bU} {g1:(Int×Bool)}   (hc:oF g_∧w_.Value≤9223372036854775807∧ApK g_ w_ g1):W (gJ g_ w_ g1) (fun r=>r=Ww w_ g_):=by
 obtain ⟨hc_1,hc_2,hc_3⟩:=hc;unfold gJ;refine bP (fun c1=>?_) (fun c1=>?_)
 ·have c1o:=c1;have c1:=nr c1;refine ah ?_;(exact aef hc_3 c1)
 ·have c1o:=c1;have c1:=nr c1;obtain ⟨d1,d2,d3,d4⟩:0≤w_.Unit∧w_.Unit<g1.1∧0≤w_.Value∧(g1.2=true→w_.Value≤1):=(by simp only [Bool.or_eq_false_iff,Bool.and_eq_false_iff,decide_eq_false_iff_not] at c1o; refine ⟨om,om,om,fun e=>?_⟩; rcases c1o.2 with q | q; (rw [e] at q; cases q); omega);obtain ⟨z1,z2,z3,z4,z5,z6⟩:=id hc_1;refine av (Ul ob) fun v1 hv1=>?_;subst v1;refine wi (fun c2=>?_) (fun c2=>?_)
  ·have hp:g1=((g_.Setting.length:Int),false):=(by rcases hc_3 with ⟨k,e⟩ | ⟨k,e⟩ | ⟨k,e⟩ | ⟨k,e⟩ | ⟨k,e⟩ | ⟨k,e⟩<;>first | exact e | omega);rw [hp] at d2 d4;dsimp only at d2 d4;refine wn ?_;refine ah ?_;(exact Du (by rw [ag1 d3 c2,Hr d1 d2]))
  ·refine wi (fun c3=>?_) (fun c3=>?_)
   ·have hp:g1=((g_.Rails.Level.length:Int),false):=(by rcases hc_3 with ⟨k,e⟩ | ⟨k,e⟩ | ⟨k,e⟩ | ⟨k,e⟩ | ⟨k,e⟩ | ⟨k,e⟩<;>first | exact e | omega);rw [hp] at d2 d4;dsimp only at d2 d4;refine wn ?_;refine ah ?_;(exact Du (by rw [ag2 d3 c3,Hr d1 d2]))
   ·refine wi (fun c4=>?_) (fun c4=>?_)
    ·have hp:g1=((g_.Rails.On.length:Int),true):=(by rcases hc_3 with ⟨k,e⟩ | ⟨k,e⟩ | ⟨k,e⟩ | ⟨k,e⟩ | ⟨k,e⟩ | ⟨k,e⟩<;>first | exact e | omega);rw [hp] at d2 d4;dsimp only at d2 d4;refine wn ?_;refine ah ?_;(exact Du (by rw [ag3 d3 c4,decide_eq_true (d4 rfl),Hr d1 d2]; rfl))
    ·refine wi (fun c5=>?_) (fun c5=>?_)
     ·have hp:g1=((g_.Released.length:Int),true):=(by rcases hc_3 with ⟨k,e⟩ | ⟨k,e⟩ | ⟨k,e⟩ | ⟨k,e⟩ | ⟨k,e⟩ | ⟨k,e⟩<;>first | exact e | omega);rw [hp] at d2 d4;dsimp only at d2 d4;refine wn ?_;refine ah ?_;(exact Du (by rw [ae6 d3 c5,decide_eq_true (d4 rfl),Hr d1 d2]; rfl))
     ·refine wi (fun c6=>?_) (fun c6=>?_)
      ·have hp:g1=((g_.Powered.length:Int),true):=(by rcases hc_3 with ⟨k,e⟩ | ⟨k,e⟩ | ⟨k,e⟩ | ⟨k,e⟩ | ⟨k,e⟩ | ⟨k,e⟩<;>first | exact e | omega);rw [hp] at d2 d4;dsimp only at d2 d4;refine wn ?_;refine ah ?_;(exact Du (by rw [ae7 d3 c6,decide_eq_true (d4 rfl),Hr d1 d2]; rfl))
      ·refine wi (fun c7=>?_) (fun c7=>?_)
       ·have hp:g1=((24:Int),false):=(by rcases hc_3 with ⟨k,e⟩ | ⟨k,e⟩ | ⟨k,e⟩ | ⟨k,e⟩ | ⟨k,e⟩ | ⟨k,e⟩<;>first | exact e | omega);rw [hp] at d2 d4;dsimp only at d2 d4;have hA:dx w_ g_=(true,{ g_ with Uses:=G5 w_.Unit w_.Value (ES w_.Unit g_.Uses) }):=(by rw [ae8 d3 c7,show (!(decide (0≤w_.Unit)&&decide (w_.Unit≤23)))=false by simp; omega]; rfl);refine bA (fun (g4:Int)=>0≤g4∧g4≤g_.Uses.length∧(g_.Uses.take g4.toNat).any (RL w_.Unit)=false) (fun (g4:Int)=>(g_.Uses.length - g4).toNat) ?_ ?_
        ·intro self4 g4 hig4 ihg4;obtain ⟨hg4_1,hg4_2,hg4_3⟩:=hig4;unfold Ep;refine wi (fun c8=>?_) (fun c8=>?_)
         ·refine wn ?_;refine bP (fun c9=>?_) (fun c9=>?_)
          ·have c9o:=c9;have c9:=nr c9;have hI:GA g_.Uses (RL w_.Unit)=g4:=Ub (d:=bq) hg4_1 om hg4_3 (by unfold RL; simpa using c9o);refine wm ?_;refine wm ?_;unfold pE;refine wn ?_;refine bP (fun c10=>?_) (fun c10=>?_)
           ·have c10o:=c10;have c10:=nr c10;refine wm ?_;refine ah ?_;(refine (Du hA).symm ▸ ?_; unfold G5 ES; rw [hI,decide_eq_true hg4_1,c10o]; simp only [cond_true]; rw [Yt hg4_1 om])
           ·have c10o:=c10;have c10:=nr c10;refine ah ?_;(refine (Du hA).symm ▸ ?_; unfold G5 ES; rw [hI,decide_eq_true hg4_1,c10o]; simp only [cond_true,cond_false]; rw [Yt hg4_1 om])
          ·have c9o:=c9;have c9:=nr c9;refine wn ?_;refine ihg4 _ ?_ ?_
           ·(refine ⟨ob,ob,?_⟩; rw [show (g4+1).toNat=g4.toNat+1 by omega,any_take_succ _ _ bq om,hg4_3]; unfold RL; simpa using c9o)
           ·exact ob
         ·have hI:decide (0≤GA g_.Uses (RL w_.Unit))=false:=(by rw [nH]; rw [List.take_of_length_le om] at hg4_3; exact hg4_3);unfold pE;refine wn ?_;refine bP (fun c11=>?_) (fun c11=>?_)
          ·have c11o:=c11;have c11:=nr c11;refine wm ?_;refine ah ?_;(refine (Du hA).symm ▸ ?_; unfold G5 ES; rw [hI,c11o,List.take_length]; rfl)
          ·have c11o:=c11;have c11:=nr c11;refine ah ?_;(refine (Du hA).symm ▸ ?_; unfold G5 ES; rw [hI,c11o,List.take_length]; rfl)
        ·(refine ⟨ob,ob,by simp⟩)
       ·refine ah ?_;(exfalso; rcases hc_3 with ⟨k,e⟩ | ⟨k,e⟩ | ⟨k,e⟩ | ⟨k,e⟩ | ⟨k,e⟩ | ⟨k,e⟩<;>omega)
theorem Ht {b_:aU} {g_:aG} {w_:bU} (h1:oF g_) (h2:w_.Value≤9223372036854775807):W (uW b_ g_ w_) (fun r=>r=Ww w_ g_):=by
 obtain ⟨z1,z2,z3,z4,z5,z6⟩:=id h1;unfold uW;refine wi (fun c1=>?_) (fun c1=>?_)
 ·exact iL (by (exact ⟨h1,h2,.inl ⟨c1,rfl⟩⟩))
 ·refine wi (fun c2=>?_) (fun c2=>?_)
  ·exact iL (by (exact ⟨h1,h2,.inr (.inl ⟨c2,rfl⟩)⟩))
  ·refine wi (fun c3=>?_) (fun c3=>?_)
   ·exact iL (by (exact ⟨h1,h2,.inr (.inr (.inl ⟨c3,rfl⟩))⟩))
   ·refine wi (fun c4=>?_) (fun c4=>?_)
    ·exact iL (by (exact ⟨h1,h2,.inr (.inr (.inr (.inl ⟨c4,rfl⟩)))⟩))
    ·refine wi (fun c5=>?_) (fun c5=>?_)
     ·exact iL (by (exact ⟨h1,h2,.inr (.inr (.inr (.inr (.inl ⟨c5,rfl⟩))))⟩))
     ·refine wi (fun c6=>?_) (fun c6=>?_)
      ·exact iL (by (exact ⟨h1,h2,.inr (.inr (.inr (.inr (.inr (⟨c6,rfl⟩)))))⟩))
      ·refine ah ?_;(exact Oa (agx ⟨c1,c2,c3,c4,c5,c6⟩))
end Go.Proofs.YtfblhejmclcdmaaGreatDoor


namespace Go.Proofs.YtfblhejmclcdmaaGreatDoor
open Go.Ab
set_option maxRecDepth 100000
theorem Uu {A:Int→Prop} (h:yT A) {r:Int} (hr:A r):r=Classical.epsilon A:=h _ _ hr (Classical.epsilon_spec ⟨r,hr⟩)
noncomputable def ndX (b:aU) (l:List aH):Int:=Classical.epsilon (qB b l)
noncomputable def dfX (l:List aH) (m:List Int):Bool := @decide (Ur l m) (Classical.propDecidable _)
noncomputable def scX (s:dY):Int:=Classical.epsilon (Wm s.aW s.bR s.aI s.aQ s.gN)
noncomputable def brX (b:aU) (l:List aH) (m:List Int) (g:aG):Int:=scX ⟨b,l,m,g,true⟩
theorem adE {l:List aH} {m:List Int} {r:Bool} (h:r=true↔Ur l m):r=dfX l m:=by
 unfold dfX;cases r with
 | true=>exact (@decide_eq_true _ (_) (h.1 rfl)).symm
 | false=>exact (@decide_eq_false _ (_) (fun q=>by cases h.2 q)).symm
theorem ae9 {b:aU} {l:List aH} {r:Int} (h:qB b l r):r=ndX b l∧(r=0→Yo b∧l.length≤12∧(∀n∈l,abq b n)):=⟨Uu qB.fun h,fun e=>Ut (by rw [e] at h; exact h)⟩
theorem afa {l:List aH} {m:List Int} {r:Bool} (h:r=true↔Ur l m):r=dfX l m∧(r=true→∀x∈m,0≤x∧x<l.length):=⟨adE h,fun e=>jf 0 fun j hj=>(h.1 e j om).1⟩
theorem Sc {b_:aU} {l_:List aH} (h1:EP b_) (h2:∀g∈b_.aN.Groups,g.bn.length≤2000000∧g.Functions.length≤2000000) (h3:GY l_):W (lH b_ l_) (fun r=>r=ndX b_ l_∧(r=0→Yo b_∧l_.length≤12∧(∀n∈l_,abq b_ n))):=MB (uz h1 h2 h3) fun _ h=>ae9 h
theorem Sd {b_:aU} {l_:List aH} (h1:EP b_) (h2:∀g∈b_.aN.Groups,g.bn.length≤2000000∧g.Functions.length≤2000000) (h3:GY l_):W (nE b_ l_) (fun r=>r=ndX b_ l_∧qB b_ l_ r):=MB (uD h1 h2 h3) fun _ h=>⟨Uu qB.fun h,h⟩
theorem Km {l_:List aH} {members_:List Int} (h1:l_.length≤2000000) (h2:members_.length≤2000000):W (jW l_ members_) (fun r=>r=dfX l_ members_∧(r=true→∀m∈members_,0≤m∧m<l_.length)):=MB (yU h1 h2) fun _ h=>afa h
theorem MZ {l_:List aH} {members_:List Int} (h1:l_.length≤2000000) (h2:members_.length≤2000000):W (mh l_ members_) (fun r=>r=dfX l_ members_):=MB (Cb h1 h2) fun _ h=>adE h
theorem sI {s_:dY} (h1:Oo s_) (h2:∀g∈s_.aW.aN.Groups,g.bn.length≤2000000∧g.Functions.length≤2000000):W (gK s_) (fun r=>r=scX s_):=MB (sH h1 h2) fun _ h=>Uu Wm.fun h
theorem EH {b_:aU} {l_:List aH} {members_:List Int} {g_:aG} (h1:EP b_) (h2:∀g∈b_.aN.Groups,g.bn.length≤2000000∧g.Functions.length≤2000000) (h3:GY l_) (h4:members_.length≤10000) (h5:oF g_) (h6:qB b_ l_ 0):W (kg b_ l_ members_ g_ true) (fun r=>r=brX b_ l_ members_ g_):=
 MB (wh h1 h2 h3 h4 h5) fun _ h=>by
  rcases h with ⟨h,_⟩ | ⟨_,h⟩
  ·exact absurd h6 h
  ·exact Uu Wm.fun h
noncomputable def ZI (b:aU) (l:List aH) (m:List Int):List bU→Int→aG→aG×Int×Int×Int
 | [],i,g=>(g,i,0,0)
 | w::t,i,g=>bif !(dx w g).1 then (emG,0,0,2) else bif brX b l m (dx w g).2 != 0 then ((dx w g).2,i,brX b l m (dx w g).2,0) else ZI b l m t (i+1) (dx w g).2
noncomputable def pY (b:aU) (l:List aH) (m:List Int) (g:aG) (w:List bU):aG×Int×Int×Int:=
 bif ndX b l != 0 then (emG,0,0,ndX b l) else bif !dfX l m then (emG,0,0,2) else bif brX b l m g != 0 then (g,-1,brX b l m g,0) else ZI b l m w 0 g
theorem apX_cases (w:bU) (g:aG):((dx w g).1=true∧Ww w g=((dx w g).2,0))∨((dx w g).1=false∧Ww w g=(g,2)):=by
 unfold Ww;cases (dx w g).1
 ·exact .inr ⟨rfl,rfl⟩
 ·exact .inl ⟨rfl,rfl⟩
theorem Q8 {b_:aU} {l_:(List aH)} {members_:(List Int)} {g_:aG} {w_:(List bU)} (h1:EP b_) (h2:GY l_) (h3:members_.length≤10000) (h4:oF g_) (h5:g_.Uses.length≤100000) (h6:w_.length≤100000) (h7:∀x∈w_,x.Value≤9223372036854775807) (h8:∀g∈b_.aN.Groups,g.bn.length≤2000000∧g.Functions.length≤2000000):W (uQ b_ l_ members_ g_ w_) (fun r=>r=pY b_ l_ members_ g_ w_):=by
 have h2r:=h2;obtain ⟨n3,n4⟩:=h2;obtain ⟨z1,z2,z3,z4,z5,z6⟩:=id h4;unfold uQ;refine av (Sc h1 h8 h2r) fun v1 hv1=>?_;obtain ⟨hv1_1,hv1_2⟩:=hv1;refine bP (fun c1=>?_) (fun c1=>?_)
 ·have c1o:=c1;have c1:=nr c1;refine ah ?_;(unfold pY; rw [← hv1_1,c1o]; rfl)
 ·have c1o:=c1;have c1:=nr c1;refine av (Km n3 om) fun v2 hv2=>?_;obtain ⟨hv2_1,hv2_2⟩:=hv2;refine bP (fun c2=>?_) (fun c2=>?_)
  ·have c2o:=c2;have c2:=nr c2;refine ah ?_;(unfold pY; rw [← hv1_1,c1o,← hv2_1,c2o]; rfl)
  ·have c2o:=c2;have c2:=nr c2;obtain ⟨q1,q2,q3⟩:=hv1_2 (by simpa using c1o);have hsc:∀g:aG,oF g→Oo (⟨b_,l_,members_,g,true⟩:dY):=fun g hg=>⟨h1,q1,q2,q3,h2r,h3,hg⟩
   refine av (GZ ob) fun v3 hv3=>?_;subst v3;refine av (sI (hsc _ h4) h8) fun v4 hv4=>?_;subst v4;refine bP (fun c3=>?_) (fun c3=>?_)
   ·have c3o:=c3;have c3:=nr c3;refine ah ?_;(unfold pY; rw [← hv1_1,c1o,← hv2_1,c2o]; simp only [cond_false]; unfold brX; rw [c3o]; rfl)
   ·have c3o:=c3;have c3:=nr c3;have htf:pY b_ l_ members_ g_ w_=ZI b_ l_ members_ w_ 0 g_:=(by unfold pY; rw [← hv1_1,c1o,← hv2_1,c2o]; simp only [cond_false]; unfold brX; rw [c3o]; rfl);refine bA (fun (g1:(Int×Nat×(List Int)×(List Bool)×(List Int)×(List aK)×(List Bool)×(List Bool)))=>0≤g1.1∧g1.1≤w_.length∧g1.2.1≤g1.2.2.2.2.2.1.length∧(g1.2.2.2.2.2.1.length:Int)≤100000+g1.1∧g1.2.2.1.length≤2000000∧g1.2.2.2.1.length≤2000000∧g1.2.2.2.2.1.length≤2000000∧g1.2.2.2.2.2.2.1.length≤2000000∧g1.2.2.2.2.2.2.2.length≤2000000∧ZI b_ l_ members_ (w_.drop g1.1.toNat) g1.1 (stG g1)=ZI b_ l_ members_ w_ 0 g_) (fun (g1:(Int×Nat×(List Int)×(List Bool)×(List Int)×(List aK)×(List Bool)×(List Bool)))=>(w_.length - g1.1).toNat) ?_ ?_
    ·intro self1 g1 hig1 ihg1;obtain ⟨hg1_1,hg1_2,hg1_3,hg1_4,hg1_5,hg1_6,hg1_7,hg1_8,hg1_9,hg1_10⟩:=hig1;unfold Ea;refine wn ?_;refine wi (fun c4=>?_) (fun c4=>?_)
     ·have hw:=h7 _ (getD_in (i:=g1.1.toNat) dWrite om);have hst:=hg1_10;rw [drop_cons dWrite (show g1.1.toNat<w_.length by omega),ZI] at hst;refine wn ?_;refine av (MS ob ob ob) fun v9 hv9=>?_;obtain ⟨hv9_1,hv9_2,hv9_3,hv9_4,hv9_5,hv9_6,hv9_7,hv9_8⟩:=hv9;have hap:=hv9_1;rw [Prod.ext_iff] at hap;obtain ⟨hap1,hap2⟩:=hap;dsimp only at hap1 hap2;refine wn ?_;refine bP (fun c5=>?_) (fun c5=>?_)
      ·have c5o:=c5;have c5:=nr c5;have e5:(dx (w_.getD g1.1.toNat dWrite) (stG g1)).1=false:=(by rw [← show v9.1=(dx (w_.getD g1.1.toNat dWrite) (stG g1)).1 from hap1]; simpa using c5o);rw [e5] at hst;refine ah ?_;(rw [htf,← hst]; rfl)
      ·have c5o:=c5;have c5:=nr c5;have e5:(dx (w_.getD g1.1.toNat dWrite) (stG g1)).1=true:=(by rw [← show v9.1=(dx (w_.getD g1.1.toNat dWrite) (stG g1)).1 from hap1]; simpa using c5o);rw [e5,← show grT v9.2=(dx (w_.getD g1.1.toNat dWrite) (stG g1)).2 from hap2] at hst;have hgs:oF (grT v9.2):=(by unfold grT Pf; refine ⟨?_,?_,?_,?_,?_,?_⟩<;>dsimp only<;>first | omega | (rw [List.length_take]; omega));refine av (sI (hsc _ hgs) h8) fun v10 hv10=>?_;subst v10;refine bP (fun c6=>?_) (fun c6=>?_)
       ·have c6o:=c6;have c6:=nr c6;have e6:(brX b_ l_ members_ (grT v9.2) != 0)=true:=c6o;refine ah ?_;(rw [htf,← hst]; simp only [Bool.not_true,cond_false]; rw [e6]; rfl)
       ·have c6o:=c6;have c6:=nr c6;have e6:(brX b_ l_ members_ (grT v9.2) != 0)=false:=c6o;refine wn ?_;refine ihg1 _ ?_ ?_
        ·(refine ⟨ob,ob,ob,ob,ob,ob,ob,ob,ob,?_⟩; rw [← hst]; simp only [Bool.not_true,cond_false]; rw [e6,show (g1.1+1).toNat=g1.1.toNat+1 by omega]; rfl)
        ·exact ob
     ·refine ah ?_;(rw [htf,← hg1_10,show g1.1.toNat=w_.length by omega,List.drop_length,show g1.1=(w_.length:Int) by omega]; rfl)
    ·(refine ⟨ob,ob,ob,ob,z1,z2,z3,z5,z6,?_⟩; unfold stG Pf; dsimp only; rw [List.take_length]; rfl)
theorem Q9 {b_:aU} {l_:(List aH)} {members_:(List Int)} {g_:aG} {w_:(List bU)} (h1:EP b_) (h2:GY l_) (h3:members_.length≤10000) (h4:oF g_) (h5:g_.Uses.length≤100000) (h6:w_.length≤100000) (h7:∀x∈w_,x.Value≤9223372036854775807) (h8:∀g∈b_.aN.Groups,g.bn.length≤2000000∧g.Functions.length≤2000000):W (z8 b_ l_ members_ g_ w_) (fun r=>r=pY b_ l_ members_ g_ w_):=by
 have h2r:=h2;obtain ⟨n3,n4⟩:=h2;obtain ⟨z1,z2,z3,z4,z5,z6⟩:=id h4;unfold z8;refine av (Sd h1 h8 h2r) fun v1 hv1=>?_;obtain ⟨hv1_1,hv1_2⟩:=hv1;refine bP (fun c1=>?_) (fun c1=>?_)
 ·have c1o:=c1;have c1:=nr c1;refine ah ?_;(unfold pY; rw [← hv1_1,c1o]; rfl)
 ·have c1o:=c1;have c1:=nr c1;have hn0:qB b_ l_ 0:=(by rw [c1] at hv1_2; exact hv1_2);refine av (MZ n3 om) fun v2 hv2=>?_;subst v2;refine bP (fun c2=>?_) (fun c2=>?_)
  ·have c2o:=c2;have c2:=nr c2;refine ah ?_;(unfold pY; rw [← hv1_1,c1o,c2o]; rfl)
  ·have c2o:=c2;have c2:=nr c2;refine av (EH h1 h8 h2r h3 h4 hn0) fun v3 hv3=>?_;subst v3;refine bP (fun c3=>?_) (fun c3=>?_)
   ·have c3o:=c3;have c3:=nr c3;refine ah ?_;(unfold pY; rw [← hv1_1,c1o,c2o]; simp only [cond_false]; rw [c3o]; rfl)
   ·have c3o:=c3;have c3:=nr c3;have htf:pY b_ l_ members_ g_ w_=ZI b_ l_ members_ w_ 0 g_:=(by unfold pY; rw [← hv1_1,c1o,c2o]; simp only [cond_false]; rw [c3o]; rfl);refine bA (fun (g1:(Int×(List Int)×(List Bool)×(List Int)×(List aK)×(List Bool)×(List Bool)))=>0≤g1.1∧g1.1≤w_.length∧(g1.2.2.2.2.1.length:Int)≤100000+g1.1∧oF (⟨g1.2.1,(⟨g1.2.2.1,g1.2.2.2.1⟩:bf),g1.2.2.2.2.1,g1.2.2.2.2.2.1,g1.2.2.2.2.2.2⟩:aG)∧ZI b_ l_ members_ (w_.drop g1.1.toNat) g1.1 (⟨g1.2.1,(⟨g1.2.2.1,g1.2.2.2.1⟩:bf),g1.2.2.2.2.1,g1.2.2.2.2.2.1,g1.2.2.2.2.2.2⟩:aG)=ZI b_ l_ members_ w_ 0 g_) (fun (g1:(Int×(List Int)×(List Bool)×(List Int)×(List aK)×(List Bool)×(List Bool)))=>(w_.length - g1.1).toNat) ?_ ?_
    ·intro self1 g1 hig1 ihg1;obtain ⟨hg1_1,hg1_2,hg1_3,hg1_4,hg1_5⟩:=hig1;unfold EA;refine wi (fun c4=>?_) (fun c4=>?_)
     ·have hw:=h7 _ (getD_in (i:=g1.1.toNat) dWrite om);have hst:=hg1_5;rw [drop_cons dWrite (show g1.1.toNat<w_.length by omega),ZI] at hst;refine wn ?_;refine av (Ht hg1_4 hw) fun v8 hv8=>?_;subst v8;refine bP (fun c5=>?_) (fun c5=>?_)
      ·have c5o:=c5;have c5:=nr c5;have e5:(dx (w_.getD g1.1.toNat dWrite) (⟨g1.2.1,(⟨g1.2.2.1,g1.2.2.2.1⟩:bf),g1.2.2.2.2.1,g1.2.2.2.2.2.1,g1.2.2.2.2.2.2⟩:aG)).1=false∧Ww (w_.getD g1.1.toNat dWrite) (⟨g1.2.1,(⟨g1.2.2.1,g1.2.2.2.1⟩:bf),g1.2.2.2.2.1,g1.2.2.2.2.2.1,g1.2.2.2.2.2.2⟩:aG)=((⟨g1.2.1,(⟨g1.2.2.1,g1.2.2.2.1⟩:bf),g1.2.2.2.2.1,g1.2.2.2.2.2.1,g1.2.2.2.2.2.2⟩:aG),2):=(by rcases apX_cases (w_.getD g1.1.toNat dWrite) (⟨g1.2.1,(⟨g1.2.2.1,g1.2.2.2.1⟩:bf),g1.2.2.2.2.1,g1.2.2.2.2.2.1,g1.2.2.2.2.2.2⟩:aG) with h | h; (rw [h.2] at c5o; cases c5o); exact h);rw [e5.1] at hst;refine ah ?_;(rw [htf,← hst,e5.2]; rfl)
      ·have c5o:=c5;have c5:=nr c5;have e5:(dx (w_.getD g1.1.toNat dWrite) (⟨g1.2.1,(⟨g1.2.2.1,g1.2.2.2.1⟩:bf),g1.2.2.2.2.1,g1.2.2.2.2.2.1,g1.2.2.2.2.2.2⟩:aG)).1=true∧Ww (w_.getD g1.1.toNat dWrite) (⟨g1.2.1,(⟨g1.2.2.1,g1.2.2.2.1⟩:bf),g1.2.2.2.2.1,g1.2.2.2.2.2.1,g1.2.2.2.2.2.2⟩:aG)=((dx (w_.getD g1.1.toNat dWrite) (⟨g1.2.1,(⟨g1.2.2.1,g1.2.2.2.1⟩:bf),g1.2.2.2.2.1,g1.2.2.2.2.2.1,g1.2.2.2.2.2.2⟩:aG)).2,0):=(by rcases apX_cases (w_.getD g1.1.toNat dWrite) (⟨g1.2.1,(⟨g1.2.2.1,g1.2.2.2.1⟩:bf),g1.2.2.2.2.1,g1.2.2.2.2.2.1,g1.2.2.2.2.2.2⟩:aG) with h | h; (exact h); (rw [h.2] at c5o; cases c5o));rw [e5.1] at hst;rw [e5.2];have hgz:=QX (n:=100000+g1.1.toNat) hg1_4 (by (dsimp only; omega)) om (w:=(w_.getD g1.1.toNat dWrite));(try dsimp only at hgz);refine av (EH h1 h8 h2r h3 hgz.1 hn0) fun v9 hv9=>?_;subst v9;refine bP (fun c6=>?_) (fun c6=>?_)
       ·have c6o:=c6;have c6:=nr c6;refine ah ?_;(rw [htf,← hst]; simp only [Bool.not_true,cond_false]; rw [c6o]; rfl)
       ·have c6o:=c6;have c6:=nr c6;refine wn ?_;refine ihg1 _ ?_ ?_
        ·(refine ⟨by ((try dsimp only); omega),by ((try dsimp only); omega),by (have:=hgz.2; (try dsimp only); omega),hgz.1,?_⟩; rw [← hst]; simp only [Bool.not_true,cond_false]; rw [c6o,show (g1.1+1).toNat=g1.1.toNat+1 by omega]; rfl)
        ·exact ob
     ·refine ah ?_;(rw [htf,← hg1_5,show g1.1.toNat=w_.length by omega,List.drop_length,show g1.1=(w_.length:Int) by omega]; rfl)
    ·(exact ⟨Int.le_refl 0,by (dsimp only; omega),by (dsimp only; omega),h4,rfl⟩)
end Go.Proofs.YtfblhejmclcdmaaGreatDoor

/- An abstract machine over the model's code, that it is sound; models of the functions and their proofs. -/
import Derived.Test.YtfblhejmclcdmaaGreatDoorA7
import Derived.Test.YtfblhejmclcdmaaGreatDoorProg
import Derived.Test.YtfblhejmclcdmaaGreatDoorA4
import Derived.RangeFuncBox
import Derived.RangeFuncLeaves
import Derived.Shelf.Abstract
import Derived.WalkKit
import Derived.OwnWalkIn
import Derived.TacticsInMore
import Derived.LoopNIn
import Derived.LoopIn
import Derived.Test.YtfblhejmclcdmaaGreatDoorCards
import Derived.Test.YtfblhejmclcdmaaGreatDoorTie
import Derived.ProofKit
import Derived.OpenShut
import Derived.Carry
import Derived.LaidMore
import Derived.Deep.DeepHandedRow
import Derived.Deep.Slices
set_option linter.unusedVariables false
set_option linter.unusedSimpArgs false


namespace Go.Proofs.YtfblhejmclcdmaaGreatDoor
open Go.Ab
set_option maxRecDepth 100000
structure ZJ (g:aG):Prop where
 st:g.Setting.length≤1000000
 on:g.Rails.On.length≤1000000
 lv:g.Rails.Level.length≤1000000
 us:g.Uses.length≤1000000
 re:g.Released.length≤1000000
 po:g.Powered.length≤1000000
theorem ZJ.sz {g:aG} (h:ZJ g):oF g:=by
 obtain ⟨a,b,c,d,e,f⟩:=h;exact ⟨om,om,om,om,om,om⟩
theorem Kn {α:Type} {P:α→Prop} {l:List α} {i:Nat} {v:α} (h:∀x∈l,P x) (hv:P v):∀x∈l.set i v,P x:=fun x hx=>by
 rcases List.mem_or_eq_of_mem_set hx with h1 | h1
 ·exact h x h1
 ·rw [h1]; exact hv
theorem Ce {b_:aU} {l_:(List aH)} {m_:(List Int)} (h1:aa6 b_) (h2:l_.length≤100) (h3:m_.length≤20) (h4:∀x∈m_,0≤x∧x<l_.length) (h5:∀x∈l_,x.Limits.length≤100∧x.Draws.length≤100∧x.Functions.length≤100∧x.Resets.length≤100):W (oU b_ l_ m_) (fun r=>ZJ r.1∧r.1.Uses.length≤2000):=by
 obtain ⟨b1,b2,b3,b4,b5,b6,b7,b8,b9⟩:=id h1;have hgs:∀g∈b_.aN.Groups,g.bn.length≤2000000∧g.Functions.length≤2000000:=fun g hg=>by have:=b6 g hg; omega
 have hrs:∀g∈b_.Resets,g.After.length≤2000000:=fun g hg=>by have:=b8 g hg; omega
 unfold oU;refine bA (fun (g1:(Int×(List bJ)×(List bB)×(List ByteArray)×(List Int)×(List Int)×(List Int)))=>0≤g1.1∧g1.1≤m_.length∧(g1.2.1.length:Int)≤100*g1.1∧(g1.2.2.1.length:Int)≤100*g1.1∧(g1.2.2.2.1.length:Int)≤100*g1.1∧(g1.2.2.2.2.1.length:Int)≤100*g1.1∧(g1.2.2.2.2.2.1.length:Int)≤g1.1∧g1.2.2.2.2.2.2.length=g1.2.2.2.1.length) (fun (g1:(Int×(List bJ)×(List bB)×(List ByteArray)×(List Int)×(List Int)×(List Int)))=>(m_.length - g1.1).toNat) ?_ ?_
 ·intro self1 g1 hig1 ihg1;obtain ⟨hg1_1,hg1_2,hg1_3,hg1_4,hg1_5,hg1_6,hg1_7,hg1_8⟩:=hig1;unfold BH;refine wi (fun c1=>?_) (fun c1=>?_)
  ·have hmm:=h4 _ (getD_in (i:=g1.1.toNat) 0 om);have hnn:=h5 _ (getD_in (i:=(m_.getD g1.1.toNat 0).toNat) aP om);refine wm ?_;refine wm ?_;refine wm ?_;refine wm ?_;refine wm ?_;refine wi (fun c2=>?_) (fun c2=>?_)
   ·refine wm ?_;unfold j6;refine wn ?_;refine bA (fun (g7:(Int×(List Int)))=>0≤g7.1∧g7.1≤(l_.getD (m_.getD g1.1.toNat 0).toNat aP).Functions.length∧(g7.2.length:Int)=g1.2.2.2.2.2.2.length+g7.1) (fun (g7:(Int×(List Int)))=>((l_.getD (m_.getD g1.1.toNat 0).toNat aP).Functions.length - g7.1).toNat) ?_ ?_
    ·intro self7 g7 hig7 ihg7;obtain ⟨hg7_1,hg7_2,hg7_3⟩:=hig7;unfold qW;refine wi (fun c3=>?_) (fun c3=>?_)
     ·refine wm ?_;refine ihg7 _ ?_ ?_
      ·exact ob
      ·exact ob
     ·refine wn ?_;refine ihg1 _ ?_ ?_
      ·exact ob
      ·exact ob
    ·exact ob
   ·unfold j6;refine wn ?_;refine bA (fun (g7:(Int×(List Int)))=>0≤g7.1∧g7.1≤(l_.getD (m_.getD g1.1.toNat 0).toNat aP).Functions.length∧(g7.2.length:Int)=g1.2.2.2.2.2.2.length+g7.1) (fun (g7:(Int×(List Int)))=>((l_.getD (m_.getD g1.1.toNat 0).toNat aP).Functions.length - g7.1).toNat) ?_ ?_
    ·intro self7 g7 hig7 ihg7;obtain ⟨hg7_1,hg7_2,hg7_3⟩:=hig7;unfold qW;refine wi (fun c4=>?_) (fun c4=>?_)
     ·refine wm ?_;refine ihg7 _ ?_ ?_
      ·exact ob
      ·exact ob
     ·refine wn ?_;refine ihg1 _ ?_ ?_
      ·exact ob
      ·exact ob
    ·exact ob
  ·refine av (R5 ob ob) fun v1 hv1=>?_;refine av (Sp.RZ ob ob) fun v9 hv9=>?_;subst v9;unfold qX;refine av (QM ob ob ob) fun v3 hv3=>?_;refine av (QN ob ob) fun v4 hv4=>?_;refine av (XD ob) fun v5 hv5=>?_;refine wi (fun c5=>?_) (fun c5=>?_)
   ·refine ah ?_;(refine ⟨⟨by simp,by simp,by simp,by simp,by simp,by simp⟩,by simp⟩)
   ·obtain ⟨⟨⟨⟨e1,e2⟩,e3⟩,e4⟩,e5⟩:=c5;obtain ⟨q1,_,_⟩:=hv1 e1;have hsl:=(K7 q1).1;obtain ⟨k1,k2⟩:=Sp.ZE e2;obtain ⟨a1,a2⟩:=hv3 e3;have r1:=hv4 e4;have r2:=hv5 e5;dsimp only at a1;refine bA (fun (g9:(Int×(List aK)))=>0≤g9.1∧g9.1≤v3.1.length∧(g9.2.length:Int)=g9.1) (fun (g9:(Int×(List aK)))=>(v3.1.length - g9.1).toNat) ?_ ?_
    ·intro self9 g9 hig9 ihg9;obtain ⟨hg9_1,hg9_2,hg9_3⟩:=hig9;unfold zV;refine wi (fun c6=>?_) (fun c6=>?_)
     ·have hx:=a2 _ (getD_in (i:=g9.1.toNat) 0 om);have hgx:=hgs _ (getD_in (i:=(v3.1.getD g9.1.toNat 0).toNat) ay om);refine wm ?_;refine wm ?_;refine wn ?_;refine av (Kk ob) fun v8 hv8=>?_;obtain ⟨hv8_1,hv8_2⟩:=hv8;refine wm ?_;refine ihg9 _ ?_ ?_
      ·exact ob
      ·exact ob
     ·refine ah ?_;(refine ⟨⟨?_,?_,?_,?_,?_,?_⟩,?_⟩<;>dsimp only<;>omega)
    ·exact ob
 ·exact ob
theorem Ra {o0_:bH} (h1:0≤o0_.At) (h2:o0_.L.length≤600):W (zW o0_) (fun r=>aa6 r.1∧r.2.1.length≤5∧(∀x∈r.2.1,x.Limits.length≤1∧x.Draws.length≤1∧x.Functions.length≤2∧x.Resets.length≤100∧x.aL.length≤100)∧r.2.2.1.length≤5∧(∀x∈r.2.2.1,0≤x∧x<r.2.1.length)∧ZJ r.2.2.2.1∧r.2.2.2.1.Uses.length≤2000∧0≤r.2.2.2.2.2.At∧r.2.2.2.2.2.L.length≤600):=by
 unfold zW;refine av (K4 ob ob) fun v1 hv1=>?_;obtain ⟨hv1_1,hv1_2,hv1_3⟩:=hv1;refine av (IW ob ob ob ob ob) fun v2 hv2=>?_;obtain ⟨hv2_1,hv2_2,hv2_3,hv2_4⟩:=hv2;have hnz:∀x∈v2.1,x.Limits.length≤100∧x.Draws.length≤100∧x.Functions.length≤100∧x.Resets.length≤100:=fun x hx=>by have:=hv2_2 x hx; omega
 refine av (Ce hv1_1 om (by simp) nofun hnz) fun v3 hv3=>?_;obtain ⟨hv3_1,hv3_2⟩:=hv3;refine bA (fun (g1:(Int×(List Int)×Int×(List Int)×(List Bool)×(List Int)×(List aK)×(List Bool)×(List Bool)×(List Int)))=>0≤g1.1∧g1.1≤v2.1.length∧0≤g1.2.2.1∧g1.2.1.length≤600∧ZJ (⟨g1.2.2.2.1,⟨g1.2.2.2.2.1,g1.2.2.2.2.2.1⟩,g1.2.2.2.2.2.2.1,g1.2.2.2.2.2.2.2.1,g1.2.2.2.2.2.2.2.2.1⟩:aG)∧(⟨g1.2.2.2.1,⟨g1.2.2.2.2.1,g1.2.2.2.2.2.1⟩,g1.2.2.2.2.2.2.1,g1.2.2.2.2.2.2.2.1,g1.2.2.2.2.2.2.2.2.1⟩:aG).Uses.length≤2000∧(g1.2.2.2.2.2.2.2.2.2.length:Int)≤g1.1∧(∀x∈g1.2.2.2.2.2.2.2.2.2,0≤x∧x<v2.1.length)) (fun (g1:(Int×(List Int)×Int×(List Int)×(List Bool)×(List Int)×(List aK)×(List Bool)×(List Bool)×(List Int)))=>(v2.1.length - g1.1).toNat) ?_ ?_
 ·intro self1 g1 hig1 ihg1;obtain ⟨hg1_1,hg1_2,hg1_3,hg1_4,hg1_5,hg1_6,hg1_7,hg1_8⟩:=hig1;unfold Gq;refine wi (fun c1=>?_) (fun c1=>?_)
  ·have hmm:∀x∈g1.2.2.2.2.2.2.2.2.2++[g1.1],0≤x∧x<v2.1.length:=fun x hx=>by rcases List.mem_append.1 hx with h | h; exact hg1_8 x h; (rw [List.mem_singleton] at h; rw [h]; omega)
   refine wm ?_;refine av (Ce hv1_1 om (by simp only [List.length_append,List.length_singleton]; omega) hmm hnz) fun v8 hv8=>?_;obtain ⟨hv8_1,hv8_2⟩:=hv8;refine wi (fun c2=>?_) (fun c2=>?_)
   ·refine av (aY ob ob ob) fun v9 hv9=>?_;obtain ⟨hv9_1,hv9_2,hv9_3,hv9_4,hv9_5⟩:=hv9;refine wi (fun c3=>?_) (fun c3=>?_)
    ·refine wm ?_;refine ihg1 _ ?_ ?_
     ·(refine ⟨ob,ob,ob,ob,hv8_1,hv8_2,ob,hmm⟩)
     ·exact ob
    ·refine wn ?_;refine ihg1 _ ?_ ?_
     ·(refine ⟨ob,ob,ob,ob,hg1_5,hg1_6,ob,hg1_8⟩)
     ·exact ob
   ·refine wm ?_;refine ihg1 _ ?_ ?_
    ·(refine ⟨ob,ob,ob,ob,hg1_5,hg1_6,ob,hg1_8⟩)
    ·exact ob
  ·refine ah ?_;(refine ⟨hv1_1,by dsimp only; omega,fun x hx=>by have:=hv2_2 x hx; omega,by dsimp only; omega,hg1_8,hg1_5,hg1_6,hg1_3,hg1_4⟩)
 ·(refine ⟨ob,ob,ob,ob,hv3_1,hv3_2,ob,nofun⟩)
theorem EY {l_:(List aH)} {o0_:bH} (h1:l_.length≤5) (h2:∀x∈l_,x.Limits.length≤1∧x.Draws.length≤1∧x.Functions.length≤2∧x.Resets.length≤100∧x.aL.length≤100) (h3:0≤o0_.At) (h4:o0_.L.length≤600):W (kI l_ o0_) (fun r=>r.1.length≤6∧(∀x∈r.1,x.Resets.length≤200∧x.aL.length≤200)∧0≤r.2.At∧r.2.L.length≤600):=by
 have hB:∀x∈l_,x.Resets.length≤200∧x.aL.length≤200:=fun x hx=>(by have:=h2 x hx; omega)
 unfold kI;refine aZ (by first | omega | (unfold big; omega) | (unfold InI64; omega)) ?_;refine wi (fun c1=>?_) (fun c1=>?_)
 ·refine av (dJ (by first | omega | simp) (by first | omega | simp) (by first | omega | simp) (by first | omega | simp) (by first | omega | simp) (by first | omega | simp)) fun v1 hv1=>?_;obtain ⟨hv1_1,hv1_2,hv1_3,hv1_4,hv1_5⟩:=hv1;refine aZ (by first | omega | (unfold big; omega) | (unfold InI64; omega)) ?_;refine ah ?_;(refine ⟨by (simp only [List.length_append,List.length_singleton]; omega),fun x hx=>?_,om,om⟩; rcases List.mem_append.1 hx with h | h; (exact hB x h); (rw [List.mem_singleton] at h; rw [h]; simp))
 ·have hx0:0<l_.length:=om;refine av (aY (by first | omega | simp) (by first | omega | simp) (by first | omega | simp)) fun v2 hv2=>?_;obtain ⟨hv2_1,hv2_2,hv2_3,hv2_4,hv2_5⟩:=hv2;refine aZ (by first | omega | (unfold big; omega) | (unfold InI64; omega)) ?_;refine av (aY (by first | omega | simp) (by first | omega | simp) (by first | omega | simp)) fun v3 hv3=>?_;obtain ⟨hv3_1,hv3_2,hv3_3,hv3_4,hv3_5⟩:=hv3;refine wi (fun c2=>?_) (fun c2=>?_)
  ·have hx:=h2 _ (getD_in (i:=v2.1.toNat) aP om);refine av (dJ (by first | omega | simp) (by first | omega | simp) (by first | omega | simp) (by first | omega | simp) (by first | omega | simp) (by first | omega | simp)) fun v4 hv4=>?_;obtain ⟨hv4_1,hv4_2,hv4_3,hv4_4,hv4_5⟩:=hv4;refine ah ?_;(refine ⟨by (simp only [List.length_set]; omega),Kn hB (by ((try dsimp only); (try simp only [List.length_append,List.length_singleton]); omega)),om,om⟩)
  ·have hx:=h2 _ (getD_in (i:=v2.1.toNat) aP om);refine wi (fun c3=>?_) (fun c3=>?_)
   ·refine aZ (by first | omega | (unfold big; omega) | (unfold InI64; omega)) ?_;refine av (dJ (by first | omega | simp) (by first | omega | simp) (by first | omega | simp) (by first | omega | simp) (by first | omega | simp) (by first | omega | simp)) fun v5 hv5=>?_;obtain ⟨hv5_1,hv5_2,hv5_3,hv5_4,hv5_5⟩:=hv5;refine aZ (by first | omega | (unfold big; omega) | (unfold InI64; omega)) ?_;refine ah ?_;(refine ⟨by (simp only [List.length_set]; omega),Kn hB (by ((try dsimp only); (try simp only [List.length_append,List.length_singleton]); omega)),om,om⟩)
   ·refine wi (fun c4=>?_) (fun c4=>?_)
    ·refine aZ (by first | omega | (unfold big; omega) | (unfold InI64; omega)) ?_;refine av (dJ (by first | omega | simp) (by first | omega | simp) (by first | omega | simp) (by first | omega | simp) (by first | omega | simp) (by first | omega | simp)) fun v6 hv6=>?_;obtain ⟨hv6_1,hv6_2,hv6_3,hv6_4,hv6_5⟩:=hv6;refine aZ (by first | omega | (unfold big; omega) | (unfold InI64; omega)) ?_;refine ah ?_;(refine ⟨by (simp only [List.length_set]; omega),Kn hB (by ((try dsimp only); (try simp only [List.length_append,List.length_singleton]); omega)),om,om⟩)
    ·refine wi (fun c5=>?_) (fun c5=>?_)
     ·refine aZ (by first | omega | (unfold big; omega) | (unfold InI64; omega)) ?_;refine av (BS (by first | omega | simp) (by first | omega | simp) (by first | omega | simp) (by first | omega | simp)) fun v7 hv7=>?_;obtain ⟨hv7_1,hv7_2,hv7_3⟩:=hv7;refine aZ (by first | omega | (unfold big; omega) | (unfold InI64; omega)) ?_;refine ah ?_;(refine ⟨by (simp only [List.length_set]; omega),Kn hB (by ((try dsimp only); (try simp only [List.length_append,List.length_singleton]); omega)),om,om⟩)
     ·refine wi (fun c6=>?_) (fun c6=>?_)
      ·refine aZ (by first | omega | (unfold big; omega) | (unfold InI64; omega)) ?_;refine av (dJ (by first | omega | simp) (by first | omega | simp) (by first | omega | simp) (by first | omega | simp) (by first | omega | simp) (by first | omega | simp)) fun v8 hv8=>?_;obtain ⟨hv8_1,hv8_2,hv8_3,hv8_4,hv8_5⟩:=hv8;refine av (dF (by first | omega | simp) (by first | omega | simp) (by first | omega | simp) (by first | omega | simp)) fun v9 hv9=>?_;obtain ⟨hv9_1,hv9_2,hv9_3⟩:=hv9;refine av (dF (by first | omega | simp) (by first | omega | simp) (by first | omega | simp) (by first | omega | simp)) fun v10 hv10=>?_;obtain ⟨hv10_1,hv10_2,hv10_3⟩:=hv10;refine aZ (by first | omega | (unfold big; omega) | (unfold InI64; omega)) ?_;refine ah ?_;(refine ⟨by (simp only [List.length_set]; omega),Kn hB (by ((try dsimp only); (try simp only [List.length_append,List.length_singleton]); omega)),om,om⟩)
      ·refine wi (fun c7=>?_) (fun c7=>?_)
       ·refine aZ (by first | omega | (unfold big; omega) | (unfold InI64; omega)) ?_;refine av (dJ (by first | omega | simp) (by first | omega | simp) (by first | omega | simp) (by first | omega | simp) (by first | omega | simp) (by first | omega | simp)) fun v11 hv11=>?_;obtain ⟨hv11_1,hv11_2,hv11_3,hv11_4,hv11_5⟩:=hv11;refine av (dF (by first | omega | simp) (by first | omega | simp) (by first | omega | simp) (by first | omega | simp)) fun v12 hv12=>?_;obtain ⟨hv12_1,hv12_2,hv12_3⟩:=hv12;refine av (dF (by first | omega | simp) (by first | omega | simp) (by first | omega | simp) (by first | omega | simp)) fun v13 hv13=>?_;obtain ⟨hv13_1,hv13_2,hv13_3⟩:=hv13;refine aZ (by first | omega | (unfold big; omega) | (unfold InI64; omega)) ?_;refine ah ?_;(refine ⟨by (simp only [List.length_set]; omega),Kn hB (by ((try dsimp only); (try simp only [List.length_append,List.length_singleton]); omega)),om,om⟩)
       ·refine bA (fun (g1:(Nat×(List aH)))=>g1.1<g1.2.length∧g1.2.length≤5∧(∀x∈g1.2,x.Resets.length≤200∧x.aL.length≤200)∧(g1.2.getD g1.1 aP).Functions.length≤11) (fun (g1:(Nat×(List aH)))=>11 - (g1.2.getD g1.1 aP).Functions.length) ?_ ?_
        ·intro self1 g1 hig1 ihg1;obtain ⟨hg1_1,hg1_2,hg1_3,hg1_4⟩:=hig1;unfold qY;refine wi (fun c8=>?_) (fun c8=>?_)
         ·refine aZ (by first | omega | (unfold big; omega) | (unfold InI64; omega)) ?_;refine aZ (by first | omega | (unfold big; omega) | (unfold InI64; omega)) ?_;refine ihg1 _ ?_ ?_
          ·(refine ⟨by (simp only [List.length_set]; omega),by (simp only [List.length_set]; omega),Kn (P:=fun x:aH=>x.Resets.length≤200∧x.aL.length≤200) hg1_3 (by have q:=hg1_3 _ (getD_in (i:=g1.1) aP hg1_1); exact q),?_⟩; dsimp only; rw [Pk hg1_1]; simp only [List.length_append,List.length_singleton]; omega)
          ·(dsimp only; rw [Pk hg1_1]; simp only [List.length_append,List.length_singleton]; omega)
         ·refine ah ?_;(exact ⟨by (dsimp only; omega),hg1_3,om,om⟩)
        ·(exact ⟨by (dsimp only; omega),h1,hB,by (dsimp only; omega)⟩)
theorem EZ {g_:aG} {o0_:bH} (h1:ZJ g_) (h2:g_.Uses.length≤2000) (h3:0≤o0_.At) (h4:o0_.L.length≤600):W (kJ g_ o0_) (fun r=>oF r.1∧r.1.Uses.length≤2001∧0≤r.2.At∧r.2.L.length≤600):=by
 obtain ⟨z1,z2,z3,z4,z5,z6⟩:=id h1;unfold kJ;refine aZ (by first | omega | (unfold big; omega) | (unfold InI64; omega)) ?_;refine aZ (by first | omega | (unfold big; omega) | (unfold InI64; omega)) ?_;refine aZ (by first | omega | (unfold big; omega) | (unfold InI64; omega)) ?_;refine aZ (by first | omega | (unfold big; omega) | (unfold InI64; omega)) ?_;refine aZ (by first | omega | (unfold big; omega) | (unfold InI64; omega)) ?_;refine aZ (by first | omega | (unfold big; omega) | (unfold InI64; omega)) ?_;unfold lQ;refine av (aY (by first | omega | simp) (by first | omega | simp) (by first | omega | simp)) fun v1 hv1=>?_;obtain ⟨hv1_1,hv1_2,hv1_3,hv1_4,hv1_5⟩:=hv1;refine wi (fun c1=>?_) (fun c1=>?_)
 ·refine wi (fun c2=>?_) (fun c2=>?_)
  ·refine av (aY (by first | omega | simp) (by first | omega | simp) (by first | omega | simp)) fun v2 hv2=>?_;obtain ⟨hv2_1,hv2_2,hv2_3,hv2_4,hv2_5⟩:=hv2;refine av (dJ (by first | omega | simp) (by first | omega | simp) (by first | omega | simp) (by first | omega | simp) (by first | omega | simp) (by first | omega | simp)) fun v3 hv3=>?_;obtain ⟨hv3_1,hv3_2,hv3_3,hv3_4,hv3_5⟩:=hv3;refine aZ (by first | omega | (unfold big; omega) | (unfold InI64; omega)) ?_;refine ah ?_;(refine ⟨⟨?_,?_,?_,?_,?_,?_⟩,?_,?_,?_⟩<;>(try dsimp only)<;>(try simp only [List.length_set,List.length_append,List.length_singleton,List.length_take])<;>omega)
  ·refine ah ?_;(refine ⟨⟨?_,?_,?_,?_,?_,?_⟩,?_,?_,?_⟩<;>(try dsimp only)<;>(try simp only [List.length_set,List.length_append,List.length_singleton,List.length_take])<;>omega)
 ·refine wi (fun c3=>?_) (fun c3=>?_)
  ·refine wi (fun c4=>?_) (fun c4=>?_)
   ·refine av (aY (by first | omega | simp) (by first | omega | simp) (by first | omega | simp)) fun v4 hv4=>?_;obtain ⟨hv4_1,hv4_2,hv4_3,hv4_4,hv4_5⟩:=hv4;refine aZ (by first | omega | (unfold big; omega) | (unfold InI64; omega)) ?_;refine aZ (by first | omega | (unfold big; omega) | (unfold InI64; omega)) ?_;refine ah ?_;(refine ⟨⟨?_,?_,?_,?_,?_,?_⟩,?_,?_,?_⟩<;>(try dsimp only)<;>(try simp only [List.length_set,List.length_append,List.length_singleton,List.length_take])<;>omega)
   ·refine ah ?_;(refine ⟨⟨?_,?_,?_,?_,?_,?_⟩,?_,?_,?_⟩<;>(try dsimp only)<;>(try simp only [List.length_set,List.length_append,List.length_singleton,List.length_take])<;>omega)
  ·refine wi (fun c5=>?_) (fun c5=>?_)
   ·refine wi (fun c6=>?_) (fun c6=>?_)
    ·refine av (aY (by first | omega | simp) (by first | omega | simp) (by first | omega | simp)) fun v5 hv5=>?_;obtain ⟨hv5_1,hv5_2,hv5_3,hv5_4,hv5_5⟩:=hv5;refine av (dJ (by first | omega | simp) (by first | omega | simp) (by first | omega | simp) (by first | omega | simp) (by first | omega | simp) (by first | omega | simp)) fun v6 hv6=>?_;obtain ⟨hv6_1,hv6_2,hv6_3,hv6_4,hv6_5⟩:=hv6;refine aZ (by first | omega | (unfold big; omega) | (unfold InI64; omega)) ?_;refine ah ?_;(refine ⟨⟨?_,?_,?_,?_,?_,?_⟩,?_,?_,?_⟩<;>(try dsimp only)<;>(try simp only [List.length_set,List.length_append,List.length_singleton,List.length_take])<;>omega)
    ·refine ah ?_;(refine ⟨⟨?_,?_,?_,?_,?_,?_⟩,?_,?_,?_⟩<;>(try dsimp only)<;>(try simp only [List.length_set,List.length_append,List.length_singleton,List.length_take])<;>omega)
   ·refine wi (fun c7=>?_) (fun c7=>?_)
    ·refine av (dJ (by first | omega | simp) (by first | omega | simp) (by first | omega | simp) (by first | omega | simp) (by first | omega | simp) (by first | omega | simp)) fun v7 hv7=>?_;obtain ⟨hv7_1,hv7_2,hv7_3,hv7_4,hv7_5⟩:=hv7;refine av (dJ (by first | omega | simp) (by first | omega | simp) (by first | omega | simp) (by first | omega | simp) (by first | omega | simp) (by first | omega | simp)) fun v8 hv8=>?_;obtain ⟨hv8_1,hv8_2,hv8_3,hv8_4,hv8_5⟩:=hv8;refine av (dJ (by first | omega | simp) (by first | omega | simp) (by first | omega | simp) (by first | omega | simp) (by first | omega | simp) (by first | omega | simp)) fun v9 hv9=>?_;obtain ⟨hv9_1,hv9_2,hv9_3,hv9_4,hv9_5⟩:=hv9;refine aZ (by first | omega | (unfold big; omega) | (unfold InI64; omega)) ?_;refine ah ?_;(refine ⟨⟨?_,?_,?_,?_,?_,?_⟩,?_,?_,?_⟩<;>(try dsimp only)<;>(try simp only [List.length_set,List.length_append,List.length_singleton,List.length_take])<;>omega)
    ·refine wi (fun c8=>?_) (fun c8=>?_)
     ·refine wi (fun c9=>?_) (fun c9=>?_)
      ·refine aZ (by first | omega | (unfold big; omega) | (unfold InI64; omega)) ?_;refine aZ (by first | omega | (unfold big; omega) | (unfold InI64; omega)) ?_;refine ah ?_;(refine ⟨⟨?_,?_,?_,?_,?_,?_⟩,?_,?_,?_⟩<;>(try dsimp only)<;>(try simp only [List.length_set,List.length_append,List.length_singleton,List.length_take])<;>omega)
      ·refine ah ?_;(refine ⟨⟨?_,?_,?_,?_,?_,?_⟩,?_,?_,?_⟩<;>(try dsimp only)<;>(try simp only [List.length_set,List.length_append,List.length_singleton,List.length_take])<;>omega)
     ·refine wi (fun c10=>?_) (fun c10=>?_)
      ·refine wi (fun c11=>?_) (fun c11=>?_)
       ·refine av (aY (by first | omega | simp) (by first | omega | simp) (by first | omega | simp)) fun v10 hv10=>?_;obtain ⟨hv10_1,hv10_2,hv10_3,hv10_4,hv10_5⟩:=hv10;refine aZ (by first | omega | (unfold big; omega) | (unfold InI64; omega)) ?_;refine aZ (by first | omega | (unfold big; omega) | (unfold InI64; omega)) ?_;refine ah ?_;(refine ⟨⟨?_,?_,?_,?_,?_,?_⟩,?_,?_,?_⟩<;>(try dsimp only)<;>(try simp only [List.length_set,List.length_append,List.length_singleton,List.length_take])<;>omega)
       ·refine ah ?_;(refine ⟨⟨?_,?_,?_,?_,?_,?_⟩,?_,?_,?_⟩<;>(try dsimp only)<;>(try simp only [List.length_set,List.length_append,List.length_singleton,List.length_take])<;>omega)
      ·refine wi (fun c12=>?_) (fun c12=>?_)
       ·refine wi (fun c13=>?_) (fun c13=>?_)
        ·refine av (aY (by first | omega | simp) (by first | omega | simp) (by first | omega | simp)) fun v11 hv11=>?_;obtain ⟨hv11_1,hv11_2,hv11_3,hv11_4,hv11_5⟩:=hv11;refine aZ (by first | omega | (unfold big; omega) | (unfold InI64; omega)) ?_;refine aZ (by first | omega | (unfold big; omega) | (unfold InI64; omega)) ?_;refine ah ?_;(refine ⟨⟨?_,?_,?_,?_,?_,?_⟩,?_,?_,?_⟩<;>(try dsimp only)<;>(try simp only [List.length_set,List.length_append,List.length_singleton,List.length_take])<;>omega)
        ·refine ah ?_;(refine ⟨⟨?_,?_,?_,?_,?_,?_⟩,?_,?_,?_⟩<;>(try dsimp only)<;>(try simp only [List.length_set,List.length_append,List.length_singleton,List.length_take])<;>omega)
       ·refine aZ (by first | omega | (unfold big; omega) | (unfold InI64; omega)) ?_;refine ah ?_;(refine ⟨⟨?_,?_,?_,?_,?_,?_⟩,?_,?_,?_⟩<;>(try dsimp only)<;>(try simp only [List.length_set,List.length_append,List.length_singleton,List.length_take])<;>omega)
end Go.Proofs.YtfblhejmclcdmaaGreatDoor

namespace Go.Proofs.YtfblhejmclcdmaaGreatDoor
open Go.Ab
set_option maxRecDepth 100000
theorem aeh {b:aU} {l:List aH} {m:List Int}:∀(w:List bU) (i:Int) (g:aG) (n:Nat),oF g→g.Uses.length≤n→n+w.length≤900000→oF (ZI b l m w i g).1∧(ZI b l m w i g).1.Uses.length≤n+w.length:=by
 intro w;induction w with
 | nil=>intro i g n h hn _; exact ⟨h,hn⟩
 | cons x w ih=>
  intro i g n h hn hb;simp only [List.length_cons] at hb ⊢;obtain ⟨a1,a2⟩:=QX (w:=x) h hn om;rw [ZI];cases !(dx x g).1 with
  | true=>exact ⟨XK,Nat.zero_le _⟩
  | false=>
   simp only [cond_false];cases brX b l m (dx x g).2 != 0 with
   | true=>exact ⟨a1,by simp only [cond_true]; omega⟩
   | false=>
    have:=ih (i+1) _ (n+1) a1 a2 om;simp only [cond_false];exact ⟨this.1,om⟩
theorem ZL {b:aU} {l:List aH} {m:List Int} {g:aG} {w:List bU} {n:Nat} (h:oF g) (hn:g.Uses.length≤n) (hw:n+w.length≤900000):oF (pY b l m g w).1∧(pY b l m g w).1.Uses.length≤n+w.length:=by
 unfold pY;cases ndX b l != 0 with
 | true=>exact ⟨XK,Nat.zero_le _⟩
 | false=>
  cases !dfX l m with
  | true=>exact ⟨XK,Nat.zero_le _⟩
  | false=>
   cases brX b l m g != 0 with
   | true=>exact ⟨h,by simp only [cond_true,cond_false]; omega⟩
   | false=>exact aeh w 0 g n h hn hw
theorem aei {w:bU} {g:aG} (h:oF g) (hn:g.Uses.length≤100000):oF (Ww w g).1:=by
 rcases apX_cases w g with k | k
 ·rw [k.2]; exact (QX h hn om).1
 ·rw [k.2]; exact h
theorem pk3 {α:Type} {p:α→Prop} {a b c d:α} (ha:p a) (hb:p b) (hc:p c) {k:Nat} (hk:k<3):p (([a,b,c]:List α).getD k d):=
 match k,hk with
 | 0,_=>ha
 | 1,_=>hb
 | 2,_=>hc
theorem pk2 {α:Type} {p:α→Prop} {a b d:α} (ha:p a) (hb:p b) {k:Nat} (hk:k<2):p (([a,b]:List α).getD k d):=
 match k,hk with
 | 0,_=>ha
 | 1,_=>hb
theorem I6 {t_:(List Int)} {raw_:aU} {odd_:(List aH)} {other_:aG} {members_:(List Int)} {w_:(List bU)} {between_:Bool} (h1:EP raw_) (h2:∀g∈raw_.aN.Groups,g.bn.length≤2000000∧g.Functions.length≤2000000) (h3:GY odd_) (h4:oF other_) (h5:∀x∈w_,x.Value≤9223372036854775807):W (sU t_ raw_ odd_ other_ members_ w_ between_) (fun r=>r=true):=by
 unfold sU;refine wi (fun c1=>?_) (fun c1=>?_)
 ·refine av (Ls) fun v1 hv1=>?_;subst v1;refine ah ?_;(rfl)
 ·refine av (VB) fun v2 hv2=>?_;obtain ⟨hv2_1,hv2_2⟩:=hv2;refine av (Ra (by dsimp only; omega) (by dsimp only; omega)) fun v3 hv3=>?_;obtain ⟨hv3_1,hv3_2,hv3_3,hv3_4,hv3_5,hv3_6,hv3_7,hv3_8,hv3_9⟩:=hv3;have hbs:=aeY hv3_1;have hbg:∀g∈v3.1.aN.Groups,g.bn.length≤2000000∧g.Functions.length≤2000000:=fun g hg=>(by have:=hv3_1.gr g hg; omega)
  have hns:GY v3.2.1:=⟨om,fun n hn=>by have:=hv3_3 n hn; omega⟩;refine av (yV hbs hbg) fun v4 hv4=>?_;refine av (yX hbs hbg) fun v5 hv5=>?_;refine av (Bj fun hc=>yV h1 h2) fun v6 hv6=>?_;refine av (Bj fun hc=>yX h1 h2) fun v7 hv7=>?_;have e1:=Ho.fun _ _ hv4 hv5;have e2:=Ho.fun _ _ (hv6 (by simp [e1])) (hv7 (by simp [e1]));refine bP (fun c2=>?_) (fun c2=>?_)
  ·have c2o:=c2;have c2:=nr c2;refine ah ?_;(exfalso; rw [e1,e2] at c2o; simp at c2o)
  ·have c2o:=c2;have c2:=nr c2;refine av (aY om hv3_8 hv3_9) fun v8 hv8=>?_;obtain ⟨hv8_1,hv8_2,hv8_3,hv8_4,hv8_5⟩:=hv8;refine bA (fun (g1:(Int×(List Int)×Int×(List bU)))=>0≤g1.1∧0≤g1.2.2.1∧g1.2.1.length≤600∧(g1.2.2.2.length:Int)+g1.1≤7∧(∀x∈g1.2.2.2,x.Value≤100)) (fun (g1:(Int×(List Int)×Int×(List bU)))=>g1.1.toNat) ?_ ?_
   ·intro self1 g1 hig1 ihg1;obtain ⟨hg1_1,hg1_2,hg1_3,hg1_4,hg1_5⟩:=hig1;unfold wI;refine wi (fun c3=>?_) (fun c3=>?_)
    ·refine av (Lr hg1_2 hg1_3) fun v11 hv11=>?_;obtain ⟨hv11_1,hv11_2,hv11_3⟩:=hv11;refine aZ (by first | omega | (unfold big; omega) | (unfold InI64; omega)) ?_;refine aZ (by first | omega | (unfold big; omega) | (unfold InI64; omega)) ?_;refine ihg1 _ ?_ ?_
     ·(refine ⟨by (dsimp only; omega),hv11_2,hv11_3,by (simp only [List.length_append,List.length_singleton]; omega),fun x hx=>?_⟩; rcases List.mem_append.1 hx with h | h; (exact hg1_5 x h); (rw [List.mem_singleton] at h; rw [h]; exact hv11_1))
     ·(dsimp only; omega)
    ·refine av (EY hv3_2 hv3_3 hg1_2 hg1_3) fun v12 hv12=>?_;obtain ⟨hv12_1,hv12_2,hv12_3,hv12_4⟩:=hv12;have hn12:GY v12.1:=⟨om,fun n hn=>by have:=hv12_2 n hn; omega⟩;refine bA (fun (g2:((List bU)×Int×(List Int)×Int))=>0≤g2.2.1∧g2.2.1≤3∧0≤g2.2.2.2∧g2.2.2.1.length≤600∧g2.1.length≤7∧(∀x∈g2.1,x.Value≤100)) (fun (g2:((List bU)×Int×(List Int)×Int))=>(3 - g2.2.1).toNat) ?_ ?_
     ·intro self2 g2 hig2 ihg2;obtain ⟨hg2_1,hg2_2,hg2_3,hg2_4,hg2_5,hg2_6⟩:=hig2;unfold vg;refine wi (fun c4=>?_) (fun c4=>?_)
      ·have hpk:GY (([v3.2.1,v12.1,odd_]:List (List aH)).getD g2.2.1.toNat []):=pk3 (p:=GY) hns hn12 h3 om;refine aZ (by first | omega | (unfold big; omega) | (unfold InI64; omega)) ?_;refine av (uz hbs hbg hpk) fun v383 hv383=>?_;refine av (uD hbs hbg hpk) fun v384 hv384=>?_;refine av (Bj fun hc=>uz h1 h2 hpk) fun v385 hv385=>?_;refine av (Bj fun hc=>uD h1 h2 hpk) fun v386 hv386=>?_;have e1:=qB.fun _ _ hv383 hv384;have e2:=qB.fun _ _ (hv385 (by simp [e1])) (hv386 (by simp [e1]));refine bP (fun c5=>?_) (fun c5=>?_)
       ·have c5o:=c5;have c5:=nr c5;refine ah ?_;(exfalso; rw [e1,e2] at c5o; simp at c5o)
       ·have c5o:=c5;have c5:=nr c5;refine av (EZ hv3_6 hv3_7 hg2_3 hg2_4) fun v387 hv387=>?_;obtain ⟨hv387_1,hv387_2,hv387_3,hv387_4⟩:=hv387;refine bA (fun (g53:((List aH)×Int))=>0≤g53.2∧g53.2≤3∧GY g53.1) (fun (g53:((List aH)×Int))=>(3 - g53.2).toNat) ?_ ?_
        ·intro self53 g53 hig53 ihg53;obtain ⟨hg53_1,hg53_2,hg53_3⟩:=hig53;unfold u7;refine wi (fun c6=>?_) (fun c6=>?_)
         ·have hgz:oF (([v3.2.2.2.1,v387.1,other_]:List aG).getD g53.2.toNat pU)∧(([v3.2.2.2.1,v387.1,other_]:List aG).getD g53.2.toNat pU).Uses.length≤100000:=pk3 (p:=fun g:aG=>oF g∧g.Uses.length≤100000) ⟨hv3_6.sz,om⟩ ⟨hv387_1,om⟩ ⟨h4,om⟩ om;refine aZ (by first | omega | (unfold big; omega) | (unfold InI64; omega)) ?_;refine bA (fun (g70:((Nat→(List Int))×Int×(List Int)×(List Bool)×(List Int)×(List aK)×(List Bool)×(List Bool)))=>0≤g70.2.1∧g70.2.1≤3∧(∀k<3,(g70.1 k).length≤10000)∧oF (⟨g70.2.2.1,(⟨g70.2.2.2.1,g70.2.2.2.2.1⟩:bf),g70.2.2.2.2.2.1,g70.2.2.2.2.2.2.1,g70.2.2.2.2.2.2.2⟩:aG)∧g70.2.2.2.2.2.1.length≤100000) (fun (g70:((Nat→(List Int))×Int×(List Int)×(List Bool)×(List Int)×(List aK)×(List Bool)×(List Bool)))=>(3 - g70.2.1).toNat) ?_ ?_
          ·intro self70 g70 hig70 ihg70;obtain ⟨hg70_1,hg70_2,hg70_3,hg70_4,hg70_5⟩:=hig70;unfold u6;refine wi (fun c7=>?_) (fun c7=>?_)
           ·have hm:(([(g70.1 0),(g70.1 1),(g70.1 2)]:List (List Int)).getD g70.2.1.toNat []).length≤10000:=pk3 (p:=fun x:List Int=>x.length≤10000) (hg70_3 0 om) (hg70_3 1 om) (hg70_3 2 om) om;refine aZ (by first | omega | (unfold big; omega) | (unfold InI64; omega)) ?_;refine av (EG hbs hbg hg53_3 hm hg70_4) fun v555 hv555=>?_;refine av (wh hbs hbg hg53_3 hm hg70_4) fun v556 hv556=>?_;refine av (Bj fun hc=>EG h1 h2 hg53_3 hm hg70_4) fun v557 hv557=>?_;refine av (Bj fun hc=>wh h1 h2 hg53_3 hm hg70_4) fun v558 hv558=>?_;have e1:=ZH.fun _ _ hv555 hv556;have e2:=ZH.fun _ _ (hv557 (by simp [e1])) (hv558 (by simp [e1]));refine bP (fun c8=>?_) (fun c8=>?_)
            ·have c8o:=c8;have c8:=nr c8;refine ah ?_;(exfalso; rw [e1,e2] at c8o; simp at c8o)
            ·have c8o:=c8;have c8:=nr c8;unfold nG;refine bA (fun (g76:Int)=>0≤g76∧g76≤2) (fun (g76:Int)=>(2 - g76).toNat) ?_ ?_
             ·intro self76 g76 hig76 ihg76;obtain ⟨hg76_1,hg76_2⟩:=hig76;unfold uY;refine wi (fun c9=>?_) (fun c9=>?_)
              ·have hw:((([g2.1,w_]:List (List bU)).getD g76.toNat []).length≤100000)∧∀y∈(([g2.1,w_]:List (List bU)).getD g76.toNat []),y.Value≤9223372036854775807:=pk2 (p:=fun x:List bU=>x.length≤100000∧∀y∈x,y.Value≤9223372036854775807) ⟨show g2.1.length≤100000 by omega,fun y hy=>by have:=hg2_6 y hy; omega⟩ ⟨show w_.length≤100000 by omega,h5⟩ om;refine aZ (by first | omega | (unfold big; omega) | (unfold InI64; omega)) ?_;refine av (Q8 hbs hg53_3 hm hg70_4 hg70_5 hw.1 hw.2 hbg) fun v552 hv552=>?_;subst v552;refine av (Q9 hbs hg53_3 hm hg70_4 hg70_5 hw.1 hw.2 hbg) fun v553 hv553=>?_;subst v553;refine av (Lj (ZL (n:=100000) hg70_4 hg70_5 (by have:=hw.1; omega)).1) fun v554 hv554=>?_;subst v554;refine bP (fun c10=>?_) (fun c10=>?_)
               ·have c10o:=c10;have c10:=nr c10;refine ah ?_;(exfalso; rw [QH] at c10o; simp at c10o)
               ·have c10o:=c10;have c10:=nr c10;refine aZ (by first | omega | (unfold big; omega) | (unfold InI64; omega)) ?_;refine ihg76 _ ?_ ?_
                ·(exact ⟨om,om⟩)
                ·(omega)
              ·refine aZ (by first | omega | (unfold big; omega) | (unfold InI64; omega)) ?_;refine ihg70 _ ?_ ?_
               ·(exact ⟨by (dsimp only; omega),by (dsimp only; omega),hg70_3,hg70_4,hg70_5⟩)
               ·(dsimp only; omega)
             ·(exact ⟨om,om⟩)
           ·refine bA (fun (g77:Int)=>0≤g77) (fun (g77:Int)=>(g2.1.length - g77).toNat) ?_ ?_
            ·intro self77 g77 hig77 ihg77;unfold uZ;refine wi (fun c11=>?_) (fun c11=>?_)
             ·have hwv:=hg2_6 _ (getD_in (i:=g77.toNat) dWrite om);refine aZ (by first | omega | (unfold big; omega) | (unfold InI64; omega)) ?_;refine av (Q7 hg70_4 om) fun v565 hv565=>?_;subst v565;refine av (Ht hg70_4 om) fun v566 hv566=>?_;subst v566;refine av (Lj (aei hg70_4 hg70_5)) fun v567 hv567=>?_;subst v567;refine bP (fun c12=>?_) (fun c12=>?_)
              ·have c12o:=c12;have c12:=nr c12;refine ah ?_;(exfalso; rw [QH] at c12o; simp at c12o)
              ·have c12o:=c12;have c12:=nr c12;refine aZ (by first | omega | (unfold big; omega) | (unfold InI64; omega)) ?_;refine ihg77 _ ?_ ?_
               ·(omega)
               ·(omega)
             ·refine aZ (by first | omega | (unfold big; omega) | (unfold InI64; omega)) ?_;refine ihg53 _ ?_ ?_
              ·(exact ⟨by (dsimp only; omega),by (dsimp only; omega),hg53_3⟩)
              ·(dsimp only; omega)
            ·(exact Int.le_refl 0)
          ·(exact ⟨by (dsimp only; omega),by (dsimp only; omega),fun k hk=>pk3 (p:=fun x:List Int=>x.length≤10000) om om (Nat.zero_le _) hk,hgz.1,hgz.2⟩)
         ·refine aZ (by first | omega | (unfold big; omega) | (unfold InI64; omega)) ?_;refine ihg2 _ ?_ ?_
          ·(exact ⟨by (dsimp only; omega),by (dsimp only; omega),hv387_3,hv387_4,hg2_5,hg2_6⟩)
          ·(dsimp only; omega)
        ·(exact ⟨by (dsimp only; omega),by (dsimp only; omega),hpk⟩)
      ·refine av (Ls) fun v568 hv568=>?_;subst v568;refine ah ?_;(rfl)
     ·(exact ⟨by (dsimp only; omega),by (dsimp only; omega),hv12_3,hv12_4,by (dsimp only; omega),hg1_5⟩)
   ·(exact ⟨by (dsimp only; omega),by (dsimp only; omega),by (dsimp only; omega),by (simp only [List.length_nil]; omega),fun x hx=>(by cases hx)⟩)
end Go.Proofs.YtfblhejmclcdmaaGreatDoor


namespace Go.Proofs.YtfblhejmclcdmaaGreatDoor
open Go.Ab
def cfg:rU where
 ty:=[(3,⟨1,false,8,[(.int .i64)],(.int .i64)⟩),
 (4,⟨1,false,1,[.bool],.bool⟩),
 (5,⟨1,false,1,[(.int .u8)],(.int .u8)⟩),
 (9,⟨1,false,16,[.str],.str⟩),
 (22,⟨1,false,24,[.slice],(.slice 3)⟩),
 (24,⟨1,false,8,[.ptr],(.pointer 77)⟩),
 (26,⟨1,false,24,[.slice],(.slice 139)⟩),
 (27,⟨1,false,24,[.slice],(.slice 143)⟩),
 (28,⟨1,false,24,[.slice],(.slice 118)⟩),
 (29,⟨2,true,32,[(.int .i64),.slice],(.struct [(0,3),(1,28)])⟩),
 (30,⟨2,true,32,[(.int .i64),.slice],(.struct [(0,3),(1,28)])⟩),
 (31,⟨1,false,24,[.slice],(.slice 120)⟩),
 (32,⟨1,false,24,[.slice],(.slice 147)⟩),
 (33,⟨6,true,128,[.slice,.slice,(.int .i64),.slice,.slice,.slice],(.struct [(0,26),(1,27),(2,30),(4,31),(5,32)])⟩),
 (34,⟨6,true,128,[.slice,.slice,(.int .i64),.slice,.slice,.slice],(.struct [(0,26),(1,27),(2,30),(4,31),(5,32)])⟩),
 (35,⟨1,false,24,[.slice],(.slice 70)⟩),
 (36,⟨1,false,24,[.slice],(.slice 4)⟩),
 (37,⟨2,true,48,[.slice,.slice],(.struct [(0,36),(1,22)])⟩),
 (38,⟨2,true,48,[.slice,.slice],(.struct [(0,36),(1,22)])⟩),
 (39,⟨1,false,24,[.slice],(.slice 74)⟩),
 (40,⟨6,true,144,[.slice,.slice,.slice,.slice,.slice,.slice],(.struct [(0,22),(1,38),(3,39),(4,36),(5,36)])⟩),
 (41,⟨6,true,144,[.slice,.slice,.slice,.slice,.slice,.slice],(.struct [(0,22),(1,38),(3,39),(4,36),(5,36)])⟩),
 (44,⟨1,false,8,[(.int .i64)],(.int .i64)⟩),
 (48,⟨1,false,24,[.slice],(.slice 51)⟩),
 (50,⟨3,true,24,[(.int .i64),(.int .i64),(.int .i64)],(.struct [(0,3),(1,3),(2,3)])⟩),
 (51,⟨3,true,24,[(.int .i64),(.int .i64),(.int .i64)],(.struct [(0,3),(1,3),(2,3)])⟩),
 (59,⟨3,true,72,[.slice,.slice,.slice],(.array 3 35)⟩),
 (62,⟨18,true,432,[.slice,.slice,.slice,.slice,.slice,.slice,.slice,.slice,.slice,.slice,.slice,.slice,.slice,.slice,.slice,.slice,.slice,.slice],(.array 3 41)⟩),
 (63,⟨3,true,72,[.slice,.slice,.slice],(.array 3 22)⟩),
 (64,⟨2,true,48,[.slice,.slice],(.array 2 48)⟩),
 (66,⟨1,false,24,[.slice],(.slice 9)⟩),
 (67,⟨1,false,24,[.slice],(.slice 101)⟩),
 (68,⟨1,false,24,[.slice],(.slice 103)⟩),
 (69,⟨6,true,128,[.slice,.slice,.slice,.slice,(.int .i64),.slice],(.struct [(0,67),(1,68),(2,66),(3,22),(4,3),(5,22)])⟩),
 (70,⟨6,true,128,[.slice,.slice,.slice,.slice,(.int .i64),.slice],(.struct [(0,67),(1,68),(2,66),(3,22),(4,3),(5,22)])⟩),
 (71,⟨2,true,16,[(.int .i64),(.int .i64)],(.struct [(0,3),(1,3)])⟩),
 (72,⟨2,true,16,[(.int .i64),(.int .i64)],(.struct [(0,3),(1,3)])⟩),
 (73,⟨3,true,24,[(.int .i64),(.int .i64),(.int .i64)],(.struct [(0,3),(1,72)])⟩),
 (74,⟨3,true,24,[(.int .i64),(.int .i64),(.int .i64)],(.struct [(0,3),(1,72)])⟩),
 (76,⟨2,true,32,[.slice,(.int .i64)],(.struct [(0,22),(1,3)])⟩),
 (77,⟨2,true,32,[.slice,(.int .i64)],(.struct [(0,22),(1,3)])⟩),
 (86,⟨15,true,328,[.slice,.slice,(.int .i64),.slice,.slice,.slice,.slice,.slice,.slice,.slice,.slice,.slice,.slice,.slice,.bool],(.struct [(0,34),(6,35),(7,22),(8,41),(14,4)])⟩),
 (87,⟨15,true,328,[.slice,.slice,(.int .i64),.slice,.slice,.slice,.slice,.slice,.slice,.slice,.slice,.slice,.slice,.slice,.bool],(.struct [(0,34),(6,35),(7,22),(8,41),(14,4)])⟩),
 (93,⟨1,false,8,[.ptr],(.pointer 41)⟩),
 (100,⟨3,true,24,[(.int .i64),(.int .i64),(.int .i64)],(.struct [(0,3),(1,3),(2,3)])⟩),
 (101,⟨3,true,24,[(.int .i64),(.int .i64),(.int .i64)],(.struct [(0,3),(1,3),(2,3)])⟩),
 (102,⟨4,true,32,[(.int .i64),(.int .i64),(.int .i64),(.int .i64)],(.struct [(0,3),(1,3),(2,3),(3,3)])⟩),
 (103,⟨4,true,32,[(.int .i64),(.int .i64),(.int .i64),(.int .i64)],(.struct [(0,3),(1,3),(2,3),(3,3)])⟩),
 (112,⟨1,false,24,[.slice],(.slice 72)⟩),
 (117,⟨3,true,64,[.str,.slice,.slice],(.struct [(0,9),(1,22),(2,66)])⟩),
 (118,⟨3,true,64,[.str,.slice,.slice],(.struct [(0,9),(1,22),(2,66)])⟩),
 (119,⟨1,true,24,[.slice],(.struct [(0,22)])⟩),
 (120,⟨1,true,24,[.slice],(.struct [(0,22)])⟩),
 (138,⟨5,true,72,[(.int .i64),.slice,.slice,(.int .i64),(.int .i64)],(.struct [(0,3),(1,22),(2,22),(3,3),(4,3)])⟩),
 (139,⟨5,true,72,[(.int .i64),.slice,.slice,(.int .i64),(.int .i64)],(.struct [(0,3),(1,22),(2,22),(3,3),(4,3)])⟩),
 (140,⟨1,false,8,[.other],.other⟩),
 (142,⟨5,true,56,[(.int .i64),.slice,(.int .i64),(.int .i64),.bool],(.struct [(0,3),(1,22),(2,3),(3,3),(4,4)])⟩),
 (143,⟨5,true,56,[(.int .i64),.slice,(.int .i64),(.int .i64),.bool],(.struct [(0,3),(1,22),(2,3),(3,3),(4,4)])⟩),
 (146,⟨2,true,16,[(.int .i64),.bool],(.struct [(0,3),(1,4)])⟩),
 (147,⟨2,true,16,[(.int .i64),.bool],(.struct [(0,3),(1,4)])⟩),
 (148,⟨1,false,8,[.other],.other⟩),
 (149,⟨1,false,24,[.slice],(.slice 148)⟩),
 (158,⟨1,false,8,[.other],.other⟩),
 (163,⟨1,false,8,[.other],.other⟩),
 (165,⟨1,false,8,[.other],(.map 9 4)⟩),
 (170,⟨1,false,24,[.slice],(.slice 175)⟩),
 (174,⟨2,true,16,[(.int .i64),(.int .i64)],(.struct [(0,3),(1,3)])⟩),
 (175,⟨2,true,16,[(.int .i64),(.int .i64)],(.struct [(0,3),(1,3)])⟩),
 (179,⟨1,false,24,[.slice],(.slice 22)⟩),
 (180,⟨1,false,24,[.slice],(.slice 5)⟩),
 (194,⟨1,false,8,[.other],(.map 9 3)⟩),
 (196,⟨1,false,8,[.other],.other⟩),
 (213,⟨1,false,8,[.other],.other⟩),
 (215,⟨1,false,8,[.other],.other⟩),
 (216,⟨64,true,512,[(.int .i64),(.int .i64),(.int .i64),(.int .i64),(.int .i64),(.int .i64),(.int .i64),(.int .i64),(.int .i64),(.int .i64),(.int .i64),(.int .i64),(.int .i64),(.int .i64),(.int .i64),(.int .i64),(.int .i64),(.int .i64),(.int .i64),(.int .i64),(.int .i64),(.int .i64),(.int .i64),(.int .i64),(.int .i64),(.int .i64),(.int .i64),(.int .i64),(.int .i64),(.int .i64),(.int .i64),(.int .i64),(.int .i64),(.int .i64),(.int .i64),(.int .i64),(.int .i64),(.int .i64),(.int .i64),(.int .i64),(.int .i64),(.int .i64),(.int .i64),(.int .i64),(.int .i64),(.int .i64),(.int .i64),(.int .i64),(.int .i64),(.int .i64),(.int .i64),(.int .i64),(.int .i64),(.int .i64),(.int .i64),(.int .i64),(.int .i64),(.int .i64),(.int .i64),(.int .i64),(.int .i64),(.int .i64),(.int .i64),(.int .i64)],(.array 64 3)⟩),
 (217,⟨64,true,512,[(.int .i64),(.int .i64),(.int .i64),(.int .i64),(.int .i64),(.int .i64),(.int .i64),(.int .i64),(.int .i64),(.int .i64),(.int .i64),(.int .i64),(.int .i64),(.int .i64),(.int .i64),(.int .i64),(.int .i64),(.int .i64),(.int .i64),(.int .i64),(.int .i64),(.int .i64),(.int .i64),(.int .i64),(.int .i64),(.int .i64),(.int .i64),(.int .i64),(.int .i64),(.int .i64),(.int .i64),(.int .i64),(.int .i64),(.int .i64),(.int .i64),(.int .i64),(.int .i64),(.int .i64),(.int .i64),(.int .i64),(.int .i64),(.int .i64),(.int .i64),(.int .i64),(.int .i64),(.int .i64),(.int .i64),(.int .i64),(.int .i64),(.int .i64),(.int .i64),(.int .i64),(.int .i64),(.int .i64),(.int .i64),(.int .i64),(.int .i64),(.int .i64),(.int .i64),(.int .i64),(.int .i64),(.int .i64),(.int .i64),(.int .i64)],(.array 64 3)⟩),
 (230,⟨1,false,8,[.other],.other⟩)]
 eqs:=[(74,[(.int .i64),(.int .i64),(.int .i64)]),(175,[(.int .i64),(.int .i64)])]
 fns:=[(7,⟨[],true⟩),(8,⟨[0],true⟩),(11,⟨[0],false⟩),(12,⟨[0],false⟩),(13,⟨[],true⟩),(14,⟨[],true⟩),(17,⟨[0],true⟩),(20,⟨[0],true⟩),(22,⟨[],true⟩),(23,⟨[],true⟩),(24,⟨[],true⟩),(25,⟨[0],true⟩),(26,⟨[0],true⟩),(27,⟨[],true⟩),(35,⟨[0],false⟩),(36,⟨[0],false⟩),(37,⟨[],true⟩),(39,⟨[],true⟩),(40,⟨[0],false⟩),(50,⟨[0],false⟩),(58,⟨[],true⟩),(59,⟨[],true⟩),(63,⟨[0],true⟩),(64,⟨[0],true⟩),(65,⟨[0],true⟩),(66,⟨[0],true⟩),(67,⟨[0],true⟩),(68,⟨[0],false⟩),(69,⟨[0],false⟩),(70,⟨[0],true⟩),(71,⟨[0],true⟩),(72,⟨[],true⟩),(73,⟨[],true⟩),(74,⟨[],true⟩),(75,⟨[],true⟩),(76,⟨[],true⟩),(79,⟨[],true⟩),(92,⟨[],true⟩),(93,⟨[],true⟩),(94,⟨[],true⟩),(95,⟨[],true⟩),(96,⟨[0],false⟩),(97,⟨[0],false⟩),(100,⟨[0],true⟩),(112,⟨[],true⟩),(118,⟨[],true⟩),(120,⟨[],true⟩),(122,⟨[],true⟩),(126,⟨[],true⟩),(131,⟨[],true⟩),(133,⟨[],true⟩),(152,⟨[],true⟩),(154,⟨[],true⟩),(157,⟨[],true⟩),(162,⟨[],true⟩),(168,⟨[],true⟩),(169,⟨[],true⟩),(188,⟨[],true⟩),(204,⟨[0],false⟩),(205,⟨[0],false⟩),(206,⟨[0],false⟩),(207,⟨[0],false⟩),(208,⟨[0],false⟩),(211,⟨[0],false⟩)]
 glob:=[(0,[iV (0:Int),iV (1:Int)])]
theorem iw:fq Tryz.prog cfg:=aaZ (by kernel_rfl) (by kernel_rfl) (by kernel_rfl)
abbrev S:=Ab.Spec Tryz.prog cfg
end Go.Proofs.YtfblhejmclcdmaaGreatDoor









namespace Go.Proofs.YtfblhejmclcdmaaGreatDoor
open Go.Ab Go.RowKit Go.Shelf
attribute [local go_sem] Oper.semAt_some
set_option maxRecDepth 100000 in
set_option maxHeartbeats 2000000 in
theorem ade (F:Fence) (n:Nat) (h7:F.fn 194) (hro:F.round=none) (hn:1≤n) (l B O b off len cap:Nat) (hlen:len≤1000000) (Keep:World→Prop)
  (c0 c1 c2 c3 c4:Nat→Value) (v1:Nat→Value) (hv:∀i,v1 i=.agg #[c0 i,c1 i,c2 i,c3 i,c4 i])
  (hB:∀w,Keep w→w.cell? ⟨B,O,none⟩=some (.slice (some ⟨b,off,none⟩) len cap))
  (h0:∀w i,Keep w→i<len→w.cell? ⟨b,off+i*5,none⟩=some (c0 i)) (h1:∀w i,Keep w→i<len→w.cell? ⟨b,off+i*5+1,none⟩=some (c1 i)) (h2:∀w i,Keep w→i<len→w.cell? ⟨b,off+i*5+2,none⟩=some (c2 i))
  (h3:∀w i,Keep w→i<len→w.cell? ⟨b,off+i*5+3,none⟩=some (c3 i)) (h4:∀w i,Keep w→i<len→w.cell? ⟨b,off+i*5+4,none⟩=some (c4 i))
  (J:Nat→World→Prop) (Jx:World→Prop)
  (hY:∀k W,k<len→J k W→YieldAt F (n - 1) Tryz.prog l #[.int .i64 ((len - 1 - k:Nat):Int),v1 (len - 1 - k)] W fun e W'=>
    (e=.returned (.bool true)∧J (k+1) W'∧Keep W')∨(e=.returned (.bool false)∧Jx W'))
  (W:World) (hW:Keep W) (hJ:J 0 W):
  CallsIn F n Tryz.prog 194 #[.func (.yield l) #[] #[],.pointer (some ⟨B,O,none⟩)] W fun e W'=>(∃v,e=.returned v)∧(J len W'∨Jx W'):=by
 refine callsIn_of_wp Tryz.func194 rfl h7 ?_ hro;simp only [Tryz.ntmps194,List.size_toArray,List.length_cons,List.length_nil,Nat.reduceAdd,Nat.reduceSub,Array.replicate_succ,Array.replicate_zero,List.push_toArray,List.append_toArray,List.nil_append,List.cons_append];have hB0:=hB W hW;gi_wp2;gi_loopw [3] (fun i wr=>∃k:Nat,k≤len∧i=.int .i64 ((len:Int) - 1 - k)∧J k wr∧Keep wr)
  (fun i _=>(intOf i+1).toNat)
 case atStart=>exact ⟨0,Nat.zero_le _,by simp,hJ,hW⟩
 case round=>
  obtain ⟨k,hk,rfl,hJs,hkp⟩:=hrel
  by_cases hlt:k<len
  ·obtain ⟨fn,tmps,assign,body,hy,hR⟩:=hY k wr hlt hJs
   have hBr:=hB wr hkp
   obtain ⟨i,hi⟩:∃i:Nat,i=len - 1 - k:=⟨_,rfl⟩
   rw [← hi] at hy
   have hil:i<len:=by omega
   have hii:((len:Int) - 1 - k)=(i:Int):=by omega
   rw [hii]
   have e0:=h0 wr i hkp hil
   have e1:=h1 wr i hkp hil
   have e2:=h2 wr i hkp hil
   have e3:=h3 wr i hkp hil
   have e4:=h4 wr i hkp hil
   rw [hv] at hy
   have A:Aside (i+k+1=len):=by show i+k+1=len; omega
   have hi0:¬ ((i:Int)<0):=by omega
   have hi1:0≤(i:Int):=by omega
   clear hi hii hlt hk
   gi_wp2
   refine hR.mono ?_
   rintro e W3 (⟨rfl,hJ3,hk3⟩ | ⟨rfl,hJx3⟩)
   ·have A':=A.out
    gi_wp2
    go_roundw
    case rel=>exact ⟨k+1,by omega,by have:=A'; simp; omega,hJ3,hk3⟩
    case measure=>simp [intOf]
   ·gi_wp2
    refine bodyPost_ret (results_none rfl _ _ _) rfl ?_
    exact ⟨⟨_,rfl⟩,.inr hJx3⟩
  ·obtain rfl:k=len:=by omega
   have hneg:((k:Int) - 1 - k) = -1:=by omega
   rw [hneg]
   gi_wp2
   go_end0
   exact ⟨⟨_,rfl⟩,.inl hJs⟩
set_option maxRecDepth 100000 in
set_option maxHeartbeats 2000000 in
theorem Wn (F:Fence) (n:Nat) (h7:F.fn 194) (hro:F.round=none) (l B O cap:Nat) (a:Option Addr) (J:World→Prop) (W:World) (hB:W.cell? ⟨B,O,none⟩=some (.slice a 0 cap)) (hJ:J W):
  CallsIn F n Tryz.prog 194 #[.func (.yield l) #[] #[],.pointer (some ⟨B,O,none⟩)] W fun e W'=>(∃v,e=.returned v)∧J W':=by
 refine callsIn_of_wp Tryz.func194 rfl h7 ?_ hro;simp only [Tryz.ntmps194,List.size_toArray,List.length_cons,List.length_nil,Nat.reduceAdd,Nat.reduceSub,Array.replicate_succ,Array.replicate_zero,List.push_toArray,List.append_toArray,List.nil_append,List.cons_append];gi_wp2;gi_loopw [3] (fun i wr=>i=.int .i64 (-1)∧J wr) (fun _ _=>0);case atStart=>exact ⟨by simp,hJ⟩
 case round=>
  obtain ⟨rfl,hJs⟩:=hrel
  gi_wp2
  go_end0
  exact ⟨⟨_,rfl⟩,hJs⟩
theorem JY {n n':Nat} {P:Program} {f:FuncId} {args:Array Value} {w:World} {R:Ending→World→Prop} (h:CallsIn (FW none) n P f args w R):CallsIn (FW none) n' P f args w R:=
 ⟨h.1,fun cs _=>h.2 cs (fun _ hd=>by cases hd)⟩
theorem Tk (l:List au) (hl:l.length≤1000000):Qj Tryz.prog 194 [.ro [aM l]] l.length (fun k=>iV ((l.length - 1 - k:Nat):Int)) (fun k=>qJ (l.getD (l.length - 1 - k) aj)):=by
 refine ⟨enters_of Tryz.func194 (by kernel_rfl) rfl,fun w I lb hI hlb hp=>?_⟩;have h0:=hp 0 (by simp);have hlb1:lb=#[lb.getD 0 Go.undef]:=by
  have:lb.size=1:=hlb;apply Array.ext
  ·simp [this]
  ·intro i h1 h2;have:i=0:=by omega
   subst this;simp [h1]
 rw [hlb1];generalize lb.getD 0 Go.undef=x at h0;clear hlb1 hp hlb;cases h0 with
 | ro B O vs hIB hm hr=>
  have hs:=hr 0 (by simp);have hm0:=hm 0 (by simp);have hs:PRep w I (aM l) (vs 0):=hs;generalize vs 0=sv at hs hm0;cases hs with
  | @sl _ _ _ _ a cap b off cs hcap _ ha hes hcm h1 hcr=>
   by_cases hz:l.length=0
   ·refine ⟨fun _=>.bool true,fun _=>.bool true,fun k hk=>absurd hk om,fun y n J Jx W hW hY hJ=>?_⟩;have hBc:W.cell? ⟨B,O,none⟩=some (.slice a 0 cap):=by
     rw [gT (w:=w) (hW B hIB),← hz];exact hm0
    rw [hz];exact (Wn (FW none) n trivial rfl y B O cap a (fun W=>J 0 W) W hBc hJ).mono fun e W' ⟨h1,h2⟩=>⟨h1,.inl h2⟩
   ·obtain ⟨ha1,hIb⟩:=ha hz;subst ha1;refine ⟨fun k=>.int .i64 ((l.length - 1 - k:Nat):Int),fun k=>.agg #[cs (l.length - 1 - k) 0,cs (l.length - 1 - k) 1,cs (l.length - 1 - k) 2,cs (l.length - 1 - k) 3,cs (l.length - 1 - k) 4],fun k hk=>⟨.int _ _,?_⟩,fun y n J Jx W hW hY hJ=>?_⟩
    ·refine .agg rfl fun j hj=>?_;have hj:j<5:=hj;have:=hcr (l.length - 1 - k) j om hj;have e:nth (qJ (l.getD (l.length - 1 - k) aj)).cells j=nth [iV (l.getD (l.length - 1 - k) aj).Parent,adw (l.getD (l.length - 1 - k) aj).bK,iV (l.getD (l.length - 1 - k) aj).eU,iV (l.getD (l.length - 1 - k) aj).fG,.bool (l.getD (l.length - 1 - k) aj).Always] j:=rfl;rcases (by omega:j=0∨j=1∨j=2∨j=3∨j=4) with rfl | rfl | rfl | rfl | rfl<;>exact this
    ·have key:∀W':World,(∀b,I b→W'.heap[b]? = w.heap[b]?)→∀i j,i<l.length→j<5→W'.cell? ⟨b,off+(i*5+j),none⟩=some (cs i j):=fun W' hW' i j hi hj=>by
      rw [gT (w:=w) (hW' b hIb)];exact hcm i j hi hj
     refine JY (ade (FW none) (n+1) trivial rfl om y B O b off l.length cap hl (fun W':World=>∀b,I b→W'.heap[b]? = w.heap[b]?) (fun i=>cs i 0) (fun i=>cs i 1) (fun i=>cs i 2) (fun i=>cs i 3) (fun i=>cs i 4) (fun i=>.agg #[cs i 0,cs i 1,cs i 2,cs i 3,cs i 4]) (fun _=>rfl)
      (fun W' hW'=>by rw [gT (w:=w) (hW' B hIB)]; exact hm0) (fun W' i h hi=>key W' h i 0 hi om) (fun W' i h hi=>key W' h i 1 hi om) (fun W' i h hi=>key W' h i 2 hi om) (fun W' i h hi=>key W' h i 3 hi om) (fun W' i h hi=>key W' h i 4 hi om)
      (fun k W1=>J k W1∧∀b,I b→W1.heap[b]? = w.heap[b]?) Jx ?_ W hW ⟨hJ,hW⟩ |>.mono ?_)
     ·rintro k W1 hk ⟨hJ1,hW1⟩;obtain ⟨fn,tmps,assign,body,hy,hR⟩:=hY k W1 hk hJ1;refine ⟨fn,tmps,assign,body,hy,hR.mono ?_⟩;rintro e W' (⟨rfl,h2,h3⟩ | ⟨rfl,h2⟩)
      ·have hW':∀b,I b→W'.heap[b]? = w.heap[b]? := fun b hb=>(h3 b hb).trans (hW1 b hb);exact .inl ⟨rfl,⟨h2,hW'⟩,hW'⟩
      ·exact .inr ⟨rfl,h2⟩
     ·rintro e W' ⟨h1,⟨h2,_⟩ | h2⟩
      ·exact ⟨h1,.inl h2⟩
      ·exact ⟨h1,.inr h2⟩
theorem Sg (l:List au):S 188 [aM l] [] (.fn 194 [.ro [aM l]]) []:=by
 refine Y0 (ct:=[]) iw Tryz.func188 rfl rfl (Nat.le_of_ble_eq_true rfl) (by decide +kernel) (Nat.zero_le _) ?_;conv=>whnf
 exact ⟨⟨rfl,Mh.refl _,trivial⟩,trivial⟩
end Go.Proofs.YtfblhejmclcdmaaGreatDoor









namespace Go.Proofs.YtfblhejmclcdmaaGreatDoor
open Go.ChangeShapes Go.WideShapes Go.ChangeAt Go.RowKit
open Go.Ab
set_option maxRecDepth 100000
theorem own:ownKnob Tryz.prog.godebug=none:=by kernel_rfl
theorem laidOut:laidOutB Tryz.prog=true:=by kernel_rfl
theorem afJ:Tryz.prog.globalNamed "bringup/clock.off" = some 0:=by kernel_rfl
theorem afK:(Tryz.prog.globals[0]?).map (·.type)=some 175:=by kernel_rfl
theorem adf:Tryz.prog.cellsOf 175=2:=by kernel_rfl
theorem cells3:Tryz.prog.cellsOf 3=1:=by kernel_rfl
abbrev abN:List (String×DataW Unit):=[("bringup/clock.off", Rows.laid_bringup_clock_off)]
theorem adg {W:World} (h:laidMetH Tryz.prog abN W):W.cell? ⟨0,0,none⟩=some (.int .i64 0)∧W.cell? ⟨0,1,none⟩=some (.int .i64 1):=by
 rw [MakeChecks.laidMetH_plain _ _ _ (by kernel_rfl)] at h;obtain ⟨ps,⟨g0,t0,cs0,f0,p0,q0,hg0,ht0,hv0,hd0,_⟩,_,_⟩:=h;obtain rfl:=Option.some.inj (afJ.symm.trans hg0);obtain rfl:=Option.some.inj (afK.symm.trans ht0);obtain ⟨y0,y1,n,hx,hl,h0,h1⟩:=trod_struct2 Tryz.underlying175 hd0;rw [adf] at hl;simp only [Prod.mk.injEq,Rows.laid_bringup_clock_off,DataW.agg.injEq,List.cons.injEq] at hx;obtain ⟨k0,e1,e2,_⟩:=DataW.trod_int Tryz.underlying3 h0;obtain ⟨k1,e3,e4,_⟩:=DataW.trod_int Tryz.underlying3 h1;have hk0:k0=0:=by have:=hx.1.1; rw [e2] at this; simpa using this.symm
 have hk1:k1=1:=by have:=hx.1.2.1; rw [e4] at this; simpa using this.symm
 subst hk0; subst hk1;have c0:=World.var?_cell hg0 hv0 0;have c1:=World.var?_cell hg0 hv0 1;obtain ⟨l⟩:=cs0;match l,hl with
 | [a,b],_=>
  rw [cells3] at e1 e3
  simp at e1 e3
  subst e1; subst e3
  exact ⟨by simpa using c0,by simpa using c1⟩
def Old (W:World):Nat→Prop:=fun b=>b<W.heap.size
theorem afL {W:World} (h:laidMetH Tryz.prog abN W):Rel cfg (EO W (Old W) (fun _=>none) 0) (hof []) (fun o=>o<0) W (Old W) (fun _=>none):=by
 obtain ⟨h0,h1⟩:=adg h;exact {
  dom:=fun o=>by simp [hof]
  used:=fun o p h=>by cases h
  objs:=fun o ob p _ h=>by cases h
  inj:=fun o o' p p' b bo sz b' bo' sz' h=>by cases h
  lZ:=fun o p b bo sz h=>by cases h
  lt:=fun o p b bo sz h=>by cases h
  vF:=fun b h=>h
  size:=Nat.le_refl _
  frame:=fun _ _ _=>rfl
  new:=fun o p b bo sz h=>by cases h
  glob:=fun g cs hg=>by
   have e:g=0∧cs=[.int .i64 0,.int .i64 1]:=by
    unfold cfg at hg
    simp only [Ab.look] at hg
    cases hb:Nat.beq 0 g with
    | true=>
     rw [hb] at hg
     have:=Nat.eq_of_beq_eq_true hb
     simp at hg
     exact ⟨this.symm,hg.symm⟩
    | false=>rw [hb] at hg; cases hg
   obtain ⟨rfl,rfl⟩:=e
   refine .ro 0 0 (fun j=>match j with | 0=>.int .i64 0 | _=>.int .i64 1) (World.block_lt_of_cell? _ _ h0) (fun j hj=>?_) (fun j hj=>?_)
   ·match j,hj with
    | 0,_=>exact h0
    | 1,_=>exact h1
   ·match j,hj with
    | 0,_=>exact .int _ _
    | 1,_=>exact .int _ _
  KE:=fun _ h=>h
  NC:=fun _ h=>.inl h
  PN:=fun _ _=>.inl rfl
  Dm:=fun _ h=>h
  env:=⟨eZ.refl _,fun _ _ h=>h.elim⟩
  maps:=fun o kd z f p b bo sz h=>by cases h }
theorem adh {f:FuncId} {args:List AV} {W:World} {vals:Array Value} (hs:S f args [] (.bool true) []) (hL:laidMetH Tryz.prog abN W) (hl:vals.size=args.length) (hr:∀j,j<args.length→PRep W (Old W) (nth args j) (vals.getD j Go.undef)):
  Calls Tryz.prog f vals W fun e W'=>e=.returned (.bool true)∧Below W.heap.size W W':=by
 obtain ⟨_,_,hc⟩:=hs;refine (hc W (Old W) (fun _=>none) vals (afL hL) hl (fun j hj=>.pure (hr j hj))).mono fun e W' h=>?_;obtain ⟨x,I',O',rfl,hR,hx⟩:=h;have hb:x=.bool true:=hx.jw;subst hb;refine ⟨rfl,⟨hR.env.same.os,hR.env.same.tape,hR.env.same.output,hR.size,fun k hk=>hR.frame k hk ?_⟩⟩;rintro ⟨o,p,bo,sz,h,_⟩;cases h
end Go.Proofs.YtfblhejmclcdmaaGreatDoor


namespace Go.Proofs.YtfblhejmclcdmaaGreatDoor
open Go.ChangeShapes Go.WideShapes Go.ChangeAt Go.RowKit
open Go.Ab
set_option maxRecDepth 100000
theorem ZM {H:Type} {d:DataW H} {l:List (DataW H)} (h:d∈l):Rows.uptoBulk d≤Rows.uptoBulkAll l:=by
 induction l with
 | nil=>cases h
 | cons x r ih=>
  simp only [Rows.uptoBulkAll];cases List.mem_cons.1 h with
  | inl e=>subst e; omega
  | inr e=>have:=ih e; omega
theorem abO {H:Type} (d:DataW H):1≤Rows.uptoBulk d:=by
 cases d with
 | lit l=>cases l<;>simp [Rows.uptoBulk]
 | _=>simp [Rows.uptoBulk]
theorem abP {H:Type} (l:List (DataW H)):l.length≤Rows.uptoBulkAll l:=by
 induction l with
 | nil=>simp [Rows.uptoBulkAll]
 | cons x r ih=>have:=abO x; simp only [Rows.uptoBulkAll,List.length_cons]; omega
def Cs (W:World) (u:List AV) (cs:List Value):Prop:=cs.length=u.length∧∀j,j<u.length→(cs.getD j Go.undef).oneCell'=true∧PRep W (Old W) (nth u j) (cs.getD j Go.undef)
theorem aej {W:World} {A B:List AV} {X Y:List Value} (h:Cs W A X) (k:Cs W B Y):Cs W (A++B) (X++Y):=by
 obtain ⟨h1,h2⟩:=h;obtain ⟨k1,k2⟩:=k;refine ⟨by simp [h1,k1],fun j hj=>?_⟩;rw [List.length_append] at hj;by_cases hjA:j<A.length
 ·have e1:(X++Y).getD j Go.undef=X.getD j Go.undef:=by simp [List.getD,List.getElem?_append_left (show j<X.length by omega)]
  have e2:nth (A++B) j=nth A j:=KN A B j hjA;rw [e1,e2]; exact h2 j hjA
 ·have e1:(X++Y).getD j Go.undef=Y.getD (j - A.length) Go.undef:=by simp [List.getD,List.getElem?_append_right (show X.length≤j by omega),h1]
  have e2:nth (A++B) j=nth B (j - A.length):=KO A B j om;rw [e1,e2]; exact k2 _ om
theorem adi {W:World} {A B:List AV} {cs:List Value} {o s:Nat} (h:Cs W A ((cs.drop o).take s)) (k:Cs W B (cs.drop (o+s))):Cs W (A++B) (cs.drop o):=by
 have:=aej h k;rwa [← List.drop_drop,List.take_append_drop] at this
theorem Rb {W:World} {a:AV} {v:Value} (h1:v.oneCell'=true) (h:PRep W (Old W) a v):Cs W [a] [v]:=
 ⟨rfl,fun j hj=>by
  have:j=0:=by simpa using hj
  subst this; exact ⟨h1,h⟩⟩
section
variable {H:Type} {enc:TypeId×Value→H} {W:World}
def Rd (enc:TypeId×Value→H) (W:World) (t:TypeId) {α:Type} (f:α→AV) (q:α→Prop):Prop:=
 ∀n cs x,DataW.trod enc Tryz.prog W 0 (fun _=>true) true n t cs=some x→Rows.uptoBulk x.1≤1048576→∃a,q a∧Cs W (f a).cells cs
def RdF (enc:TypeId×Value→H) (W:World) (fs:List Field) (o tot:Nat) {α:Type} (f:α→List AV) (q:α→Prop):Prop:=
 ∀n (cs:List Value) (xs:List (DataW H×List MemPlace)),cs.length=tot→xs.length=fs.length→
  (∀(i:Nat) (fl:Field),fs[i]? = some fl→DataW.trod enc Tryz.prog W 0 (fun _=>true) true n fl.type ((cs.drop fl.offset).take (Tryz.prog.cellsOf fl.type))=xs[i]?)→
  Rows.uptoBulkAll (xs.map (·.1))≤1048576→∃a,q a∧Cs W (f a) (cs.drop o)
theorem aek {t:TypeId} {k:IntKind} (ht:Tryz.prog.underlying t=some (.int k)):Rd enc W t (AV.int k) (fun n=>(Lit.int k n).wf=true):=fun n cs x h _=>by
 obtain ⟨z,rfl,_,hw⟩:=DataW.trod_int ht h;exact ⟨z,hw,Rb rfl (.int _ _)⟩
theorem adj {t:TypeId} (ht:Tryz.prog.underlying t=some .bool):Rd enc W t AV.bool (fun _=>True):=fun n cs x h _=>by
 obtain ⟨z,rfl,_⟩:=DataW.trod_bool ht h;exact ⟨z,trivial,Rb rfl (.bool _)⟩
theorem ael {t:TypeId} (ht:Tryz.prog.underlying t=some .string):Rd enc W t AV.str (fun s=>s.size≤1048576):=fun n cs x h hb=>by
 obtain ⟨z,rfl,rfl,_⟩:=DataW.trod_string ht h;refine ⟨z,?_,Rb rfl (.str _)⟩;simp only [Rows.uptoBulk,Array.length_toList,ByteArray.size_data] at hb;omega
theorem lV {tot:Nat}:RdF enc W [] tot tot (fun _:Unit=>[]) (fun _=>True):=fun n cs xs hl _ _ _=>
 ⟨(),trivial,by rw [List.drop_eq_nil_of_le om]; exact ⟨rfl,fun j hj=>absurd hj (Nat.not_lt_zero _)⟩⟩
theorem dn {f0:Field} {fs:List Field} {o o' tot:Nat} {α β:Type} {F:α→AV} {Q:α→Prop} {f:β→List AV} {q:β→Prop}
  (hr:Rd enc W f0.type F Q) (ho:f0.offset=o) (hs:o+Tryz.prog.cellsOf f0.type=o') (r:RdF enc W fs o' tot f q):
  RdF enc W (f0::fs) o tot (fun p:α×β=>(F p.1).cells++f p.2) (fun p=>Q p.1∧q p.2):=fun n cs xs hl hx hf hb=>by
 match xs,hx with
 | x::xs,hx=>
  simp only [List.map_cons,Rows.uptoBulkAll] at hb
  obtain ⟨a,ha,ca⟩:=hr _ _ _ (hf 0 f0 rfl) om
  obtain ⟨b,hb',cb⟩:=r n cs xs hl (by simpa using hx) (fun i fl hi=>hf (i+1) fl hi) om
  subst ho hs
  exact ⟨(a,b),⟨ha,hb'⟩,adi ca cb⟩
theorem iM {t:TypeId} {fs:Array Field} {tot:Nat} {α β:Type} {f:α→List AV} {q:α→Prop} (F:β→AV) (Q:β→Prop) (g:α→β) (ht:Tryz.prog.underlying t=some (.struct fs)) (hc:Tryz.prog.cellsOf t=tot)
  (r:RdF enc W fs.toList 0 tot f q) (hg:∀a,(F (g a)).cells=f a) (hq:∀a,q a→Q (g a)):Rd enc W t F Q:=fun n cs x h hb=>by
 obtain ⟨xs,m,_,rfl,hl,hlen,hf⟩:=DataW.trod_struct ht h;simp only [Rows.uptoBulk] at hb;obtain ⟨a,ha,ca⟩:=r m cs xs (by rw [hl,hc]) (by rw [hlen]; simp) (fun i fl hi=>hf i fl (by simpa using hi)) om;exact ⟨g a,hq a ha,by rw [hg]; simpa using ca⟩
theorem kU {t e:TypeId} {α:Type} {F:α→AV} {Q:α→Prop} (d:α) (es:Nat) (ht:Tryz.prog.underlying t=some (.slice e)) (hc:Tryz.prog.cellsOf e=es) (hp:0<es) (hes:∀a,(F a).cells.length=es)
  (r:Rd enc W e F Q):Rd enc W t (fun l:List α=>.sl es l.length false (bE F d l)) (fun l=>l.length≤1048576∧∀x∈l,Q x):=fun n cs x h hb=>by
 rcases Deep.open_slice ht h with ⟨rfl,rfl⟩ | ⟨a,len,cap,m,k,D,Pl,rfl,_,hl,hm,hmm,rfl,hx⟩
 ·exact ⟨[],⟨Nat.zero_le _,fun x hx=>(by cases hx)⟩,Rb rfl (.sl 0 0 (fun _ _=>Go.undef) (Nat.le_refl _) nofun (fun h=>absurd rfl h) (fun i hi=>by cases hi) (fun i j hi=>by cases hi) (fun i j hi=>by cases hi) (fun i j hi=>by cases hi))⟩
 ·simp only [if_true] at hmm;subst hmm;simp only [Rows.uptoBulk] at hb;letI:Inhabited (α×List Value):=⟨(d,[])⟩
  obtain ⟨X,hX⟩:=Deep.choose_lt (α:=α×List Value) (n:=len) (p:=fun i y=>Q y.1∧W.cells? 0 (a.add (i*es)) es=some y.2∧Cs W (F y.1).cells y.2) (fun i hi=>by
   obtain ⟨cs',h1,h2⟩:=hx i om;obtain ⟨y,hy,cy⟩:=r _ _ _ h2 (Nat.le_trans (ZM (l:=(List.range len).map D) (List.mem_map.2 ⟨i,List.mem_range.2 hi,rfl⟩)) om);rw [hc] at h1;exact ⟨(y,cs'),hy,h1,cy⟩)
  have hlen:=abP ((List.range len).map D);rw [List.length_map,List.length_range] at hlen;refine ⟨(List.range len).map fun i=>(X i).1,⟨by simp; omega,fun x hx=>?_⟩,Rb rfl ?_⟩
  ·obtain ⟨i,hi,rfl⟩:=List.mem_map.1 hx;exact (hX i (List.mem_range.1 hi)).1
  ·have hln:((List.range len).map fun i=>(X i).1).length=len:=by simp
   show PRep W (Old W) (.sl es ((List.range len).map fun i=>(X i).1).length false _) _;rw [hln];have hg:∀i,i<len→bE F d ((List.range len).map fun i=>(X i).1) i=F (X i).1:=fun i hi=>by
    show F (((List.range len).map fun i=>(X i).1).getD i d)=_;simp [List.getD,hi]
   have hsp0:0<len→a.spot=none:=fun h0=>by
    obtain ⟨_,e1,e2⟩:=World.cells?_some (hX 0 h0).2.1;have e3:=e2 0 hp;rw [Deep.add_add,List.getElem?_eq_getElem om,Nat.zero_mul] at e3;exact World.cell?_spot e3
   have hcell:∀i j,i<len→j<es→a.spot=none∧a.block<W.heap.size∧W.cell? ⟨a.block,a.off+(i*es+j),none⟩=some ((X i).2.getD j Go.undef):=fun i j hi hj=>by
    obtain ⟨_,e1,e2⟩:=World.cells?_some (hX i hi).2.1;have e3:=e2 j hj;rw [Deep.add_add,List.getElem?_eq_getElem om] at e3;have hsp:=hsp0 om;have hbk:=World.block_lt_of_cell? _ _ e3;obtain ⟨b,off,sp⟩:=a;simp only at hsp;subst hsp;refine ⟨rfl,?_,?_⟩
    ·unfold Addr.add at hbk;split at hbk<;>exact hbk
    ·rw [add_plain] at e3;rw [e3];simp [List.getD,List.getElem?_eq_getElem (show j<(X i).2.length by omega)]
   have hc3:∀i j,i<len→j<es→((X i).2.getD j Go.undef).oneCell'=true∧PRep W (Old W) (nth (F (X i).1).cells j) ((X i).2.getD j Go.undef):=fun i j hi hj=>
    (hX i hi).2.2.2 j (by rw [hes]; exact hj)
   refine .sl a.block a.off (fun i j=>(X i).2.getD j Go.undef) hl nofun (fun hn=>?_) (fun i hi=>by rw [hg i hi]; exact hes _) (fun i j hi hj=>(hcell i j hi hj).2.2) (fun i j hi hj=>(hc3 i j hi hj).1) (fun i j hi hj=>by rw [hg i hi]; exact (hc3 i j hi hj).2);have h0:=hcell 0 0 om hp;refine ⟨?_,h0.2.1⟩;obtain ⟨b,off,sp⟩:=a;simp only at h0;rw [h0.1]
theorem Pm {t:TypeId} {α:Type} {F:α→AV} {Q:α→Prop} {v:Value} {d:DataW H} {ps:List MemPlace} (r:Rd enc W t F Q) (hv:v.cells=#[v]) (hF:∀a,(F a).cells=[F a]) (h:DataW.Trod enc Tryz.prog W 0 (fun _=>true) true t v d ps) (hb:Rows.uptoBulk d≤1048576):∃a,Q a∧PRep W (Old W) (F a) v:=by
 obtain ⟨n,hn⟩:=h;obtain ⟨a,ha,ca⟩:=r _ _ _ hn hb;rw [hv,hF] at ca;exact ⟨a,ha,(ca.2 0 Nat.zero_lt_one).2⟩
theorem Yu {t:TypeId} {α:Type} {F:α→AV} {Q:α→Prop} {v:Value} {d:DataW H} {ps:List MemPlace} (r:Rd enc W t F Q) (hv:∃vs:Array Value,v=.agg vs) (hF:∀a,F a=.agg (F a).cells) (h:DataW.Trod enc Tryz.prog W 0 (fun _=>true) true t v d ps) (hb:Rows.uptoBulk d≤1048576):∃a,Q a∧PRep W (Old W) (F a) v:=by
 obtain ⟨vs,rfl⟩:=hv;obtain ⟨n,hn⟩:=h;obtain ⟨a,ha,ca⟩:=r _ _ _ hn hb;refine ⟨a,ha,?_⟩;rw [hF a];have e:(Value.agg vs).cells.toList=vs.toList:=rfl;rw [e] at ca;refine .agg (by simpa using ca.1) (fun j hj=>?_);have:=(ca.2 j hj).2;have e2:vs.toList.getD j Go.undef=vs.getD j Go.undef:=by
  rw [List.getD_eq_getElem?_getD,Array.getElem?_toList,Array.getD_eq_getD_getElem?]
 rwa [e2] at this
end
end Go.Proofs.YtfblhejmclcdmaaGreatDoor


namespace Go.Proofs.YtfblhejmclcdmaaGreatDoor
open Go.ChangeShapes Go.WideShapes Go.ChangeAt Go.RowKit
open Go.Ab
set_option maxRecDepth 100000
def QI (n:Int):Prop:=(Lit.int .i64 n).wf=true
def QL {α:Type} (Q:α→Prop) (l:List α):Prop:=l.length≤1048576∧∀x∈l,Q x
section
variable {H:Type} {enc:TypeId×Value→H} {W:World}
theorem yZ:Rd enc W 3 iV QI:=aek Tryz.underlying3
theorem aem:Rd enc W 4 AV.bool (fun _=>True):=adj Tryz.underlying4
theorem afb:Rd enc W 9 AV.str (fun s=>s.size≤1048576):=ael Tryz.underlying9
theorem nJ:Rd enc W 22 ak (QL QI):=kU (α:=Int) (F:=iV) 0 1 Tryz.underlying22 (by kernel_rfl) (by decide) (fun _=>rfl) yZ
def Uv (x:aC):Prop:=QI x.Kind∧(QL QI) x.Parents∧(QL QI) x.Choices∧QI x.Low∧QI x.High∧True
theorem abQ:Rd enc W 139 yu Uv:=iM (tot:=5) yu Uv (fun p:Int×(List Int)×(List Int)×Int×Int×Unit=>⟨p.1,p.2.1,p.2.2.1,p.2.2.2.1,p.2.2.2.2.1⟩) Tryz.underlying139 (by kernel_rfl) (dn (o:=0) (o':=1) yZ rfl (by kernel_rfl) (dn (o:=1) (o':=2) nJ rfl (by kernel_rfl) (dn (o:=2) (o':=3) nJ rfl (by kernel_rfl) (dn (o:=3) (o':=4) yZ rfl (by kernel_rfl) (dn (o:=4) (o':=5) yZ rfl (by kernel_rfl) lV))))) (fun _=>rfl) (fun _ h=>h)
theorem XO:Rd enc W 26 aS (QL Uv):=kU (α:=aC) (F:=yu) aF 5 Tryz.underlying26 (by kernel_rfl) (by decide) (fun _=>rfl) abQ
def Pn (x:au):Prop:=QI x.Parent∧(QL QI) x.bK∧QI x.eU∧QI x.fG∧(fun _=>True) x.Always∧True
theorem ZN:Rd enc W 143 qJ Pn:=iM (tot:=5) qJ Pn (fun p:Int×(List Int)×Int×Int×Bool×Unit=>⟨p.1,p.2.1,p.2.2.1,p.2.2.2.1,p.2.2.2.2.1⟩) Tryz.underlying143 (by kernel_rfl) (dn (o:=0) (o':=1) yZ rfl (by kernel_rfl) (dn (o:=1) (o':=2) nJ rfl (by kernel_rfl) (dn (o:=2) (o':=3) yZ rfl (by kernel_rfl) (dn (o:=3) (o':=4) yZ rfl (by kernel_rfl) (dn (o:=4) (o':=5) aem rfl (by kernel_rfl) lV))))) (fun _=>rfl) (fun _ h=>h)
theorem Wo:Rd enc W 27 aM (QL Pn):=kU (α:=au) (F:=qJ) aj 5 Tryz.underlying27 (by kernel_rfl) (by decide) (fun _=>rfl) ZN
theorem Wp:Rd enc W 66 eX (QL (fun s=>s.size≤1048576)):=kU (α:=ByteArray) (F:=AV.str) ByteArray.empty 1 Tryz.underlying66 (by kernel_rfl) (by decide) (fun _=>rfl) afb
def IJ (x:bG):Prop:=(fun s=>s.size≤1048576) x.Name∧(QL QI) x.bn∧(QL (fun s=>s.size≤1048576)) x.Functions∧True
theorem Wq:Rd enc W 118 ji IJ:=iM (tot:=3) ji IJ (fun p:ByteArray×(List Int)×(List ByteArray)×Unit=>⟨p.1,p.2.1,p.2.2.1⟩) Tryz.underlying118 (by kernel_rfl) (dn (o:=0) (o':=1) afb rfl (by kernel_rfl) (dn (o:=1) (o':=2) nJ rfl (by kernel_rfl) (dn (o:=2) (o':=3) Wp rfl (by kernel_rfl) lV))) (fun _=>rfl) (fun _ h=>h)
theorem Si:Rd enc W 28 aO (QL IJ):=kU (α:=bG) (F:=ji) ay 3 Tryz.underlying28 (by kernel_rfl) (by decide) (fun _=>rfl) Wq
def Uw (x:bg):Prop:=QI x.bn∧(QL IJ) x.Groups∧True
theorem ZO:Rd enc W 30 jZ Uw:=iM (tot:=2) jZ Uw (fun p:Int×(List bG)×Unit=>⟨p.1,p.2.1⟩) Tryz.underlying30 (by kernel_rfl) (dn (o:=0) (o':=1) yZ rfl (by kernel_rfl) (dn (o:=1) (o':=2) Si rfl (by kernel_rfl) lV)) (fun _=>rfl) (fun _ h=>h)
def QReset (x:cK):Prop:=(QL QI) x.After∧True
theorem abR:Rd enc W 120 Qo QReset:=iM (tot:=1) Qo QReset (fun p:(List Int)×Unit=>⟨p.1⟩) Tryz.underlying120 (by kernel_rfl) (dn (o:=0) (o':=1) nJ rfl (by kernel_rfl) lV) (fun _=>rfl) (fun _ h=>h)
theorem XP:Rd enc W 31 bL (QL QReset):=kU (α:=cK) (F:=Qo) dReset 1 Tryz.underlying31 (by kernel_rfl) (by decide) (fun _=>rfl) abR
def Po (x:bT):Prop:=QI x.Parent∧(fun _=>True) x.Always∧True
theorem ZP:Rd enc W 147 KS Po:=iM (tot:=2) KS Po (fun p:Int×Bool×Unit=>⟨p.1,p.2.1⟩) Tryz.underlying147 (by kernel_rfl) (dn (o:=0) (o':=1) yZ rfl (by kernel_rfl) (dn (o:=1) (o':=2) aem rfl (by kernel_rfl) lV)) (fun _=>rfl) (fun _ h=>h)
theorem Ws:Rd enc W 32 bC (QL Po):=kU (α:=bT) (F:=KS) dI 2 Tryz.underlying32 (by kernel_rfl) (by decide) (fun _=>rfl) ZP
def Ux (x:aU):Prop:=(QL Uv) x.bD∧(QL Pn) x.aV∧Uw x.aN∧(QL QReset) x.Resets∧(QL Po) x.bI∧True
theorem abS:Rd enc W 34 iY Ux:=iM (tot:=6) iY Ux (fun p:(List aC)×(List au)×bg×(List cK)×(List bT)×Unit=>⟨p.1,p.2.1,p.2.2.1,p.2.2.2.1,p.2.2.2.2.1⟩) Tryz.underlying34 (by kernel_rfl) (dn (o:=0) (o':=1) XO rfl (by kernel_rfl) (dn (o:=1) (o':=2) Wo rfl (by kernel_rfl) (dn (o:=2) (o':=4) ZO rfl (by kernel_rfl) (dn (o:=4) (o':=5) XP rfl (by kernel_rfl) (dn (o:=5) (o':=6) Ws rfl (by kernel_rfl) lV))))) (fun _=>rfl) (fun _ h=>h)
def Uy (x:bJ):Prop:=QI x.Clock∧QI x.Low∧QI x.High∧True
theorem abT:Rd enc W 101 vLimit Uy:=iM (tot:=3) vLimit Uy (fun p:Int×Int×Int×Unit=>⟨p.1,p.2.1,p.2.2.1⟩) Tryz.underlying101 (by kernel_rfl) (dn (o:=0) (o':=1) yZ rfl (by kernel_rfl) (dn (o:=1) (o':=2) yZ rfl (by kernel_rfl) (dn (o:=2) (o':=3) yZ rfl (by kernel_rfl) lV))) (fun _=>rfl) (fun _ h=>h)
theorem XQ:Rd enc W 67 dU (QL Uy):=kU (α:=bJ) (F:=vLimit) dLimit 3 Tryz.underlying67 (by kernel_rfl) (by decide) (fun _=>rfl) abT
def Yv (x:bB):Prop:=QI x.bQ∧QI x.Low∧QI x.High∧QI x.Load∧True
theorem adk:Rd enc W 103 uJ Yv:=iM (tot:=4) uJ Yv (fun p:Int×Int×Int×Int×Unit=>⟨p.1,p.2.1,p.2.2.1,p.2.2.2.1⟩) Tryz.underlying103 (by kernel_rfl) (dn (o:=0) (o':=1) yZ rfl (by kernel_rfl) (dn (o:=1) (o':=2) yZ rfl (by kernel_rfl) (dn (o:=2) (o':=3) yZ rfl (by kernel_rfl) (dn (o:=3) (o':=4) yZ rfl (by kernel_rfl) lV)))) (fun _=>rfl) (fun _ h=>h)
theorem ZQ:Rd enc W 68 dW (QL Yv):=kU (α:=bB) (F:=uJ) bX 4 Tryz.underlying68 (by kernel_rfl) (by decide) (fun _=>rfl) adk
def Wt (x:aH):Prop:=(QL Uy) x.Limits∧(QL Yv) x.Draws∧(QL (fun s=>s.size≤1048576)) x.Functions∧(QL QI) x.Resets∧QI x.dO∧(QL QI) x.aL∧True
theorem adl:Rd enc W 70 qg Wt:=iM (tot:=6) qg Wt (fun p:(List bJ)×(List bB)×(List ByteArray)×(List Int)×Int×(List Int)×Unit=>⟨p.1,p.2.1,p.2.2.1,p.2.2.2.1,p.2.2.2.2.1,p.2.2.2.2.2.1⟩) Tryz.underlying70 (by kernel_rfl) (dn (o:=0) (o':=1) XQ rfl (by kernel_rfl) (dn (o:=1) (o':=2) ZQ rfl (by kernel_rfl) (dn (o:=2) (o':=3) Wp rfl (by kernel_rfl) (dn (o:=3) (o':=4) nJ rfl (by kernel_rfl) (dn (o:=4) (o':=5) yZ rfl (by kernel_rfl) (dn (o:=5) (o':=6) nJ rfl (by kernel_rfl) lV)))))) (fun _=>rfl) (fun _ h=>h)
theorem ZR:Rd enc W 35 dB (QL Wt):=kU (α:=aH) (F:=qg) aP 6 Tryz.underlying35 (by kernel_rfl) (by decide) (fun _=>rfl) adl
theorem M0:Rd enc W 36 aJ (QL (fun _=>True)):=kU (α:=Bool) (F:=AV.bool) false 1 Tryz.underlying36 (by kernel_rfl) (by decide) (fun _=>rfl) aem
def XR (x:bf):Prop:=(QL (fun _=>True)) x.On∧(QL QI) x.Level∧True
theorem abU:Rd enc W 38 vH XR:=iM (tot:=2) vH XR (fun p:(List Bool)×(List Int)×Unit=>⟨p.1,p.2.1⟩) Tryz.underlying38 (by kernel_rfl) (dn (o:=0) (o':=1) M0 rfl (by kernel_rfl) (dn (o:=1) (o':=2) nJ rfl (by kernel_rfl) lV)) (fun _=>rfl) (fun _ h=>h)
def aen (x:iC):Prop:=QI x.bW∧QI x.Function∧True
theorem aeo:Rd enc W 72 aa3 aen:=iM (tot:=2) aa3 aen (fun p:Int×Int×Unit=>⟨p.1,p.2.1⟩) Tryz.underlying72 (by kernel_rfl) (dn (o:=0) (o':=1) yZ rfl (by kernel_rfl) (dn (o:=1) (o':=2) yZ rfl (by kernel_rfl) lV)) (fun _=>rfl) (fun _ h=>h)
def Pp (x:aK):Prop:=QI x.Device∧aen x.Use∧True
theorem ZT:Rd enc W 74 dX Pp:=iM (tot:=3) dX Pp (fun p:Int×iC×Unit=>⟨p.1,p.2.1⟩) Tryz.underlying74 (by kernel_rfl) (dn (o:=0) (o':=1) yZ rfl (by kernel_rfl) (dn (o:=1) (o':=3) aeo rfl (by kernel_rfl) lV)) (fun _=>rfl) (fun _ h=>h)
theorem Wu:Rd enc W 39 bN (QL Pp):=kU (α:=aK) (F:=dX) bq 3 Tryz.underlying39 (by kernel_rfl) (by decide) (fun _=>rfl) ZT
def Uz (x:aG):Prop:=(QL QI) x.Setting∧XR x.Rails∧(QL Pp) x.Uses∧(QL (fun _=>True)) x.Released∧(QL (fun _=>True)) x.Powered∧True
theorem abV:Rd enc W 41 iX Uz:=iM (tot:=6) iX Uz (fun p:(List Int)×bf×(List aK)×(List Bool)×(List Bool)×Unit=>⟨p.1,p.2.1,p.2.2.1,p.2.2.2.1,p.2.2.2.2.1⟩) Tryz.underlying41 (by kernel_rfl) (dn (o:=0) (o':=1) nJ rfl (by kernel_rfl) (dn (o:=1) (o':=3) abU rfl (by kernel_rfl) (dn (o:=3) (o':=4) Wu rfl (by kernel_rfl) (dn (o:=4) (o':=5) M0 rfl (by kernel_rfl) (dn (o:=5) (o':=6) M0 rfl (by kernel_rfl) lV))))) (fun _=>rfl) (fun _ h=>h)
def Rc (x:bU):Prop:=QI x.Kind∧QI x.Unit∧QI x.Value∧True
theorem abW:Rd enc W 51 vWrite Rc:=iM (tot:=3) vWrite Rc (fun p:Int×Int×Int×Unit=>⟨p.1,p.2.1,p.2.2.1⟩) Tryz.underlying51 (by kernel_rfl) (dn (o:=0) (o':=1) yZ rfl (by kernel_rfl) (dn (o:=1) (o':=2) yZ rfl (by kernel_rfl) (dn (o:=2) (o':=3) yZ rfl (by kernel_rfl) lV))) (fun _=>rfl) (fun _ h=>h)
theorem XT:Rd enc W 48 gV (QL Rc):=kU (α:=bU) (F:=vWrite) dWrite 3 Tryz.underlying48 (by kernel_rfl) (by decide) (fun _=>rfl) abW
end
end Go.Proofs.YtfblhejmclcdmaaGreatDoor


namespace Go.Proofs.YtfblhejmclcdmaaGreatDoor
open Go.Ab
theorem z {p:Prop} (h:p:=by
 repeat' first
  | with_reducible exact trivial
  | with_reducible exact rfl
  | with_reducible refine And.intro ?_ ?_
  | ((conv=>whnf); first
   | with_reducible refine And.intro ?_ ?_
   | with_reducible refine Emb.mk ?_ ?_ ?_
   | with_reducible exact trivial)
  | exact rfl
  | exact fun _ _=>Le.refl _
  | exact fun _=>rfl
  | exact id
  | exact fun h=>Bool.noConfusion h
  | exact Le.refl _
  | exact Mh.refl _
  | exact fun h=>absurd rfl h
  | exact fun _ h=>absurd h (Nat.not_lt_zero _)
  | exact uI (.refl _) rfl (Nat.lt_of_sub_pos (by exact Nat.zero_lt_succ _))
  | omega
  | (simp [eT]; done)
  | (simp [eT]; omega)
  | refine iO ?_ ?_ ?_
  | refine le_appG ?_ ?_ ?_ ?_
  | exact acH (fun _ _=>Le.refl _) (Le.refl _)
  | exact SS (fun _=>rfl)
  | exact le_rtake om
  | exact le_litG _ _ _
  | exact Qm _ _
  | refine yt ?_ ?_
  | refine Le.vG ?_
  | refine Le.sl ?_ ?_ ?_ ?_):p:=h
theorem dk {p:Prop} (h:p:=by decide +kernel):p:=h
theorem oz {p:Prop} (h:p:=by first | omega | (simp [eT]; done) | (simp [eT]; omega)):p:=h
theorem sr {n es:Nat} {f:Bool} {g:Nat→AV}:n=n∧(n≠0→es=es)∧(f=true→f=true)∧∀i,i<n→Le (g i) (g i):=⟨rfl,fun _=>rfl,id,fun _ _=>.refl _⟩
theorem sf {n es:Nat} {f:Bool} {g:Nat→AV}:n=n∧(n≠0→es=es)∧(false=true→f=true)∧∀i,i<n→Le (g i) (g i):=⟨rfl,fun _=>rfl,nofun,fun _ _=>.refl _⟩
theorem r4 {A B C D:Type} {a:A} {b:B} {c:C} {d:D}:a=a∧b=b∧c=c∧d=d:=⟨rfl,rfl,rfl,rfl⟩
theorem r2 {A B:Type} {a:A} {b:B}:a=a∧b=b:=⟨rfl,rfl⟩
theorem sn {R:Type} {p:Prop} {d:Decidable p} {m:M R} {r:R} {K:Prop} (hm:need p m r) (h:p→m r→K):p∧K:=⟨hm.1,h hm.1 hm.2⟩
theorem s2 {R:Type} {p q:Prop} {d:Decidable p} {d2:Decidable q} {m:M R} {r:R} {K:Prop} (hm:need p (need q m) r) (h:p→q→m r→K):p∧q∧K:=⟨hm.1,hm.2.1,h hm.1 hm.2.1 hm.2.2⟩
theorem si {R:Type} {c:Bool} {x y:M R} {r:R} {A B:Prop} (hm:(cond c x y) r) (h1:c=true→x r→A) (h2:c=false→y r→B):Sn c A B:=dK hm h1 h2
theorem sb {A R:Type} {m:M A} {k:A→M R} {r:R} {G:Prop} (hm:bnd m k r) (h:∀v,m v→k v r→G):G:=dz hm h
theorem cl {A B:Type} {p K:A→B→Prop} {a:A} {b:B} (h:p a b) (k:K a b):∃a b,p a b∧K a b:=⟨a,b,h,k⟩
theorem re {A B:Type} {P:List A→List B→Prop} (h:P [] []:=by exact z):∃a b,P a b:=⟨_,_,h⟩
theorem rt {A B:Type} {P:A→B→Prop} (a:A) (b:B) (h:P a b:=by exact z):∃a b,P a b:=⟨_,_,h⟩
theorem lc {A B C:Type} {p:A→Prop} {E:A→B→C→Prop} {a:A} (b:B) (c:C) (hm:p a) (h:E a b c:=by exact z):∃a b c,p a∧E a b c:=⟨a,b,c,hm,h⟩
theorem lce {A B C:Type} {p:A→Prop} {E:A→B→C→Prop} {a:A} (b:B) (c:C) (hm:p a) (h:E a b c):∃a b c,p a∧E a b c:=⟨a,b,c,hm,h⟩
theorem le {A B C:Type} {p:A→Prop} {E:A→List B→List C→Prop} {a:A} (hm:p a) (h:E a [] []:=by exact z):∃a b c,p a∧E a b c:=⟨a,_,_,hm,h⟩
theorem Sj (ct:List Nat) {fn:Func} {f:FuncId} {c:Code} {args:List AV} {obs:List cB} {r:AV} {obs':List cB} (hf:Tryz.prog.funcs[f]? = some fn) (hb:fn.body=some c)
  (h:jD cfg (Ab.Spec Tryz.prog cfg) ct (Loops Tryz.prog cfg fn.ntmps none obs.length) c ⟨DC args 0,CF.obsUps obs 0,obs.length⟩ (aaW cfg fn.results.toList obs.length r obs'))
  (hnm:(fn.name == "runtime.NumGoroutine")=false:=by exact rfl)
  (hN:args.length≤fn.ntmps:=by exact Nat.le_of_ble_eq_true rfl) (hok:fZ fn.ntmps c=true:=by decide +kernel) (hle:obs.length≤obs'.length:=by exact Nat.le_of_ble_eq_true rfl):S f args obs r obs':=
 sQ iw hf hb hnm hN hok hle h
theorem sp {fn:Func} {f:FuncId} {c:Code} {args:List AV} {obs:List cB} {r:AV} {obs':List cB} (hf:Tryz.prog.funcs[f]? = some fn) (hb:fn.body=some c)
  (h:jD cfg (Ab.Spec Tryz.prog cfg) [] (Loops Tryz.prog cfg fn.ntmps none obs.length) c ⟨DC args 0,CF.obsUps obs 0,obs.length⟩ (aaW cfg fn.results.toList obs.length r obs'))
  (hnm:(fn.name == "runtime.NumGoroutine")=false:=by exact rfl)
  (hN:args.length≤fn.ntmps:=by exact Nat.le_of_ble_eq_true rfl) (hok:fZ fn.ntmps c=true:=by decide +kernel) (hle:obs.length≤obs'.length:=by exact Nat.le_of_ble_eq_true rfl):S f args obs r obs':=
 sQ iw hf hb hnm hN hok hle h
section
variable {N:Nat} {rr:Option Nat} {m:Nat}
theorem rn {c:Code} {s:St} {K:Exit→St→Prop} {M:Nat}
  (h:jD cfg (Ab.Spec Tryz.prog cfg) [] (Loops Tryz.prog cfg N rr m) c s (fun e s'=>match e with | .normal=>Vy Tryz.prog cfg N rr m c K M s' | e=>K e s')) (hok:fZ N c=true:=by decide +kernel):Vy Tryz.prog cfg N rr m c K (M+1) s:=kC iw hok h
variable {c:Code} {s:St} {K:Exit→St→Prop} {σ R:Type} {F:(σ→M R)→σ→M R} {x0:σ} {r:R}
theorem lfe (ct:List Nat) (hm:bV F x0 r) (st:σ→St) (ρ0:List (Nat×Option Nat)) (os0:List Nat) (hE:J2 m ρ0 os0 s (st x0))
  (round:∀(self:σ→M R) (x:σ),F self x r→jD cfg (Ab.Spec Tryz.prog cfg) ct (Loops Tryz.prog cfg N rr m) c (st x) (fun e s'=>match e with | .normal=>∃x' ρ os,self x' r∧J2 m ρ os s' (st x') | e=>K e s'))
  (hok:fZ N c=true:=by decide +kernel):Loops Tryz.prog cfg N rr m (.loop c) s K:=xQ iw hok hm st ρ0 os0 hE round
theorem Lx (ct:List Nat) (hm:bV F x0 r) (st:σ→St) (ρ0:List (Nat×Option Nat)) (os0:List Nat)
  (round:∀(self:σ→M R) (x:σ),F self x r→jD cfg (Ab.Spec Tryz.prog cfg) ct (Loops Tryz.prog cfg N rr m) c (st x) (fun e s'=>match e with | .normal=>∃x' ρ os,self x' r∧J2 m ρ os s' (st x') | e=>K e s'))
  (hE:J2 m ρ0 os0 s (st x0):=by exact z) (hok:fZ N c=true:=by decide +kernel):Loops Tryz.prog cfg N rr m (.loop c) s K:=xQ iw hok hm st ρ0 os0 hE round
theorem lf (hm:bV F x0 r) (st:σ→St) (ρ0:List (Nat×Option Nat)) (os0:List Nat)
  (round:∀(self:σ→M R) (x:σ),F self x r→jD cfg (Ab.Spec Tryz.prog cfg) [] (Loops Tryz.prog cfg N rr m) c (st x) (fun e s'=>match e with | .normal=>∃x' ρ os,self x' r∧J2 m ρ os s' (st x') | e=>K e s'))
  (hE:J2 m ρ0 os0 s (st x0):=by exact z) (hok:fZ N c=true:=by decide +kernel):Loops Tryz.prog cfg N rr m (.loop c) s K:=xQ iw hok hm st ρ0 os0 hE round
theorem l0 (hm:bV F x0 r) (st:σ→St)
  (round:∀(self:σ→M R) (x:σ),F self x r→jD cfg (Ab.Spec Tryz.prog cfg) [] (Loops Tryz.prog cfg N rr m) c (st x) (fun e s'=>match e with | .normal=>∃x' ρ os,self x' r∧J2 m ρ os s' (st x') | e=>K e s'))
  (hE:J2 m [] [] s (st x0):=by exact z) (hok:fZ N c=true:=by decide +kernel):Loops Tryz.prog cfg N rr m (.loop c) s K:=xQ iw hok hm st [] [] hE round
theorem ck (ct:List Nat) {x y:Code} {s:St} {K:Exit→St→Prop} (k:σ→M R) (r:R) (st:σ→St)
  (h1:jD cfg (Ab.Spec Tryz.prog cfg) ct (Loops Tryz.prog cfg N rr m) x s (fun e s'=>match e with | .normal=>∃x' ρ os,k x' r∧J2 m ρ os s' (st x') | e=>K e s'))
  (h2:∀x',k x' r→jD cfg (Ab.Spec Tryz.prog cfg) ct (Loops Tryz.prog cfg N rr m) y (st x') K) (hokx:fZ N x=true:=by decide +kernel) (hoky:fZ N y=true:=by decide +kernel):Loops Tryz.prog cfg N rr m (.seq x y) s K:=Qk iw hokx hoky k r st h1 h2
end
end Go.Proofs.YtfblhejmclcdmaaGreatDoor


namespace Go.Proofs.YtfblhejmclcdmaaGreatDoor
open Go.Ab
set_option maxRecDepth 100000
set_option maxHeartbeats 20000000
theorem eG  {r:aU} (hm:gy r):S 24 [] [] (iY r) [] :=sp Tryz.func24 rfl<|by cases hm;exact rt [32,72] []
theorem Ko {c_:aC} {r:Bool} (hm:Am c_ r):S 102 [yu c_] [] (.bool r) [] :=sp Tryz.func102 rfl<|by cases hm;exact re
theorem tF {s_:(List aC)} {r:Int} (hm:og s_ r):S 140 [aS s_,.fn 102 []] [] (iV r) [] :=sp Tryz.func140 rfl<|l0 hm (fun g1=>⟨[(0,aS s_),(1,.fn 102 []),(7,iV (s_.length:Int)),(8,iV g1)],[],0⟩) <|fun self1 g1 hm=>si hm (fun _ hm=>sn hm fun _ hm=>sb hm fun v3 hv3 hm=>cl (Ko hv3)<|si hm (fun _ hm=>by cases hm;exact re) fun _ hm=>sn hm fun _ hm=>le hm) fun _ hm=>by cases hm;exact re
theorem qD {s_:(List aC)} {r:Bool} (hm:jo s_ r):S 101 [aS s_,.fn 102 []] [] (.bool r) [] :=sp Tryz.func101 rfl<|sb hm fun v1 hv1 hm=>cl (tF hv1)<|by cases hm;exact re
theorem fK {n_:Int} {lo_:Int} {hi_:Int} {r:Bool} (hm:gW n_ lo_ hi_ r):S 142 [iV n_,iV lo_,iV hi_] [] (.bool r) [] :=sp Tryz.func142 rfl<|by cases hm;exact re
theorem Kq {p_:Int} {a1_:Int} {r:Bool} (hm:tX p_ a1_ r):S 141 [iV p_,.ro [iV a1_]] [] (.bool r) [] :=sp Tryz.func141 rfl<|sn hm fun _ hm=>sb hm fun v1 hv1 hm=>cl (fK hv1)<|by cases hm;exact re
theorem zu {s_:(List Int)} {f_:Int} {r:Int} (hm:uK s_ f_ r):S 174 [ak s_,.fn 141 [.ro [iV f_]]] [] (iV r) [] :=sp Tryz.func174 rfl<|l0 hm (fun g1=>⟨[(0,ak s_),(1,.fn 141 [.ro [iV f_]]),(7,iV (s_.length:Int)),(8,iV g1)],[],0⟩) <|fun self1 g1 hm=>si hm (fun _ hm=>sn hm fun _ hm=>sb hm fun v3 hv3 hm=>cl (Kq hv3)<|si hm (fun _ hm=>by cases hm;exact re) fun _ hm=>sn hm fun _ hm=>le hm) fun _ hm=>by cases hm;exact re
theorem wo {s_:(List Int)} {f_:Int} {r:Bool} (hm:kP s_ f_ r):S 135 [ak s_,.fn 141 [.ro [iV f_]]] [] (.bool r) [] :=sp Tryz.func135 rfl<|sb hm fun v1 hv1 hm=>cl (zu hv1)<|by cases hm;exact re
theorem E5 {s_:(List Int)} {v_:Int} {r:Int} (hm:slices_Index_int s_ v_ r):S 139 [ak s_,iV v_] [] (iV r) [] :=sp Tryz.func139 rfl<|l0 hm (fun g1=>⟨[(0,ak s_),(1,iV v_),(7,iV (s_.length:Int)),(8,iV g1)],[],0⟩) <|fun self1 g1 hm=>si hm (fun _ hm=>sn hm fun _ hm=>si hm (fun _ hm=>by cases hm;exact re) fun _ hm=>sn hm fun _ hm=>le hm) fun _ hm=>by cases hm;exact re
theorem oW {s_:(List Int)} {v_:Int} {r:Bool} (hm:slices_Contains_int s_ v_ r):S 91 [ak s_,iV v_] [] (.bool r) [] :=sp Tryz.func91 rfl<|sb hm fun v1 hv1 hm=>cl (E5 hv1)<|by cases hm;exact re
theorem ko {l_:(List Int)} {lo_:Int} {hi_:Int} {r:Bool} (hm:jV l_ lo_ hi_ r):S 143 [ak l_,iV lo_,iV hi_] [] (.bool r) [] :=sp Tryz.func143 rfl<|l0 hm (fun g1=>⟨[(0,ak l_),(1,iV lo_),(2,iV hi_),(9,ak l_),(10,iV (l_.length:Int)),(11,iV g1)],[],0⟩) <|fun self1 g1 hm=>si hm (fun _ hm=>sn hm fun _ hm=>sb hm fun v5 hv5 hm=>cl (fK hv5)<|sn hm fun _ hm=>sb hm fun v6 hv6 hm=>cl (fun q0=>((oW (hv6 q0)).le ⟨(.sl oz (fun _=>rfl) nofun (le_rtake (f:=iV) (d:=0) (by first | omega | (simp; omega)))),.refl _,trivial⟩ trivial))<|si hm (fun _ hm=>by cases hm;exact re) fun _ hm=>sn hm fun _ hm=>le hm) fun _ hm=>by cases hm;exact re
theorem sJ {s1_:(List Int)} {s2_:(List Int)} {r:Bool} (hm:slices_Equal_int s1_ s2_ r):S 144 [ak s1_,ak s2_] [] (.bool r) [] :=sp Tryz.func144 rfl<|si hm (fun _ hm=>by cases hm;exact re) fun _ hm=>l0 hm (fun g1=>⟨[(0,ak s1_),(1,ak s2_),(12,iV (s1_.length:Int)),(13,iV g1)],[],0⟩) <|fun self1 g1 hm=>si hm (fun _ hm=>s2 hm fun _ _ hm=>si hm (fun _ hm=>by cases hm;exact re) fun _ hm=>sn hm fun _ hm=>le hm) fun _ hm=>by cases hm;exact re
theorem M4 {c_:aC} {at_:Int} {r:Bool} (hm:FR c_ at_ r):S 103 [yu c_,iV at_] [] (.bool r) [] :=sp Tryz.func103 rfl<|sb hm fun v1 hv1 hm=>cl (wo hv1)<|sb hm fun v2 hv2 hm=>cl (fun q0=>(fK (hv2 q0)))<|sb hm fun v3 hv3 hm=>cl (fun q0=>(fK (hv3 q0)))<|si hm (fun _ hm=>by cases hm;exact re) fun _ hm=>si hm (fun _ hm=>sn hm fun _ hm=>sb hm fun v4 hv4 hm=>cl (fun q0=>(fK (hv4 q0)))<|by cases hm;exact re) fun _ hm=>si hm (fun _ hm=>si hm (fun _ hm=>sb hm fun v5 hv5 hm=>cl (fun q0=>(ko (hv5 q0)))<|by cases hm;exact re) fun _ hm=>si hm (fun _ hm=>sn hm fun _ hm=>sb hm fun v6 hv6 hm=>cl (fun q0=>(ko (hv6 q0)))<|by cases hm;exact re) fun _ hm=>si hm (fun _ hm=>si hm (fun _ hm=>sb hm fun v7 hv7 hm=>cl (fun q0=>((sJ (hv7 q0)).le ⟨.refl _,(.sl rfl (fun _=>rfl) nofun (le_litG iV 0 [(0:Int),(1:Int)])),trivial⟩ trivial))<|by cases hm;exact re) fun c7 hm=>by
 refine ⟨.bool false,[],(fun q0=>absurd q0 (NV c7)),?_⟩
 (conv=>whnf)
 have hm:r=(((c_.Parents.length:Int)==(1:Int))&&false):=hm
 subst hm
 refine ⟨[],[],?_⟩
 (conv=>whnf)
 exact ⟨⟨rfl,trivial,trivial⟩,rfl⟩) fun _ hm=>by cases hm;exact re) fun _ hm=>si hm (fun _ hm=>sb hm fun v8 hv8 hm=>cl (fun q0=>(ko (hv8 q0)))<|by cases hm;exact re) fun _ hm=>si hm (fun _ hm=>sn hm fun _ hm=>sb hm fun v9 hv9 hm=>cl (fun q0=>(ko (hv9 q0)))<|by cases hm;exact re) fun _ hm=>si hm (fun _ hm=>si hm (fun _ hm=>sb hm fun v10 hv10 hm=>cl (fun q0=>((sJ (hv10 q0)).le ⟨.refl _,(.sl rfl (fun _=>rfl) nofun (le_litG iV 0 [(0:Int),(1:Int)])),trivial⟩ trivial))<|by cases hm;exact re) fun c11 hm=>by
 refine ⟨.bool false,[],(fun q0=>absurd q0 (NV c11)),?_⟩
 (conv=>whnf)
 have hm:r=(((c_.Parents.length:Int)==(1:Int))&&false):=hm
 subst hm
 refine ⟨[],[],?_⟩
 (conv=>whnf)
 exact ⟨⟨rfl,trivial,trivial⟩,rfl⟩) fun _ hm=>by cases hm;exact re
theorem tH {l_:(List aC)} {r:Int} (hm:uL l_ r):S 45 [aS l_] [] (iV r) [] :=Sj [21] Tryz.func45 rfl<|sb hm fun v1 hv1 hm=>cl (fun q0=>(qD (hv1 q0)))<|si hm (fun _ hm=>by cases hm;exact re) fun _ hm=>Lx [21] hm (fun g1=>⟨[(0,aS l_),(18,aS l_),(19,iV (l_.length:Int)),(20,iV g1)],[],0⟩) [] [] <|fun self1 g1 hm=>si hm (fun _ hm=>sn hm fun _ hm=>sb hm fun v4 hv4 hm=>cl (M4 hv4)<|si hm (fun _ hm=>by cases hm;exact re) fun _ hm=>sn hm fun _ hm=>le hm) fun _ hm=>sn hm fun _ hm=>Lx [21] hm (fun g2=>⟨[(5,iV g2.1),(6,.dh 0 0 g2.2.2.length false),(33,aS l_),(34,iV (l_.length:Int)),(35,iV g2.2.1)],[(0,some (.row 1 g2.2.2.length (bE iV 0 g2.2.2)))],1⟩) [(0,some 32)] [] <|fun self2 g2 hm=>si hm (fun _ hm=>sn hm fun _ hm=>Lx [21] hm (fun g7=>⟨[(5,iV g2.1),(6,.dh 0 0 g7.2.length false),(7,iV g2.2.1),(8,.ptr 1 0 0),(33,aS l_),(34,iV (l_.length:Int)),(35,iV g2.2.1),(41,ak ((l_.getD g2.2.1.toNat aF).Parents)),(42,iV ((((l_.getD g2.2.1.toNat aF).Parents).length:Nat):Int)),(43,iV g7.1)],[(0,some (.row 1 g7.2.length (bE iV 0 g7.2))),(1,some (.box [iV ((l_.getD g2.2.1.toNat aF).Kind),ak ((l_.getD g2.2.1.toNat aF).Parents),ak ((l_.getD g2.2.1.toNat aF).Choices),iV ((l_.getD g2.2.1.toNat aF).Low),iV ((l_.getD g2.2.1.toNat aF).High)]))],2⟩) [(1,some 33)] [] <|fun self7 g7 hm=>si hm (fun _ hm=>s2 hm fun _ _ hm=>s2 hm fun _ _ hm=>sn hm fun _ hm=>le hm) fun _ hm=>ck [21] (o8 l_ g2 self2) r (fun g8=>⟨[(5,iV g2.1),(6,.dh 0 0 g8.length false),(7,iV g2.2.1),(8,.ptr 1 0 0),(33,aS l_),(34,iV (l_.length:Int)),(35,iV g2.2.1)],[(0,some (.row 1 g8.length (bE iV 0 g8))),(1,some (.box [iV ((l_.getD g2.2.1.toNat aF).Kind),ak ((l_.getD g2.2.1.toNat aF).Parents),ak ((l_.getD g2.2.1.toNat aF).Choices),iV ((l_.getD g2.2.1.toNat aF).Low),iV ((l_.getD g2.2.1.toNat aF).High)]))],2⟩) (si hm (fun _ hm=>s2 hm fun _ _ hm=>sn hm fun _ hm=>le hm) fun _ hm=>le hm) fun g8 hm=>s2 hm fun _ _ hm=>si hm (fun _ hm=>by cases hm;exact re) fun _ hm=>sn hm fun _ hm=>le hm) fun _ hm=>by cases hm;exact re
theorem I7 {s_:au} {r:Bool} (hm:mX s_ r):S 105 [qJ s_] [] (.bool r) [] :=sp Tryz.func105 rfl<|by cases hm;exact re
theorem tJ {s_:(List au)} {r:Int} (hm:oh s_ r):S 145 [aM s_,.fn 105 []] [] (iV r) [] :=sp Tryz.func145 rfl<|l0 hm (fun g1=>⟨[(0,aM s_),(1,.fn 105 []),(7,iV (s_.length:Int)),(8,iV g1)],[],0⟩) <|fun self1 g1 hm=>si hm (fun _ hm=>sn hm fun _ hm=>sb hm fun v3 hv3 hm=>cl (I7 hv3)<|si hm (fun _ hm=>by cases hm;exact re) fun _ hm=>sn hm fun _ hm=>le hm) fun _ hm=>by cases hm;exact re
theorem qE {s_:(List au)} {r:Bool} (hm:jq s_ r):S 104 [aM s_,.fn 105 []] [] (.bool r) [] :=sp Tryz.func104 rfl<|sb hm fun v1 hv1 hm=>cl (tJ hv1)<|by cases hm;exact re
theorem eY {n_:Int} {lo_:Int} {hi_:Int} {r:Bool} (hm:fI n_ lo_ hi_ r):S 146 [iV n_,iV lo_,iV hi_] [] (.bool r) [] :=sp Tryz.func146 rfl<|by cases hm;exact re
theorem LA {s_:au} {at_:Int} {r:Bool} (hm:wO s_ at_ r):S 106 [qJ s_,iV at_] [] (.bool r) [] :=sp Tryz.func106 rfl<|sn hm fun _ hm=>sb hm fun v1 hv1 hm=>cl (eY hv1)<|sb hm fun v2 hv2 hm=>cl (fun q0=>(eY (hv2 q0)))<|sb hm fun v3 hv3 hm=>cl (fun q0=>(eY (hv3 q0)))<|si hm (fun _ hm=>by cases hm;exact re) fun _ hm=>l0 hm (fun g1=>⟨[(2,.ptr 0 0 0),(42,ak s_.bK),(43,iV (s_.bK.length:Int)),(44,iV g1)],[(0,some (.box [iV s_.Parent,ak s_.bK,iV s_.eU,iV s_.fG,.bool s_.Always]))],1⟩) <|fun self1 g1 hm=>si hm (fun _ hm=>sn hm fun _ hm=>sb hm fun v6 hv6 hm=>cl (eY hv6)<|s2 hm fun _ _ hm=>si hm (fun _ hm=>by cases hm;exact re) fun _ hm=>sn hm fun _ hm=>le hm) fun _ hm=>by cases hm;exact re
theorem rH {l_:(List au)} {r:Int} (hm:nN l_ r):S 46 [aM l_] [] (iV r) [] :=sp Tryz.func46 rfl<|sb hm fun v1 hv1 hm=>cl (fun q0=>(qE (hv1 q0)))<|si hm (fun _ hm=>by cases hm;exact re) fun _ hm=>l0 hm (fun g1=>⟨[(12,aM l_),(13,iV (l_.length:Int)),(14,iV g1)],[],0⟩) <|fun self1 g1 hm=>si hm (fun _ hm=>sn hm fun _ hm=>sb hm fun v4 hv4 hm=>cl (LA hv4)<|si hm (fun _ hm=>by cases hm;exact re) fun _ hm=>sn hm fun _ hm=>le hm) fun _ hm=>by cases hm;exact re
theorem y7 {s_:ByteArray} {r:Bool} (hm:xR s_ r):S 107 [.str s_] [] (.bool r) [] :=sp Tryz.func107 rfl<|s2 hm fun _ _ hm=>si hm (fun _ hm=>by cases hm;exact re) fun _ hm=>l0 hm (fun g1=>⟨[(0,.str s_),(3,iV g1)],[],0⟩) <|fun self1 g1 hm=>si hm (fun _ hm=>sn hm fun _ hm=>si hm (fun _ hm=>by cases hm;exact re) fun _ hm=>sn hm fun _ hm=>le hm) fun _ hm=>by cases hm;exact re
theorem AO {s_:(List ByteArray)} {v_:ByteArray} {r:Int} (hm:slices_Index_string s_ v_ r):S 176 [eX s_,.str v_] [] (iV r) [] :=sp Tryz.func176 rfl<|l0 hm (fun g1=>⟨[(0,eX s_),(1,.str v_),(7,iV (s_.length:Int)),(8,iV g1)],[],0⟩) <|fun self1 g1 hm=>si hm (fun _ hm=>sn hm fun _ hm=>si hm (fun _ hm=>by cases hm;exact re) fun _ hm=>sn hm fun _ hm=>le hm) fun _ hm=>by cases hm;exact re
theorem xJ {s_:(List ByteArray)} {v_:ByteArray} {r:Bool} (hm:slices_Contains_string s_ v_ r):S 147 [eX s_,.str v_] [] (.bool r) [] :=sp Tryz.func147 rfl<|sb hm fun v1 hv1 hm=>cl (AO hv1)<|by cases hm;exact re
theorem OE {pins_:Int} {g_:bG} {r:Int} (hm:CU pins_ g_ r):S 108 [iV pins_,ji g_] [] (iV r) [] :=sp Tryz.func108 rfl<|si hm (fun _ hm=>by cases hm;exact re) fun _ hm=>si hm (fun _ hm=>by cases hm;exact re) fun _ hm=>l0 hm (fun g1=>⟨[(0,iV pins_),(3,.ptr 0 0 0),(27,ak g_.bn),(28,iV (g_.bn.length:Int)),(29,iV g1)],[(0,some (.box [.str g_.Name,ak g_.bn,eX g_.Functions]))],1⟩) <|fun self1 g1 hm=>si hm (fun _ hm=>sn hm fun _ hm=>si hm (fun _ hm=>by cases hm;exact re) fun _ hm=>sn hm fun _ hm=>le hm) fun _ hm=>l0 hm (fun g2=>⟨[(3,.ptr 0 0 0),(7,iV g2)],[(0,some (.box [.str g_.Name,ak g_.bn,eX g_.Functions]))],1⟩) <|fun self2 g2 hm=>si hm (fun _ hm=>s2 hm fun _ _ hm=>sn hm fun _ hm=>si hm (fun _ hm=>by cases hm;exact re) fun _ hm=>sn hm fun _ hm=>le hm) fun _ hm=>l0 hm (fun g3=>⟨[(3,.ptr 0 0 0),(61,eX g_.Functions),(62,iV (g_.Functions.length:Int)),(63,iV g3)],[(0,some (.box [.str g_.Name,ak g_.bn,eX g_.Functions]))],1⟩) <|fun self3 g3 hm=>si hm (fun _ hm=>sn hm fun _ hm=>sb hm fun v3 hv3 hm=>cl (y7 hv3)<|si hm (fun _ hm=>by cases hm;exact re) fun _ hm=>sn hm fun _ hm=>le hm) fun _ hm=>l0 hm (fun g4=>⟨[(3,.ptr 0 0 0),(72,eX g_.Functions),(73,iV (g_.Functions.length:Int)),(74,iV g4)],[(0,some (.box [.str g_.Name,ak g_.bn,eX g_.Functions]))],1⟩) <|fun self4 g4 hm=>si hm (fun _ hm=>s2 hm fun _ _ hm=>sb hm fun v6 hv6 hm=>cl ((xJ hv6).le ⟨(.sl oz (fun _=>rfl) nofun (le_rtake (f:=AV.str) (d:=ByteArray.empty) (by first | omega | (simp; omega)))),.refl _,trivial⟩ trivial)<|si hm (fun _ hm=>by cases hm;exact re) fun _ hm=>sn hm fun _ hm=>le hm) fun _ hm=>by cases hm;exact re
theorem EI {p_:bg} {r:Int} (hm:yw p_ r):S 47 [jZ p_] [] (iV r) [] :=sp Tryz.func47 rfl<|si hm (fun _ hm=>by cases hm;exact re) fun _ hm=>si hm (fun _ hm=>by cases hm;exact re) fun _ hm=>lf hm (fun g1=>⟨[(1,.ptr 0 0 0),(3,.mref 1),(21,aO p_.Groups),(22,iV (p_.Groups.length:Int)),(23,iV g1.1)],[(0,some (.box [iV p_.bn,aO p_.Groups])),(1,some (.map .str [.bool] g1.2))],2⟩) [(1,some 112)] [] <|fun self1 g1 hm=>si hm (fun _ hm=>sn hm fun _ hm=>sb hm fun v5 hv5 hm=>cl (y7 hv5)<|si hm (fun _ hm=>by cases hm;exact re) fun _ hm=>si hm (fun _ hm=>by cases hm;exact re) fun _ hm=>sb hm fun v6 hv6 hm=>cl (OE hv6)<|si hm (fun _ hm=>by cases hm;exact re) fun _ hm=>sn hm fun _ hm=>le hm) fun _ hm=>by cases hm;exact re
theorem Cg {l_:(List cK)} {r:Int} (hm:uM l_ r):S 48 [bL l_] [] (iV r) [] :=sp Tryz.func48 rfl<|si hm (fun _ hm=>by cases hm;exact re) fun _ hm=>l0 hm (fun g1=>⟨[(11,bL l_),(12,iV (l_.length:Int)),(13,iV g1)],[],0⟩) <|fun self1 g1 hm=>si hm (fun _ hm=>sn hm fun _ hm=>lf hm (fun g6=>⟨[(3,iV g1),(4,.ptr 0 0 0),(11,bL l_),(12,iV (l_.length:Int)),(13,iV g1),(19,ak ((l_.getD g1.toNat dReset).After)),(20,iV ((((l_.getD g1.toNat dReset).After).length:Nat):Int)),(21,iV g6)],[(0,some (.box [ak ((l_.getD g1.toNat dReset).After)]))],1⟩) [(0,some 32)] [] <|fun self6 g6 hm=>si hm (fun _ hm=>sn hm fun _ hm=>si hm (fun _ hm=>by cases hm;exact re) fun _ hm=>sn hm fun _ hm=>le hm) fun _ hm=>l0 hm (fun g7=>⟨[(4,.ptr 0 0 0),(7,iV g7),(11,bL l_),(12,iV (l_.length:Int)),(13,iV g1)],[(0,some (.box [ak ((l_.getD g1.toNat dReset).After)]))],1⟩) <|fun self7 g7 hm=>si hm (fun _ hm=>s2 hm fun _ _ hm=>sn hm fun _ hm=>si hm (fun _ hm=>by cases hm;exact re) fun _ hm=>sn hm fun _ hm=>le hm) fun _ hm=>sn hm fun _ hm=>le hm) fun _ hm=>by cases hm;exact re
theorem Ae {l_:(List bT)} {r:Int} (hm:qM l_ r):S 49 [bC l_] [] (iV r) [] :=sp Tryz.func49 rfl<|si hm (fun _ hm=>by cases hm;exact re) fun _ hm=>l0 hm (fun g1=>⟨[(8,bC l_),(9,iV (l_.length:Int)),(10,iV g1)],[],0⟩) <|fun self1 g1 hm=>si hm (fun _ hm=>sn hm fun _ hm=>si hm (fun _ hm=>by cases hm;exact re) fun _ hm=>sn hm fun _ hm=>le hm) fun _ hm=>by cases hm;exact re
theorem nU {b_:aU} {r:Int} (hm:mY b_ r):S 16 [iY b_] [] (iV r) [] :=sp Tryz.func16 rfl<|sb hm fun v1 hv1 hm=>cl (tH hv1)<|si hm (fun _ hm=>by cases hm;exact re) fun _ hm=>sb hm fun v2 hv2 hm=>cl (rH hv2)<|si hm (fun _ hm=>by cases hm;exact re) fun _ hm=>sb hm fun v3 hv3 hm=>cl (EI hv3)<|si hm (fun _ hm=>by cases hm;exact re) fun _ hm=>sb hm fun v4 hv4 hm=>cl (Cg hv4)<|si hm (fun _ hm=>by cases hm;exact re) fun _ hm=>sb hm fun v5 hv5 hm=>cl (Ae hv5)<|by cases hm;exact re
theorem gI {x_:Int} {low_:Int} {high_:Int} {r:Bool} (hm:j3 x_ low_ high_ r):S 90 [iV x_,iV low_,iV high_] [] (.bool r) [] :=sp Tryz.func90 rfl<|by cases hm;exact re
theorem OG {b_:aU} {n_:aH} {devices_:Int} {r:Int} (hm:CV b_ n_ devices_ r):S 51 [iY b_,qg n_,iV devices_] [] (iV r) [] :=sp Tryz.func51 rfl<|si hm (fun _ hm=>by cases hm;exact re) fun _ hm=>lf hm (fun g1=>⟨[(2,iV devices_),(3,.ptr 0 0 0),(4,.ptr 1 0 0),(35,dU n_.Limits),(36,iV (n_.Limits.length:Int)),(37,iV g1)],[(0,some (.box [aS b_.bD,aM b_.aV,iV b_.aN.bn,aO b_.aN.Groups,bL b_.Resets,bC b_.bI])),(1,some (.box [dU n_.Limits,dW n_.Draws,eX n_.Functions,ak n_.Resets,iV n_.dO,ak n_.aL]))],2⟩) [(1,some 8)] [] <|fun self1 g1 hm=>si hm (fun _ hm=>s2 hm fun _ _ hm=>sb hm fun v3 hv3 hm=>cl (gI hv3)<|si hm (fun _ hm=>by cases hm;exact re) fun _ hm=>sn hm fun _ hm=>le hm) fun _ hm=>l0 hm (fun g2=>⟨[(2,iV devices_),(3,.ptr 0 0 0),(4,.ptr 1 0 0),(68,dW n_.Draws),(69,iV (n_.Draws.length:Int)),(70,iV g2)],[(0,some (.box [aS b_.bD,aM b_.aV,iV b_.aN.bn,aO b_.aN.Groups,bL b_.Resets,bC b_.bI])),(1,some (.box [dU n_.Limits,dW n_.Draws,eX n_.Functions,ak n_.Resets,iV n_.dO,ak n_.aL]))],2⟩) <|fun self2 g2 hm=>si hm (fun _ hm=>s2 hm fun _ _ hm=>sb hm fun v8 hv8 hm=>cl (gI hv8)<|sb hm fun v9 hv9 hm=>cl (fun q0=>(gI (hv9 q0)))<|si hm (fun _ hm=>by cases hm;exact re) fun _ hm=>sn hm fun _ hm=>le hm) fun _ hm=>l0 hm (fun g3=>⟨[(2,iV devices_),(3,.ptr 0 0 0),(4,.ptr 1 0 0),(107,eX n_.Functions),(108,iV (n_.Functions.length:Int)),(109,iV g3)],[(0,some (.box [aS b_.bD,aM b_.aV,iV b_.aN.bn,aO b_.aN.Groups,bL b_.Resets,bC b_.bI])),(1,some (.box [dU n_.Limits,dW n_.Draws,eX n_.Functions,ak n_.Resets,iV n_.dO,ak n_.aL]))],2⟩) <|fun self3 g3 hm=>si hm (fun _ hm=>sn hm fun _ hm=>sb hm fun v12 hv12 hm=>cl (y7 hv12)<|si hm (fun _ hm=>by cases hm;exact re) fun _ hm=>sn hm fun _ hm=>le hm) fun _ hm=>l0 hm (fun g4=>⟨[(2,iV devices_),(3,.ptr 0 0 0),(4,.ptr 1 0 0),(118,ak n_.Resets),(119,iV (n_.Resets.length:Int)),(120,iV g4)],[(0,some (.box [aS b_.bD,aM b_.aV,iV b_.aN.bn,aO b_.aN.Groups,bL b_.Resets,bC b_.bI])),(1,some (.box [dU n_.Limits,dW n_.Draws,eX n_.Functions,ak n_.Resets,iV n_.dO,ak n_.aL]))],2⟩) <|fun self4 g4 hm=>si hm (fun _ hm=>s2 hm fun _ _ hm=>sb hm fun v15 hv15 hm=>cl (gI hv15)<|si hm (fun _ hm=>by cases hm;exact re) fun _ hm=>sn hm fun _ hm=>le hm) fun _ hm=>sn hm fun _ hm=>sb hm fun v16 hv16 hm=>cl (gI hv16)<|si hm (fun _ hm=>by cases hm;exact re) fun _ hm=>lf hm (fun g5=>⟨[(2,iV devices_),(4,.ptr 0 0 0),(141,ak n_.aL),(142,iV (n_.aL.length:Int)),(143,iV g5)],[(0,some (.box [dU n_.Limits,dW n_.Draws,eX n_.Functions,ak n_.Resets,iV n_.dO,ak n_.aL]))],1⟩) [(0,some 1)] [] <|fun self5 g5 hm=>si hm (fun _ hm=>s2 hm fun _ _ hm=>sb hm fun v19 hv19 hm=>cl (gI hv19)<|si hm (fun _ hm=>by cases hm;exact re) fun _ hm=>sn hm fun _ hm=>le hm) fun _ hm=>l0 hm (fun g6=>⟨[(4,.ptr 0 0 0),(17,iV g6)],[(0,some (.box [dU n_.Limits,dW n_.Draws,eX n_.Functions,ak n_.Resets,iV n_.dO,ak n_.aL]))],1⟩) <|fun self6 g6 hm=>si hm (fun _ hm=>s2 hm fun _ _ hm=>sn hm fun _ hm=>si hm (fun _ hm=>by cases hm;exact re) fun _ hm=>sn hm fun _ hm=>le hm) fun _ hm=>by cases hm;exact re
end Go.Proofs.YtfblhejmclcdmaaGreatDoor


namespace Go.Proofs.YtfblhejmclcdmaaGreatDoor
open Go.Ab
set_option maxRecDepth 100000
set_option maxHeartbeats 20000000
theorem l9 {b_:aU} {l_:(List aH)} {r:Int} (hm:lH b_ l_ r):S 18 [iY b_,dB l_] [] (iV r) [] :=sp Tryz.func18 rfl<|sb hm fun v1 hv1 hm=>cl (nU hv1)<|si hm (fun _ hm=>by cases hm;exact re) fun _ hm=>si hm (fun _ hm=>by cases hm;exact re) fun _ hm=>l0 hm (fun g1=>⟨[(1,dB l_),(2,.ptr 0 0 0),(17,dB l_),(18,iV (l_.length:Int)),(19,iV g1)],[(0,some (.box [aS b_.bD,aM b_.aV,iV b_.aN.bn,aO b_.aN.Groups,bL b_.Resets,bC b_.bI]))],1⟩) <|fun self1 g1 hm=>si hm (fun _ hm=>sn hm fun _ hm=>sb hm fun v4 hv4 hm=>cl (OG hv4)<|si hm (fun _ hm=>by cases hm;exact re) fun _ hm=>sn hm fun _ hm=>le hm) fun _ hm=>by cases hm;exact re
theorem vB {l_:(List aH)} {members_:(List Int)} {r:Bool} (hm:jW l_ members_ r):S 38 [dB l_,ak members_] [] (.bool r) [] :=sp Tryz.func38 rfl<|l0 hm (fun g1=>⟨[(0,dB l_),(1,ak members_),(7,ak members_),(8,iV (members_.length:Int)),(9,iV g1)],[],0⟩) <|fun self1 g1 hm=>si hm (fun _ hm=>s2 hm fun _ _ hm=>sb hm fun v5 hv5 hm=>cl (gI hv5)<|sn hm fun _ hm=>sb hm fun v6 hv6 hm=>cl (fun q0=>((oW (hv6 q0)).le ⟨(.sl oz (fun _=>rfl) nofun (le_rtake (f:=iV) (d:=0) (by first | omega | (simp; omega)))),.refl _,trivial⟩ trivial))<|si hm (fun _ hm=>by cases hm;exact re) fun _ hm=>sn hm fun _ hm=>le hm) fun _ hm=>by cases hm;exact re
theorem mF {s_:(List Int)} {r:(List Int)} (hm:slices_Clone_int s_ r):S 92 [ak s_] [] (.dh 0 0 r.length false) [.row 1 r.length (bE iV 0 r)] :=by
 obtain ⟨h1,hm⟩:=hm
 have hm:r=s_:=hm
 subst hm
 refine sQ (ct:=[1]) iw Tryz.func92 rfl rfl (Nat.le_of_ble_eq_true rfl) dk (Nat.le_of_ble_eq_true rfl) ?_
 (conv=>whnf)
 refine Qn (ct:=[]) iw (iw.slice (t:=22) (e:=3) rfl rfl rfl).1 dk dk dk dk dk [(2,.sl 0 0 true dL),(0,ak r)] [] 8 rfl ?_ (fun hn=>?_) ?_
 ·exact rfl
 ·(conv=>whnf)
  have hn:r.length=0:=hn
  refine ⟨[],[(0,none)],?_⟩
  (conv=>whnf)
  exact ⟨⟨rfl,trivial,⟨hn,trivial⟩⟩,⟨rfl,rfl,rfl,rfl,rfl,hn⟩⟩
 ·(conv=>whnf)
  refine ⟨by rw [Nat.zero_add]; exact h1,?_⟩
  (conv=>whnf)
  refine ⟨[],[(0,some 24)],?_⟩
  (conv=>whnf)
  exact ⟨⟨rfl,trivial,⟨⟨rfl,Nat.zero_add _,le_appG (l:=[]) rfl (fun _ h=>absurd h (Nat.not_lt_zero _)) rfl (fun _ _=>.refl _)⟩,trivial⟩⟩,⟨rfl,rfl,rfl,Nat.zero_add _,nofun⟩⟩
theorem lW {s_:(List Bool)} {r:(List Bool)} (hm:jk s_ r):S 95 [aJ s_] [] (.dh 0 0 r.length false) [.row 1 r.length (bE AV.bool false r)] :=by
 obtain ⟨h1,hm⟩:=hm
 have hm:r=s_:=hm
 subst hm
 refine sQ (ct:=[1]) iw Tryz.func95 rfl rfl (Nat.le_of_ble_eq_true rfl) dk (Nat.le_of_ble_eq_true rfl) ?_
 (conv=>whnf)
 refine Qn (ct:=[]) iw (iw.slice (t:=36) (e:=4) rfl rfl rfl).1 dk dk dk dk dk [(2,.sl 0 0 true dL),(0,aJ r)] [] 8 rfl ?_ (fun hn=>?_) ?_
 ·exact rfl
 ·(conv=>whnf)
  have hn:r.length=0:=hn
  refine ⟨[],[(0,none)],?_⟩
  (conv=>whnf)
  exact ⟨⟨rfl,trivial,⟨hn,trivial⟩⟩,⟨rfl,rfl,rfl,rfl,rfl,hn⟩⟩
 ·(conv=>whnf)
  refine ⟨by rw [Nat.zero_add]; exact h1,?_⟩
  (conv=>whnf)
  refine ⟨[],[(0,some 24)],?_⟩
  (conv=>whnf)
  exact ⟨⟨rfl,trivial,⟨⟨rfl,Nat.zero_add _,le_appG (l:=[]) rfl (fun _ h=>absurd h (Nat.not_lt_zero _)) rfl (fun _ _=>.refl _)⟩,trivial⟩⟩,⟨rfl,rfl,rfl,Nat.zero_add _,nofun⟩⟩
theorem Hu {r_:bf} {r:((List Bool)×(List Int))} (hm:Bo r_ r):S 93 [vH r_] [] (.agg [.dh 0 0 r.1.length false,.dh 1 0 r.2.length false]) [.row 1 r.1.length (bE AV.bool false r.1),.row 1 r.2.length (bE iV 0 r.2)] :=sp Tryz.func93 rfl<|sb hm fun v1 hv1 hm=>cl (lW hv1)<|sb hm fun v2 hv2 hm=>cl (mF hv2)<|by cases hm;exact rt [] [(0,some 32),(1,some 56)]
theorem y8 {s_:(List aK)} {r:(List aK)} (hm:jO s_ r):S 94 [bN s_] [] (.dh 0 0 r.length false) [.row 3 r.length (bE dX bq r)] :=by
 obtain ⟨h1,hm⟩:=hm
 have hm:r=s_:=hm
 subst hm
 refine sQ (ct:=[1]) iw Tryz.func94 rfl rfl (Nat.le_of_ble_eq_true rfl) dk (Nat.le_of_ble_eq_true rfl) ?_
 (conv=>whnf)
 refine Qn (ct:=[]) iw (iw.slice (t:=39) (e:=74) rfl rfl rfl).1 dk dk dk dk dk [(2,.sl 0 0 true dL),(0,bN r)] [] 8 rfl ?_ (fun hn=>?_) ?_
 ·exact rfl
 ·(conv=>whnf)
  have hn:r.length=0:=hn
  refine ⟨[],[(0,none)],?_⟩
  (conv=>whnf)
  exact ⟨⟨rfl,trivial,⟨hn,trivial⟩⟩,⟨rfl,rfl,rfl,rfl,rfl,hn⟩⟩
 ·(conv=>whnf)
  refine ⟨by rw [Nat.zero_add]; exact h1,?_⟩
  (conv=>whnf)
  refine ⟨[],[(0,some 24)],?_⟩
  (conv=>whnf)
  exact ⟨⟨rfl,trivial,⟨⟨rfl,Nat.zero_add _,le_appG (l:=[]) rfl (fun _ h=>absurd h (Nat.not_lt_zero _)) rfl (fun _ _=>.refl _)⟩,trivial⟩⟩,⟨rfl,rfl,rfl,Nat.zero_add _,nofun⟩⟩
theorem y9 {g_:aG} {r:((List Int)×(List Bool)×(List Int)×(List aK)×(List Bool)×(List Bool))} (hm:xS g_ r):S 39 [iX g_] [] (.agg [.dh 0 0 r.1.length false,.dh 1 0 r.2.1.length false,.dh 2 0 r.2.2.1.length false,.dh 3 0 r.2.2.2.1.length false,.dh 4 0 r.2.2.2.2.1.length false,.dh 5 0 r.2.2.2.2.2.length false]) [.row 1 r.1.length (bE iV 0 r.1),.row 1 r.2.1.length (bE AV.bool false r.2.1),.row 1 r.2.2.1.length (bE iV 0 r.2.2.1),.row 3 r.2.2.2.1.length (bE dX bq r.2.2.2.1),.row 1 r.2.2.2.2.1.length (bE AV.bool false r.2.2.2.2.1),.row 1 r.2.2.2.2.2.length (bE AV.bool false r.2.2.2.2.2)] :=sp Tryz.func39 rfl<|sb hm fun v1 hv1 hm=>cl (mF hv1)<|sb hm fun v2 hv2 hm=>cl (Hu hv2)<|sb hm fun v3 hv3 hm=>cl (y8 hv3)<|sb hm fun v4 hv4 hm=>cl (lW hv4)<|sb hm fun v5 hv5 hm=>cl (lW hv5)<|by cases hm;exact rt [] [(0,some 32),(1,some 56),(2,some 57),(3,some 80),(4,some 104),(5,some 128)]
theorem Dv {s_:dY} {r:Bool} (hm:mG s_ r):S 82 [CS s_] [] (.bool r) [] :=sp Tryz.func82 rfl<|sb hm fun v1 hv1 hm=>cl (vB hv1)<|si hm (fun _ hm=>by cases hm;exact re) fun _ hm=>lf hm (fun g1=>⟨[(1,.ptr 0 0 0),(4,.ptr 1 0 0),(67,aS s_.aW.bD),(68,iV (s_.aW.bD.length:Int)),(69,iV g1)],[(0,some (.box [aS s_.aW.bD,aM s_.aW.aV,iV s_.aW.aN.bn,aO s_.aW.aN.Groups,bL s_.aW.Resets,bC s_.aW.bI,dB s_.bR,ak s_.aI,ak s_.aQ.Setting,aJ s_.aQ.Rails.On,ak s_.aQ.Rails.Level,bN s_.aQ.Uses,aJ s_.aQ.Released,aJ s_.aQ.Powered,.bool s_.gN])),(1,some (.box [ak s_.aQ.Setting,aJ s_.aQ.Rails.On,ak s_.aQ.Rails.Level,bN s_.aQ.Uses,aJ s_.aQ.Released,aJ s_.aQ.Powered]))],2⟩) [(1,some 56)] [] <|fun self1 g1 hm=>si hm (fun _ hm=>s2 hm fun _ _ hm=>sn hm fun _ hm=>sb hm fun v4 hv4 hm=>cl (gI hv4)<|si hm (fun _ hm=>by cases hm;exact re) fun _ hm=>sn hm fun _ hm=>le hm) fun _ hm=>l0 hm (fun g2=>⟨[(1,.ptr 0 0 0),(87,bN s_.aQ.Uses),(88,iV (s_.aQ.Uses.length:Int)),(89,iV g2)],[(0,some (.box [aS s_.aW.bD,aM s_.aW.aV,iV s_.aW.aN.bn,aO s_.aW.aN.Groups,bL s_.aW.Resets,bC s_.aW.bI,dB s_.bR,ak s_.aI,ak s_.aQ.Setting,aJ s_.aQ.Rails.On,ak s_.aQ.Rails.Level,bN s_.aQ.Uses,aJ s_.aQ.Released,aJ s_.aQ.Powered,.bool s_.gN]))],1⟩) <|fun self2 g2 hm=>si hm (fun _ hm=>s2 hm fun _ _ hm=>sb hm fun v7 hv7 hm=>cl (gI hv7)<|si hm (fun _ hm=>by cases hm;exact re) fun _ hm=>sn hm fun _ hm=>le hm) fun _ hm=>by cases hm;exact re
theorem I8 {x_:bJ} {a1_:(List aC)} {r:Bool} (hm:mZ x_ a1_ r):S 181 [vLimit x_,.ro [aS a1_]] [] (.bool r) [] :=sp Tryz.func181 rfl<|sn hm fun _ hm=>sb hm fun v1 hv1 hm=>cl (fK hv1)<|sb hm fun v2 hv2 hm=>cl (fun q0=>(fK (hv2 q0)))<|sb hm fun v3 hv3 hm=>cl (fun q0=>(fK (hv3 q0)))<|by cases hm;exact re
theorem tK {s_:(List bJ)} {f_:(List aC)} {r:Int} (hm:oq s_ f_ r):S 186 [dU s_,.fn 181 [.ro [aS f_]]] [] (iV r) [] :=sp Tryz.func186 rfl<|l0 hm (fun g1=>⟨[(0,dU s_),(1,.fn 181 [.ro [aS f_]]),(7,iV (s_.length:Int)),(8,iV g1)],[],0⟩) <|fun self1 g1 hm=>si hm (fun _ hm=>sn hm fun _ hm=>sb hm fun v3 hv3 hm=>cl (I8 hv3)<|si hm (fun _ hm=>by cases hm;exact re) fun _ hm=>sn hm fun _ hm=>le hm) fun _ hm=>by cases hm;exact re
theorem qF {s_:(List bJ)} {f_:(List aC)} {r:Bool} (hm:jr s_ f_ r):S 164 [dU s_,.fn 181 [.ro [aS f_]]] [] (.bool r) [] :=sp Tryz.func164 rfl<|sb hm fun v1 hv1 hm=>cl (tK hv1)<|by cases hm;exact re
theorem LB {l_:(List aC)} {m_:(List bJ)} {r:Bool} (hm:wP l_ m_ r):S 160 [aS l_,dU m_] [] (.bool r) [] :=sp Tryz.func160 rfl<|sb hm fun v1 hv1 hm=>cl (tH hv1)<|sb hm fun v2 hv2 hm=>cl (fun q0=>(qF (hv2 q0)))<|by cases hm;exact re
theorem za {l_:(List aC)} {s_:(List Int)} {r:Bool} (hm:oL l_ s_ r):S 161 [aS l_,ak s_] [] (.bool r) [] :=sp Tryz.func161 rfl<|si hm (fun _ hm=>by cases hm;exact re) fun _ hm=>l0 hm (fun g1=>⟨[(0,aS l_),(12,ak s_),(13,iV (s_.length:Int)),(14,iV g1)],[],0⟩) <|fun self1 g1 hm=>si hm (fun _ hm=>s2 hm fun _ _ hm=>sn hm fun _ hm=>sb hm fun v3 hv3 hm=>cl (fK hv3)<|si hm (fun _ hm=>by cases hm;exact re) fun _ hm=>sn hm fun _ hm=>le hm) fun _ hm=>by cases hm;exact re
theorem LC {l_:(List aC)} {s_:(List Int)} {clock_:Int} {r:Int} (hm:wQ l_ s_ clock_ r):S 182 [aS l_,ak s_,iV clock_] [] (iV r) [] :=sp Tryz.func182 rfl<|sn hm fun _ hm=>si hm (fun _ hm=>by cases hm;exact re) fun _ hm=>si hm (fun _ hm=>s2 hm fun _ _ hm=>sn hm fun _ hm=>by cases hm;exact re) fun _ hm=>sn hm fun _ hm=>by cases hm;exact re
theorem nV {a_:Int} {b_:Int} {r:Int} (hm:ng a_ b_ r):S 192 [iV a_,iV b_] [] (iV r) [] :=sp Tryz.func192 rfl<|l0 hm (fun g1=>⟨[(0,iV g1.1),(1,iV g1.2)],[],0⟩) <|fun self1 g1 hm=>si hm (fun _ hm=>sn hm fun _ hm=>le hm) fun _ hm=>by cases hm;exact re
theorem pJ {r_:bF} {r:Bool} (hm:pV r_ r):S 185 [mW r_] [] (.bool r) [] :=sp Tryz.func185 rfl<|sb hm fun v1 hv1 hm=>cl (fun q0=>(nV (hv1 q0)))<|by cases hm;exact re
theorem M5 {a00_:Int} {a01_:Int} {a1_:Int} {r:(Int×Int)} (hm:zD a00_ a01_ a1_ r):S 191 [.ro [iV a00_,iV a01_],.ro [iV a1_]] [] (.jX [iV r.1,iV r.2]) [] :=sp Tryz.func191 rfl<|sb hm fun v1 hv1 hm=>cl (nV hv1)<|s2 hm fun _ _ hm=>sn hm fun _ hm=>by cases hm;exact re
theorem JO {num_:Int} {den_:Int} {r:(bF×Int)} (hm:F8 num_ den_ r):S 195 [iV num_,iV den_] [] (.jX [mW r.1,iV r.2]) [] :=sp Tryz.func195 rfl<|si hm (fun _ hm=>by cases hm;exact re) fun _ hm=>sb hm fun v1 hv1 hm=>cl (nV hv1)<|s2 hm fun _ _ hm=>sb hm fun v2 hv2 hm=>cl (pJ hv2)<|si hm (fun _ hm=>by cases hm;exact re) fun _ hm=>by cases hm;exact re
theorem M6 {r_:bF} {k_:Int} {scale0_:Int} {scale1_:Int} {scale2_:Int} {r:(bF×Int)} (hm:zF r_ k_ scale0_ scale1_ scale2_ r):S 190 [mW r_,iV k_,.fn 191 [.ro [iV scale0_,iV scale1_],.ro [iV scale2_]]] [] (.jX [mW r.1,iV r.2]) [] :=sp Tryz.func190 rfl<|sb hm fun v1 hv1 hm=>cl (pJ hv1)<|si hm (fun _ hm=>by cases hm;exact re) fun _ hm=>si hm (fun _ hm=>by cases hm;exact re) fun _ hm=>sb hm fun v2 hv2 hm=>cl (M5 hv2)<|sb hm fun v3 hv3 hm=>cl (JO hv3)<|by cases hm;exact re
theorem Rf {r_:bF} {k_:Int} {r:(bF×Int)} (hm:Im r_ k_ r):S 183 [mW r_,iV k_] [] (.jX [mW r.1,iV r.2]) [] :=sp Tryz.func183 rfl<|sb hm fun v1 hv1 hm=>cl (M6 hv1)<|by cases hm;exact re
theorem LD {a0_:Int} {a10_:Int} {a11_:Int} {r:(Int×Int)} (hm:wR a0_ a10_ a11_ r):S 193 [.ro [iV a0_],.ro [iV a10_,iV a11_]] [] (.jX [iV r.1,iV r.2]) [] :=sp Tryz.func193 rfl<|sb hm fun v1 hv1 hm=>cl (nV hv1)<|s2 hm fun _ _ hm=>si hm (fun _ hm=>by cases hm;exact re) fun _ hm=>s2 hm fun _ _ hm=>sn hm fun _ hm=>by cases hm;exact re
theorem I9 {r_:bF} {k_:Int} {scale0_:Int} {scale1_:Int} {scale2_:Int} {r:(bF×Int)} (hm:qN r_ k_ scale0_ scale1_ scale2_ r):S 190 [mW r_,iV k_,.fn 193 [.ro [iV scale0_],.ro [iV scale1_,iV scale2_]]] [] (.jX [mW r.1,iV r.2]) [] :=sp Tryz.func190 rfl<|sb hm fun v1 hv1 hm=>cl (pJ hv1)<|si hm (fun _ hm=>by cases hm;exact re) fun _ hm=>si hm (fun _ hm=>by cases hm;exact re) fun _ hm=>sb hm fun v2 hv2 hm=>cl (LD hv2)<|sb hm fun v3 hv3 hm=>cl (JO hv3)<|by cases hm;exact re
theorem OH {r_:bF} {k_:Int} {r:(bF×Int)} (hm:CW r_ k_ r):S 184 [mW r_,iV k_] [] (.jX [mW r.1,iV r.2]) [] :=sp Tryz.func184 rfl<|sb hm fun v1 hv1 hm=>cl (I9 hv1)<|by cases hm;exact re
theorem Ch {l_:(List aC)} {s_:(List Int)} {r:(List bF)} (hm:uO l_ s_ r):S 162 [aS l_,ak s_] [] (qK r) [] :=sp Tryz.func162 rfl<|sn hm fun _ hm=>lf hm (fun g1=>⟨[(0,aS l_),(1,ak s_),(5,.dh 0 0 g1.2.length false),(13,aS l_),(14,iV (l_.length:Int)),(15,iV g1.1)],[(0,some (.row 2 g1.2.length (bE mW dA g1.2)))],1⟩) [(0,some 24)] [] <|fun self1 g1 hm=>si hm (fun _ hm=>s2 hm fun _ _ hm=>sn hm fun _ hm=>sb hm fun v7 hv7 hm=>cl (LC hv7)<|si hm (fun _ hm=>s2 hm fun _ _ hm=>le hm) fun _ hm=>sn hm fun _ hm=>si hm (fun _ hm=>s2 hm fun _ _ hm=>le hm) fun _ hm=>si hm (fun _ hm=>sn hm fun _ hm=>sb hm fun v8 hv8 hm=>cl (Rf hv8)<|s2 hm fun _ _ hm=>le hm) fun _ hm=>si hm (fun _ hm=>sn hm fun _ hm=>sb hm fun v9 hv9 hm=>cl (OH hv9)<|s2 hm fun _ _ hm=>le hm) fun _ hm=>s2 hm fun _ _ hm=>sn hm fun _ hm=>le hm) fun _ hm=>by cases hm;exact rt [0] []
theorem Ci {r_:bF} {low_:Int} {high_:Int} {r:Bool} (hm:uP r_ low_ high_ r):S 163 [mW r_,iV low_,iV high_] [] (.bool r) [] :=sp Tryz.func163 rfl<|sb hm fun v1 hv1 hm=>cl (pJ hv1)<|si hm (fun _ hm=>by cases hm;exact re) fun _ hm=>s2 hm fun _ _ hm=>by cases hm;exact re
theorem Kr {x_:bJ} {a1_:(List bF)} {r:Bool} (hm:oM x_ a1_ r):S 165 [vLimit x_,.ro [qK a1_]] [] (.bool r) [] :=sp Tryz.func165 rfl<|s2 hm fun _ _ hm=>sb hm fun v1 hv1 hm=>cl (fun q0=>(Ci (hv1 q0)))<|by cases hm;exact re
theorem qG {s_:(List bJ)} {f_:(List bF)} {r:Int} (hm:l6 s_ f_ r):S 186 [dU s_,.fn 165 [.ro [qK f_]]] [] (iV r) [] :=sp Tryz.func186 rfl<|l0 hm (fun g1=>⟨[(0,dU s_),(1,.fn 165 [.ro [qK f_]]),(7,iV (s_.length:Int)),(8,iV g1)],[],0⟩) <|fun self1 g1 hm=>si hm (fun _ hm=>sn hm fun _ hm=>sb hm fun v3 hv3 hm=>cl (Kr hv3)<|si hm (fun _ hm=>by cases hm;exact re) fun _ hm=>sn hm fun _ hm=>le hm) fun _ hm=>by cases hm;exact re
theorem oH {s_:(List bJ)} {f_:(List bF)} {r:Bool} (hm:iy s_ f_ r):S 164 [dU s_,.fn 165 [.ro [qK f_]]] [] (.bool r) [] :=sp Tryz.func164 rfl<|sb hm fun v1 hv1 hm=>cl (qG hv1)<|by cases hm;exact re
theorem M7 {l_:(List aC)} {s_:(List Int)} {m_:(List bJ)} {r:Bool} (hm:zG l_ s_ m_ r):S 130 [aS l_,ak s_,dU m_] [] (.bool r) [] :=sp Tryz.func130 rfl<|sb hm fun v1 hv1 hm=>cl (LB hv1)<|sb hm fun v2 hv2 hm=>cl (fun q0=>(za (hv2 q0)))<|si hm (fun _ hm=>by cases hm;exact re) fun _ hm=>sb hm fun v3 hv3 hm=>cl (Ch hv3)<|lf hm (fun g1=>⟨[(2,dU m_),(7,.ptr 0 0 0),(23,aS l_),(24,iV (l_.length:Int)),(25,iV g1)],[(0,some (.box [qK v3]))],1⟩) [(0,some 112)] [] <|fun self1 g1 hm=>si hm (fun _ hm=>s2 hm fun _ _ hm=>sn hm fun _ hm=>sb hm fun v6 hv6 hm=>cl (fun q0=>(Ci (hv6 q0)))<|si hm (fun _ hm=>by cases hm;exact re) fun _ hm=>sn hm fun _ hm=>le hm) fun _ hm=>sb hm fun v7 hv7 hm=>cl (oH hv7)<|by cases hm;exact re
theorem Cj {s_:dY} {r:Bool} (hm:lI s_ r):S 83 [CS s_] [] (.bool r) [] :=sp Tryz.func83 rfl<|sb hm fun v1 hv1 hm=>cl ((M7 hv1).le ⟨.refl _,.refl _,(.sl rfl (fun h=>absurd rfl h) nofun (fun _ h=>absurd h (Nat.not_lt_zero _))),trivial⟩ trivial)<|by cases hm;exact re
theorem M8 {l_:(List aC)} {s_:(List Int)} {r:((List bF)×Int)} (hm:zH l_ s_ r):S 131 [aS l_,ak s_] [] (.jX [qK r.1,iV r.2]) [] :=sp Tryz.func131 rfl<|sb hm fun v1 hv1 hm=>cl (tH hv1)<|si hm (fun _ hm=>by cases hm;exact re) fun _ hm=>sb hm fun v2 hv2 hm=>cl (za hv2)<|si hm (fun _ hm=>by cases hm;exact re) fun _ hm=>sb hm fun v3 hv3 hm=>cl (Ch hv3)<|by cases hm;exact re
theorem Ck {s_:dY} {r:Bool} (hm:lJ s_ r):S 84 [CS s_] [] (.bool r) [] :=sp Tryz.func84 rfl<|sb hm fun v1 hv1 hm=>cl (M8 hv1)<|si hm (fun _ hm=>by cases hm;exact re) fun _ hm=>l0 hm (fun g1=>⟨[(1,.ptr 0 0 0),(3,qK v1.1),(23,ak s_.aI),(24,iV (s_.aI.length:Int)),(25,iV g1)],[(0,some (.box [aS s_.aW.bD,aM s_.aW.aV,iV s_.aW.aN.bn,aO s_.aW.aN.Groups,bL s_.aW.Resets,bC s_.aW.bI,dB s_.bR,ak s_.aI,ak s_.aQ.Setting,aJ s_.aQ.Rails.On,ak s_.aQ.Rails.Level,bN s_.aQ.Uses,aJ s_.aQ.Released,aJ s_.aQ.Powered,.bool s_.gN]))],1⟩) <|fun self1 g1 hm=>si hm (fun _ hm=>s2 hm fun _ _ hm=>l0 hm (fun g4=>⟨[(1,.ptr 0 0 0),(3,qK v1.1),(23,ak s_.aI),(24,iV (s_.aI.length:Int)),(25,iV g1),(34,dU ((s_.bR.getD ((s_.aI.getD g1.toNat 0).toNat) aP).Limits)),(35,iV ((((s_.bR.getD ((s_.aI.getD g1.toNat 0).toNat) aP).Limits).length:Nat):Int)),(36,iV g4)],[(0,some (.box [aS s_.aW.bD,aM s_.aW.aV,iV s_.aW.aN.bn,aO s_.aW.aN.Groups,bL s_.aW.Resets,bC s_.aW.bI,dB s_.bR,ak s_.aI,ak s_.aQ.Setting,aJ s_.aQ.Rails.On,ak s_.aQ.Rails.Level,bN s_.aQ.Uses,aJ s_.aQ.Released,aJ s_.aQ.Powered,.bool s_.gN]))],1⟩) <|fun self4 g4 hm=>si hm (fun _ hm=>s2 hm fun _ _ hm=>s2 hm fun _ _ hm=>si hm (fun _ hm=>by cases hm;exact re) fun _ hm=>sn hm fun _ hm=>le hm) fun _ hm=>sn hm fun _ hm=>le hm) fun _ hm=>by cases hm;exact re
theorem LG {l_:(List au)} {r_:bf} {r:Bool} (hm:wS l_ r_ r):S 166 [aM l_,vH r_] [] (.bool r) [] :=sp Tryz.func166 rfl<|sb hm fun v1 hv1 hm=>cl (rH hv1)<|si hm (fun _ hm=>by cases hm;exact re) fun _ hm=>l0 hm (fun g1=>⟨[(0,aM l_),(27,ak r_.Level),(28,iV (r_.Level.length:Int)),(29,iV g1)],[],0⟩) <|fun self1 g1 hm=>si hm (fun _ hm=>s2 hm fun _ _ hm=>sn hm fun _ hm=>sb hm fun v4 hv4 hm=>cl (eY hv4)<|si hm (fun _ hm=>by cases hm;exact re) fun _ hm=>sn hm fun _ hm=>le hm) fun _ hm=>by cases hm;exact re
theorem Ja {x_:bB} {a1_:(List au)} {r:Bool} (hm:ni x_ a1_ r):S 187 [uJ x_,.ro [aM a1_]] [] (.bool r) [] :=sp Tryz.func187 rfl<|sn hm fun _ hm=>sb hm fun v1 hv1 hm=>cl (eY hv1)<|sb hm fun v2 hv2 hm=>cl (fun q0=>(eY (hv2 q0)))<|sb hm fun v3 hv3 hm=>cl (fun q0=>(eY (hv3 q0)))<|sb hm fun v4 hv4 hm=>cl (fun q0=>(eY (hv4 q0)))<|by cases hm;exact re
theorem vC {s_:(List bB)} {f_:(List au)} {r:Int} (hm:oN s_ f_ r):S 189 [dW s_,.fn 187 [.ro [aM f_]]] [] (iV r) [] :=sp Tryz.func189 rfl<|l0 hm (fun g1=>⟨[(0,dW s_),(1,.fn 187 [.ro [aM f_]]),(7,iV (s_.length:Int)),(8,iV g1)],[],0⟩) <|fun self1 g1 hm=>si hm (fun _ hm=>sn hm fun _ hm=>sb hm fun v3 hv3 hm=>cl (Ja hv3)<|si hm (fun _ hm=>by cases hm;exact re) fun _ hm=>sn hm fun _ hm=>le hm) fun _ hm=>by cases hm;exact re
theorem rJ {s_:(List bB)} {f_:(List au)} {r:Bool} (hm:jA s_ f_ r):S 170 [dW s_,.fn 187 [.ro [aM f_]]] [] (.bool r) [] :=sp Tryz.func170 rfl<|sb hm fun v1 hv1 hm=>cl (vC hv1)<|by cases hm;exact re
theorem LH {l_:(List au)} {d_:(List bB)} {r:Bool} (hm:wU l_ d_ r):S 167 [aM l_,dW d_] [] (.bool r) [] :=sp Tryz.func167 rfl<|sb hm fun v1 hv1 hm=>cl (rH hv1)<|sb hm fun v2 hv2 hm=>cl (fun q0=>(rJ (hv2 q0)))<|by cases hm;exact re
end Go.Proofs.YtfblhejmclcdmaaGreatDoor


namespace Go.Proofs.YtfblhejmclcdmaaGreatDoor
open Go.Ab
set_option maxRecDepth 100000
set_option maxHeartbeats 20000000
theorem lC {s_:(List au)} {r:(List au)} (hm:gG s_ r):S 188 [aM s_] [] (.fn 194 [.ro [aM r]]) [] :=by
 have hm:r=s_:=hm
 subst hm
 exact Sg r
theorem M9 {l_:(List au)} {d_:(List bB)} {r:(List Bool)} (hm:zI l_ d_ r):S 168 [aM l_,dW d_] [] (aJ r) [] :=Sj [11] Tryz.func168 rfl<|sn hm fun _ hm=>Lx [11] hm (fun g1=>⟨[(0,aM l_),(5,.ptr 0 0 0),(13,dW d_),(14,iV (d_.length:Int)),(15,iV g1.1)],[(0,some (.box [.dh 1 0 g1.2.length false])),(1,some (.row 1 g1.2.length (bE AV.bool false g1.2)))],2⟩) [(0,some 32),(1,some 24)] [] <|fun self1 g1 hm=>si hm (fun _ hm=>s2 hm fun _ _ hm=>sn hm fun _ hm=>le hm) fun _ hm=>sb hm fun v1 hv1 hm=>cl (lC hv1)<|by
 have h11:=hm.1
 have hm:=hm.2
 refine SV (ct:=[11]) (ct':=[11]) iw dk dk dk dk (Tk v1 h11) rfl (by intro v hv; simp at hv; exact ⟨_,hv⟩) hm (fun g2=>⟨[(5,.ptr 0 0 0),(25,.fn 194 [.ro [aM v1]])],[(0,some (.box [.dh 1 0 g2.length false])),(1,some (.row 1 g2.length (bE AV.bool false g2)))],2⟩) (fun k2 g2=>⟨[(5,.ptr 0 0 0),(8,iV ((v1.length - 1 - k2:Nat):Int)),(9,.ptr 2 0 0)],[(0,some (.box [.dh 1 0 g2.length false])),(1,some (.row 1 g2.length (bE AV.bool false g2))),(2,some (.box [iV ((v1.getD (v1.length - 1 - k2) aj).Parent),ak ((v1.getD (v1.length - 1 - k2) aj).bK),iV ((v1.getD (v1.length - 1 - k2) aj).eU),iV ((v1.getD (v1.length - 1 - k2) aj).fG),.bool ((v1.getD (v1.length - 1 - k2) aj).Always)]))],3⟩) (fun _ _=>r2) [] ⟨rfl,⟨r4,⟨rfl,Mh.refl _,trivial⟩,trivial⟩,⟨⟨⟨rfl,rfl,rfl,rfl,nofun⟩,trivial⟩,⟨rfl,rfl,(fun _ _=>.refl _)⟩,trivial⟩⟩ ?_ ?_ ?_
 ·intro k2 ll g2 hk
  refine ⟨Nat.le_of_ble_eq_true rfl,?_⟩
  (conv=>whnf)
  exact ⟨[(2,some 10)],⟨rfl,⟨r4,r2,r4,trivial⟩,⟨⟨⟨rfl,rfl,rfl,rfl,nofun⟩,trivial⟩,⟨rfl,rfl,(fun _ _=>.refl _)⟩,⟨r2,sr,r2,r2,rfl,trivial⟩,trivial⟩⟩⟩
 ·intro k2 ll self2 g2 hk hm
  (conv=>whnf)
  refine Qk (ct:=[11]) iw dk dk (vL v1 self2 k2) r (fun g5=>⟨[(5,.ptr 0 0 0),(8,iV ((v1.length - 1 - k2:Nat):Int)),(9,.ptr 2 0 0)],[(0,some (.box [.dh 1 0 g5.length false])),(1,some (.row 1 g5.length (bE AV.bool false g5))),(2,some (.box [iV ((v1.getD (v1.length - 1 - k2) aj).Parent),ak ((v1.getD (v1.length - 1 - k2) aj).bK),iV ((v1.getD (v1.length - 1 - k2) aj).eU),iV ((v1.getD (v1.length - 1 - k2) aj).fG),.bool ((v1.getD (v1.length - 1 - k2) aj).Always)]))],3⟩) ?_ (fun g5 hm=>?_)
  ·(conv=>whnf)
   refine aT hm fun h28 hm=>?_
   (conv=>whnf)
   refine aT hm fun h29 hm=>?_
   (conv=>whnf)
   exact ⟨(g2.set (((v1.length - 1 - k2:Nat):Int).toNat) ((g2.getD (((v1.length - 1 - k2:Nat):Int).toNat) false)||(v1.getD (v1.length - 1 - k2) aj).Always)),[],[],hm,⟨rfl,⟨r4,r2,r4,trivial⟩,⟨⟨⟨rfl,rfl,rfl,oz,nofun⟩,trivial⟩,⟨rfl,oz,(iO (fun _ _=>.refl _) rfl (.refl _))⟩,⟨r2,sr,r2,r2,rfl,trivial⟩,trivial⟩⟩⟩
  ·(conv=>whnf)
   refine aT hm fun h26 hm=>?_
   (conv=>whnf)
   refine dK hm (fun c6 hm=>?_) (fun c6 hm=>?_)
   ·(conv=>whnf)
    refine aT hm fun h27 hm=>?_
    (conv=>whnf)
    exact ⟨(g5.set (((v1.getD (v1.length - 1 - k2) aj).Parent).toNat) true),[],hm,⟨rfl,⟨r4,⟨rfl,Mh.refl _,trivial⟩,trivial⟩,⟨⟨⟨rfl,rfl,rfl,oz,nofun⟩,trivial⟩,⟨rfl,oz,(iO (fun _ _=>.refl _) rfl (.refl _))⟩,trivial⟩⟩⟩
   ·(conv=>whnf)
    exact ⟨g5,[],hm,⟨rfl,⟨r4,⟨rfl,Mh.refl _,trivial⟩,trivial⟩,⟨⟨⟨rfl,rfl,rfl,rfl,nofun⟩,trivial⟩,⟨rfl,rfl,(fun _ _=>.refl _)⟩,trivial⟩⟩⟩
 ·intro g2 hm
  (conv=>whnf)
  have hm:r=g2:=hm
  subst hm
  refine ⟨[1],[],?_⟩
  (conv=>whnf)
  exact ⟨⟨rfl,trivial,trivial⟩,sf⟩
theorem LJ {l_:(List au)} {d_:(List bB)} {r:(List Int)} (hm:wV l_ d_ r):S 169 [aM l_,dW d_] [] (ak r) [] :=sp Tryz.func169 rfl<|sn hm fun _ hm=>lf hm (fun g1=>⟨[(0,aM l_),(5,.ptr 0 0 0),(13,dW d_),(14,iV (d_.length:Int)),(15,iV g1.1)],[(0,some (.box [.dh 1 0 g1.2.length false])),(1,some (.row 1 g1.2.length (bE iV 0 g1.2)))],2⟩) [(0,some 32),(1,some 24)] [] <|fun self1 g1 hm=>si hm (fun _ hm=>s2 hm fun _ _ hm=>s2 hm fun _ _ hm=>sn hm fun _ hm=>le hm) fun _ hm=>sb hm fun v1 hv1 hm=>cl (lC hv1)<|by
 have h17:=hm.1
 have hm:=hm.2
 refine SV (ct:=[]) (ct':=[]) iw dk dk dk dk (Tk v1 h17) rfl (by intro v hv; simp at hv; exact ⟨_,hv⟩) hm (fun g2=>⟨[(5,.ptr 0 0 0),(30,.fn 194 [.ro [aM v1]])],[(0,some (.box [.dh 1 0 g2.length false])),(1,some (.row 1 g2.length (bE iV 0 g2)))],2⟩) (fun k2 g2=>⟨[(5,.ptr 0 0 0),(8,iV ((v1.length - 1 - k2:Nat):Int)),(9,.ptr 2 0 0)],[(0,some (.box [.dh 1 0 g2.length false])),(1,some (.row 1 g2.length (bE iV 0 g2))),(2,some (.box [iV ((v1.getD (v1.length - 1 - k2) aj).Parent),ak ((v1.getD (v1.length - 1 - k2) aj).bK),iV ((v1.getD (v1.length - 1 - k2) aj).eU),iV ((v1.getD (v1.length - 1 - k2) aj).fG),.bool ((v1.getD (v1.length - 1 - k2) aj).Always)]))],3⟩) (fun _ _=>r2) [] ⟨rfl,⟨r4,⟨rfl,Mh.refl _,trivial⟩,trivial⟩,⟨⟨⟨rfl,rfl,rfl,rfl,nofun⟩,trivial⟩,⟨rfl,rfl,(fun _ _=>.refl _)⟩,trivial⟩⟩ ?_ ?_ ?_
 ·intro k2 ll g2 hk
  refine ⟨Nat.le_of_ble_eq_true rfl,?_⟩
  (conv=>whnf)
  exact ⟨[(2,some 10)],⟨rfl,⟨r4,r2,r4,trivial⟩,⟨⟨⟨rfl,rfl,rfl,rfl,nofun⟩,trivial⟩,⟨rfl,rfl,(fun _ _=>.refl _)⟩,⟨r2,sr,r2,r2,rfl,trivial⟩,trivial⟩⟩⟩
 ·intro k2 ll self2 g2 hk hm
  (conv=>whnf)
  refine dK hm (fun c6 hm=>?_) (fun c6 hm=>?_)
  ·(conv=>whnf)
   refine aT hm fun h26 hm=>?_
   (conv=>whnf)
   refine aT hm fun h27 hm=>?_
   (conv=>whnf)
   refine aT hm fun h28 hm=>?_
   (conv=>whnf)
   refine aT hm fun h29 hm=>?_
   (conv=>whnf)
   exact ⟨(g2.set (((v1.getD (v1.length - 1 - k2) aj).Parent).toNat) ((g2.getD (((v1.getD (v1.length - 1 - k2) aj).Parent).toNat) 0)+(g2.getD (((v1.length - 1 - k2:Nat):Int).toNat) 0))),[],hm,⟨rfl,⟨r4,⟨rfl,Mh.refl _,trivial⟩,trivial⟩,⟨⟨⟨rfl,rfl,rfl,oz,nofun⟩,trivial⟩,⟨rfl,oz,(iO (fun _ _=>.refl _) rfl (.refl _))⟩,trivial⟩⟩⟩
  ·(conv=>whnf)
   exact ⟨g2,[],hm,⟨rfl,⟨r4,⟨rfl,Mh.refl _,trivial⟩,trivial⟩,⟨⟨⟨rfl,rfl,rfl,rfl,nofun⟩,trivial⟩,⟨rfl,rfl,(fun _ _=>.refl _)⟩,trivial⟩⟩⟩
 ·intro g2 hm
  (conv=>whnf)
  have hm:r=g2:=hm
  subst hm
  refine ⟨[1],[],?_⟩
  (conv=>whnf)
  exact ⟨⟨rfl,trivial,trivial⟩,sf⟩
theorem Jb {x_:bB} {a1_:(List au)} {a20_:(List Bool)} {a21_:(List Int)} {r:Bool} (hm:nk x_ a1_ a20_ a21_ r):S 171 [uJ x_,.ro [aM a1_],.ro [aJ a20_,ak a21_]] [] (.bool r) [] :=sp Tryz.func171 rfl<|s2 hm fun _ _ hm=>sn hm fun _ hm=>sb hm fun v1 hv1 hm=>cl (eY hv1)<|by cases hm;exact re
theorem rM {s_:(List bB)} {f0_:(List au)} {f1_:(List Bool)} {f2_:(List Int)} {r:Int} (hm:mH s_ f0_ f1_ f2_ r):S 189 [dW s_,.fn 171 [.ro [aM f0_],.ro [aJ f1_,ak f2_]]] [] (iV r) [] :=sp Tryz.func189 rfl<|l0 hm (fun g1=>⟨[(0,dW s_),(1,.fn 171 [.ro [aM f0_],.ro [aJ f1_,ak f2_]]),(7,iV (s_.length:Int)),(8,iV g1)],[],0⟩) <|fun self1 g1 hm=>si hm (fun _ hm=>sn hm fun _ hm=>sb hm fun v3 hv3 hm=>cl (Jb hv3)<|si hm (fun _ hm=>by cases hm;exact re) fun _ hm=>sn hm fun _ hm=>le hm) fun _ hm=>by cases hm;exact re
theorem oZ {s_:(List bB)} {f0_:(List au)} {f1_:(List Bool)} {f2_:(List Int)} {r:Bool} (hm:iK s_ f0_ f1_ f2_ r):S 170 [dW s_,.fn 171 [.ro [aM f0_],.ro [aJ f1_,ak f2_]]] [] (.bool r) [] :=sp Tryz.func170 rfl<|sb hm fun v1 hv1 hm=>cl (rM hv1)<|by cases hm;exact re
theorem LK {l_:(List au)} {r_:bf} {d_:(List bB)} {r:Bool} (hm:wW l_ r_ d_ r):S 132 [aM l_,vH r_,dW d_] [] (.bool r) [] :=sp Tryz.func132 rfl<|sb hm fun v1 hv1 hm=>cl (LG hv1)<|sb hm fun v2 hv2 hm=>cl (fun q0=>(LH (hv2 q0)))<|si hm (fun _ hm=>by cases hm;exact re) fun _ hm=>sb hm fun v3 hv3 hm=>cl (M9 hv3)<|sb hm fun v4 hv4 hm=>cl (LJ hv4)<|lf hm (fun g1=>⟨[(2,dW d_),(3,.ptr 0 0 0),(4,.ptr 1 0 0),(7,aJ v3),(8,ak v4),(28,aM l_),(29,iV (l_.length:Int)),(30,iV g1)],[(0,some (.box [aM l_])),(1,some (.box [aJ r_.On,ak r_.Level]))],2⟩) [(1,some 8)] [] <|fun self1 g1 hm=>si hm (fun _ hm=>s2 hm fun _ _ hm=>si hm (fun _ hm=>sn hm fun _ hm=>si hm (fun _ hm=>by cases hm;exact re) fun _ hm=>sn hm fun _ hm=>le hm) fun _ hm=>s2 hm fun _ _ hm=>s2 hm fun _ _ hm=>s2 hm fun _ _ hm=>s2 hm fun _ _ hm=>si hm (fun _ hm=>by cases hm;exact re) fun _ hm=>sn hm fun _ hm=>le hm) fun _ hm=>sb hm fun v5 hv5 hm=>cl (oZ hv5)<|by cases hm;exact re
theorem zw {s_:dY} {r:Bool} (hm:j4 s_ r):S 85 [CS s_] [] (.bool r) [] :=sp Tryz.func85 rfl<|lf hm (fun g1=>⟨[(1,.ptr 0 0 0),(3,.dh 1 0 g1.2.length false),(7,ak s_.aI),(8,iV (s_.aI.length:Int)),(9,iV g1.1)],[(0,some (.box [aS s_.aW.bD,aM s_.aW.aV,iV s_.aW.aN.bn,aO s_.aW.aN.Groups,bL s_.aW.Resets,bC s_.aW.bI,dB s_.bR,ak s_.aI,ak s_.aQ.Setting,aJ s_.aQ.Rails.On,ak s_.aQ.Rails.Level,bN s_.aQ.Uses,aJ s_.aQ.Released,aJ s_.aQ.Powered,.bool s_.gN])),(1,some (.row 4 g1.2.length (bE uJ bX g1.2)))],2⟩) [(1,none)] [] <|fun self1 g1 hm=>si hm (fun _ hm=>s2 hm fun _ _ hm=>s2 hm fun _ _ hm=>lc [(1,some 90)] [] hm) fun _ hm=>sb hm fun v1 hv1 hm=>cl (Hu hv1)<|sb hm fun v2 hv2 hm=>cl (LK hv2)<|by cases hm;exact re
theorem Na {p_:bg} {l_:(List iC)} {r:((Nat→Int)×Int)} (hm:zJ p_ l_ r):S 172 [jZ p_,FQ l_] [] (.jX [acI r.1,iV r.2]) [] :=sp Tryz.func172 rfl<|lf hm (fun g1=>⟨[(1,FQ l_),(2,.ptr 0 0 0),(4,.ptr 1 0 0),(6,.ptr 2 0 0),(13,iV g1.1)],[(0,some (.box [iV p_.bn,aO p_.Groups])),(1,some (.row 1 64 (zo iV g1.2.1))),(2,some (.row 1 64 (zo iV g1.2.2)))],3⟩) [(1,some 8),(2,some 24)] [] <|fun self1 g1 hm=>si hm (fun _ hm=>s2 hm fun _ _ hm=>le hm) fun _ hm=>sb hm fun v1 hv1 hm=>cl (EI hv1)<|si hm (fun _ hm=>by cases hm;exact re) fun _ hm=>sn hm fun _ hm=>lf hm (fun g2=>⟨[(2,.ptr 0 0 0),(4,.ptr 1 0 0),(6,.ptr 2 0 0),(8,.dh 3 0 g2.2.2.length false),(27,FQ l_),(28,iV (l_.length:Int)),(29,iV g2.1)],[(0,some (.box [iV p_.bn,aO p_.Groups])),(1,some (.row 1 64 (zo iV g1.2.1))),(2,some (.row 1 64 (zo iV g2.2.1))),(3,some (.row 1 g2.2.2.length (bE AV.bool false g2.2.2)))],4⟩) [(3,some 59)] [] <|fun self2 g2 hm=>si hm (fun _ hm=>s2 hm fun _ _ hm=>si hm (fun _ hm=>by cases hm;exact re) fun _ hm=>sn hm fun _ hm=>si hm (fun _ hm=>by cases hm;exact re) fun _ hm=>s2 hm fun _ _ hm=>lf hm (fun g5=>⟨[(2,.ptr 0 0 0),(4,.ptr 1 0 0),(6,.ptr 2 0 0),(8,.dh 3 0 g5.2.2.length false),(10,.ptr 4 0 0),(27,FQ l_),(28,iV (l_.length:Int)),(29,iV g2.1),(79,ak ((p_.Groups.getD (((l_.getD g2.1.toNat dS).bW).toNat) ay).bn)),(80,iV ((((p_.Groups.getD (((l_.getD g2.1.toNat dS).bW).toNat) ay).bn).length:Nat):Int)),(81,iV g5.1)],[(0,some (.box [iV p_.bn,aO p_.Groups])),(1,some (.row 1 64 (zo iV g1.2.1))),(2,some (.row 1 64 (zo iV g5.2.1))),(3,some (.row 1 g5.2.2.length (bE AV.bool false g5.2.2))),(4,some (.box [iV ((l_.getD g2.1.toNat dS).bW),iV ((l_.getD g2.1.toNat dS).Function)]))],5⟩) [(4,some 28)] [] <|fun self5 g5 hm=>si hm (fun _ hm=>s2 hm fun _ _ hm=>si hm (fun _ hm=>by cases hm;exact re) fun _ hm=>s2 hm fun _ _ hm=>le hm) fun _ hm=>sn hm fun _ hm=>le hm) fun _ hm=>by cases hm;exact re
theorem Nb {p_:bg} {l_:(List iC)} {r:((List Int)×Int)} (hm:zK p_ l_ r):S 133 [jZ p_,FQ l_] [] (.jX [ak r.1,iV r.2]) [] :=Sj [4] Tryz.func133 rfl<|sb hm fun v1 hv1 hm=>cl (Na hv1)<|ck [4] (yA p_) r (fun g1=>⟨[(2,.ptr 0 0 0),(6,.ptr 1 0 0)],[(0,some (.box [iV p_.bn,aO p_.Groups])),(1,some (.row 1 64 (zo iV g1)))],2⟩) (si hm (fun _ hm=>by cases hm;exact re) fun _ hm=>lce [(1,some 72)] [] hm ⟨rfl,⟨r4,r4,trivial⟩,⟨⟨r2,sr,trivial⟩,⟨rfl,rfl,(SS (f:=iV) (X:=v1.1) (n:=64) (fun _=>rfl))⟩,trivial⟩⟩) fun g1 hm=>sn hm fun _ hm=>sb hm fun v2 hv2 hm=>cl ((mF hv2).le ⟨(.sl oz (fun _=>rfl) nofun (le_funG (f:=iV) (X:=g1))),trivial⟩ trivial)<|by cases hm;exact rt [26] []
theorem E8 {s_:dY} {r:Bool} (hm:nO s_ r):S 86 [CS s_] [] (.bool r) [] :=sp Tryz.func86 rfl<|lf hm (fun g1=>⟨[(1,.ptr 0 0 0),(3,.dh 1 0 g1.2.length false),(10,bN s_.aQ.Uses),(11,iV (s_.aQ.Uses.length:Int)),(12,iV g1.1)],[(0,some (.box [aS s_.aW.bD,aM s_.aW.aV,iV s_.aW.aN.bn,aO s_.aW.aN.Groups,bL s_.aW.Resets,bC s_.aW.bI,dB s_.bR,ak s_.aI,ak s_.aQ.Setting,aJ s_.aQ.Rails.On,ak s_.aQ.Rails.Level,bN s_.aQ.Uses,aJ s_.aQ.Released,aJ s_.aQ.Powered,.bool s_.gN])),(1,some (.row 2 g1.2.length (bE aa3 dS g1.2)))],2⟩) [(1,none)] [] <|fun self1 g1 hm=>si hm (fun _ hm=>s2 hm fun _ _ hm=>sn hm fun _ hm=>lc [(1,some 74)] [] hm) fun _ hm=>sb hm fun v1 hv1 hm=>cl (Nb hv1)<|by cases hm;exact re
theorem zf {s_:dY} {r:Bool} (hm:jP s_ r):S 87 [CS s_] [] (.bool r) [] :=sp Tryz.func87 rfl<|l0 hm (fun g1=>⟨[(1,.ptr 0 0 0),(11,ak s_.aI),(12,iV (s_.aI.length:Int)),(13,iV g1)],[(0,some (.box [aS s_.aW.bD,aM s_.aW.aV,iV s_.aW.aN.bn,aO s_.aW.aN.Groups,bL s_.aW.Resets,bC s_.aW.bI,dB s_.bR,ak s_.aI,ak s_.aQ.Setting,aJ s_.aQ.Rails.On,ak s_.aQ.Rails.Level,bN s_.aQ.Uses,aJ s_.aQ.Released,aJ s_.aQ.Powered,.bool s_.gN]))],1⟩) <|fun self1 g1 hm=>si hm (fun _ hm=>sn hm fun _ hm=>lf hm (fun g6=>⟨[(1,.ptr 0 0 0),(4,iV (s_.aI.getD g1.toNat 0)),(5,.mref 1),(11,ak s_.aI),(12,iV (s_.aI.length:Int)),(13,iV g1),(20,bN s_.aQ.Uses),(21,iV (s_.aQ.Uses.length:Int)),(22,iV g6.1)],[(0,some (.box [aS s_.aW.bD,aM s_.aW.aV,iV s_.aW.aN.bn,aO s_.aW.aN.Groups,bL s_.aW.Resets,bC s_.aW.bI,dB s_.bR,ak s_.aI,ak s_.aQ.Setting,aJ s_.aQ.Rails.On,ak s_.aQ.Rails.Level,bN s_.aQ.Uses,aJ s_.aQ.Released,aJ s_.aQ.Powered,.bool s_.gN])),(1,some (.map .str [(.int .i64)] g6.2))],2⟩) [(1,some 33)] [] <|fun self6 g6 hm=>si hm (fun _ hm=>sn hm fun _ hm=>si hm (fun _ hm=>s2 hm fun _ _ hm=>s2 hm fun _ _ hm=>le hm) fun _ hm=>sn hm fun _ hm=>le hm) fun _ hm=>sn hm fun _ hm=>l0 hm (fun g7=>⟨[(1,.ptr 0 0 0),(5,.mref 1),(11,ak s_.aI),(12,iV (s_.aI.length:Int)),(13,iV g1),(54,eX ((s_.bR.getD ((s_.aI.getD g1.toNat 0).toNat) aP).Functions)),(55,iV ((((s_.bR.getD ((s_.aI.getD g1.toNat 0).toNat) aP).Functions).length:Nat):Int)),(56,iV g7.1)],[(0,some (.box [aS s_.aW.bD,aM s_.aW.aV,iV s_.aW.aN.bn,aO s_.aW.aN.Groups,bL s_.aW.Resets,bC s_.aW.bI,dB s_.bR,ak s_.aI,ak s_.aQ.Setting,aJ s_.aQ.Rails.On,ak s_.aQ.Rails.Level,bN s_.aQ.Uses,aJ s_.aQ.Released,aJ s_.aQ.Powered,.bool s_.gN])),(1,some (.map .str [(.int .i64)] g7.2))],2⟩) <|fun self7 g7 hm=>si hm (fun _ hm=>s2 hm fun _ _ hm=>si hm (fun _ hm=>by cases hm;exact re) fun _ hm=>sn hm fun _ hm=>le hm) fun _ hm=>sn hm fun _ hm=>le hm) fun _ hm=>by cases hm;exact re
theorem LM {l_:(List cK)} {released_:(List Bool)} {r:Bool} (hm:wX l_ released_ r):S 173 [bL l_,aJ released_] [] (.bool r) [] :=sp Tryz.func173 rfl<|si hm (fun _ hm=>by cases hm;exact re) fun _ hm=>l0 hm (fun g1=>⟨[(1,aJ released_),(14,bL l_),(15,iV (l_.length:Int)),(16,iV g1)],[],0⟩) <|fun self1 g1 hm=>si hm (fun _ hm=>sn hm fun _ hm=>l0 hm (fun g4=>⟨[(1,aJ released_),(5,iV g1),(14,bL l_),(15,iV (l_.length:Int)),(16,iV g1),(22,ak ((l_.getD g1.toNat dReset).After)),(23,iV ((((l_.getD g1.toNat dReset).After).length:Nat):Int)),(24,iV g4)],[],0⟩) <|fun self4 g4 hm=>si hm (fun _ hm=>s2 hm fun _ _ hm=>sn hm fun _ hm=>si hm (fun _ hm=>by cases hm;exact re) fun _ hm=>sn hm fun _ hm=>le hm) fun _ hm=>sn hm fun _ hm=>le hm) fun _ hm=>by cases hm;exact re
theorem LP {l_:(List cK)} {released_:(List Bool)} {r:Bool} (hm:wY l_ released_ r):S 134 [bL l_,aJ released_] [] (.bool r) [] :=sp Tryz.func134 rfl<|sb hm fun v1 hv1 hm=>cl (Cg hv1)<|sb hm fun v2 hv2 hm=>cl (fun q0=>(LM (hv2 q0)))<|by cases hm;exact re
theorem zx {line_:Int} {a10_:(List aC)} {a11_:(List au)} {a12_:Int} {a13_:(List bG)} {a14_:(List cK)} {a15_:(List bT)} {a16_:(List aH)} {a17_:(List Int)} {a18_:(List Int)} {a19_:(List Bool)} {a110_:(List Int)} {a111_:(List aK)} {a112_:(List Bool)} {a113_:(List Bool)} {a114_:Bool} {r:Bool} (hm:iZ line_ a10_ a11_ a12_ a13_ a14_ a15_ a16_ a17_ a18_ a19_ a110_ a111_ a112_ a113_ a114_ r):S 136 [iV line_,.ro [aS a10_,aM a11_,iV a12_,aO a13_,bL a14_,bC a15_,dB a16_,ak a17_,ak a18_,aJ a19_,ak a110_,bN a111_,aJ a112_,aJ a113_,.bool a114_]] [] (.bool r) [] :=sp Tryz.func136 rfl<|sn hm fun _ hm=>by cases hm;exact re
theorem wu {s_:(List Int)} {f0_:(List aC)} {f1_:(List au)} {f2_:Int} {f3_:(List bG)} {f4_:(List cK)} {f5_:(List bT)} {f6_:(List aH)} {f7_:(List Int)} {f8_:(List Int)} {f9_:(List Bool)} {f10_:(List Int)} {f11_:(List aK)} {f12_:(List Bool)} {f13_:(List Bool)} {f14_:Bool} {r:Int} (hm:qj s_ f0_ f1_ f2_ f3_ f4_ f5_ f6_ f7_ f8_ f9_ f10_ f11_ f12_ f13_ f14_ r):S 174 [ak s_,.fn 136 [.ro [aS f0_,aM f1_,iV f2_,aO f3_,bL f4_,bC f5_,dB f6_,ak f7_,ak f8_,aJ f9_,ak f10_,bN f11_,aJ f12_,aJ f13_,.bool f14_]]] [] (iV r) [] :=sp Tryz.func174 rfl<|l0 hm (fun g1=>⟨[(0,ak s_),(1,.fn 136 [.ro [aS f0_,aM f1_,iV f2_,aO f3_,bL f4_,bC f5_,dB f6_,ak f7_,ak f8_,aJ f9_,ak f10_,bN f11_,aJ f12_,aJ f13_,.bool f14_]]),(7,iV (s_.length:Int)),(8,iV g1)],[],0⟩) <|fun self1 g1 hm=>si hm (fun _ hm=>sn hm fun _ hm=>sb hm fun v3 hv3 hm=>cl (zx hv3)<|si hm (fun _ hm=>by cases hm;exact re) fun _ hm=>sn hm fun _ hm=>le hm) fun _ hm=>by cases hm;exact re
theorem rR {s_:(List Int)} {f0_:(List aC)} {f1_:(List au)} {f2_:Int} {f3_:(List bG)} {f4_:(List cK)} {f5_:(List bT)} {f6_:(List aH)} {f7_:(List Int)} {f8_:(List Int)} {f9_:(List Bool)} {f10_:(List Int)} {f11_:(List aK)} {f12_:(List Bool)} {f13_:(List Bool)} {f14_:Bool} {r:Bool} (hm:jH s_ f0_ f1_ f2_ f3_ f4_ f5_ f6_ f7_ f8_ f9_ f10_ f11_ f12_ f13_ f14_ r):S 135 [ak s_,.fn 136 [.ro [aS f0_,aM f1_,iV f2_,aO f3_,bL f4_,bC f5_,dB f6_,ak f7_,ak f8_,aJ f9_,ak f10_,bN f11_,aJ f12_,aJ f13_,.bool f14_]]] [] (.bool r) [] :=sp Tryz.func135 rfl<|sb hm fun v1 hv1 hm=>cl (wu hv1)<|by cases hm;exact re
theorem Cm {s_:dY} {r:Bool} (hm:lK s_ r):S 88 [CS s_] [] (.bool r) [] :=sp Tryz.func88 rfl<|sb hm fun v1 hv1 hm=>cl (LP hv1)<|si hm (fun _ hm=>by cases hm;exact re) fun _ hm=>l0 hm (fun g1=>⟨[(1,.ptr 0 0 0),(14,ak s_.aI),(15,iV (s_.aI.length:Int)),(16,iV g1)],[(0,some (.box [aS s_.aW.bD,aM s_.aW.aV,iV s_.aW.aN.bn,aO s_.aW.aN.Groups,bL s_.aW.Resets,bC s_.aW.bI,dB s_.bR,ak s_.aI,ak s_.aQ.Setting,aJ s_.aQ.Rails.On,ak s_.aQ.Rails.Level,bN s_.aQ.Uses,aJ s_.aQ.Released,aJ s_.aQ.Powered,.bool s_.gN]))],1⟩) <|fun self1 g1 hm=>si hm (fun _ hm=>s2 hm fun _ _ hm=>sb hm fun v4 hv4 hm=>cl (rR hv4)<|si hm (fun _ hm=>by cases hm;exact re) fun _ hm=>sn hm fun _ hm=>le hm) fun _ hm=>by cases hm;exact re
theorem LQ {l_:(List bT)} {on_:(List Bool)} {r:Bool} (hm:wZ l_ on_ r):S 175 [bC l_,aJ on_] [] (.bool r) [] :=sp Tryz.func175 rfl<|si hm (fun _ hm=>by cases hm;exact re) fun _ hm=>l0 hm (fun g1=>⟨[(1,aJ on_),(12,bC l_),(13,iV (l_.length:Int)),(14,iV g1)],[],0⟩) <|fun self1 g1 hm=>si hm (fun _ hm=>s2 hm fun _ _ hm=>s2 hm fun _ _ hm=>si hm (fun _ hm=>by cases hm;exact re) fun _ hm=>sn hm fun _ hm=>le hm) fun _ hm=>by cases hm;exact re
theorem LU {l_:(List bT)} {on_:(List Bool)} {r:Bool} (hm:w9 l_ on_ r):S 137 [bC l_,aJ on_] [] (.bool r) [] :=sp Tryz.func137 rfl<|sb hm fun v1 hv1 hm=>cl (Ae hv1)<|sb hm fun v2 hv2 hm=>cl (fun q0=>(LQ (hv2 q0)))<|by cases hm;exact re
theorem zh {m_:Int} {a10_:(List aC)} {a11_:(List au)} {a12_:Int} {a13_:(List bG)} {a14_:(List cK)} {a15_:(List bT)} {a16_:(List aH)} {a17_:(List Int)} {a18_:(List Int)} {a19_:(List Bool)} {a110_:(List Int)} {a111_:(List aK)} {a112_:(List Bool)} {a113_:(List Bool)} {a114_:Bool} {r:Bool} (hm:iD m_ a10_ a11_ a12_ a13_ a14_ a15_ a16_ a17_ a18_ a19_ a110_ a111_ a112_ a113_ a114_ r):S 138 [iV m_,.ro [aS a10_,aM a11_,iV a12_,aO a13_,bL a14_,bC a15_,dB a16_,ak a17_,ak a18_,aJ a19_,ak a110_,bN a111_,aJ a112_,aJ a113_,.bool a114_]] [] (.bool r) [] :=sp Tryz.func138 rfl<|s2 hm fun _ _ hm=>by cases hm;exact re
end Go.Proofs.YtfblhejmclcdmaaGreatDoor

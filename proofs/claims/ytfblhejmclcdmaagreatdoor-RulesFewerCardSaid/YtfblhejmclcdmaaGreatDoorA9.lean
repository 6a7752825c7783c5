/-
  Proved: the law bringuplaw31.RulesFewer returns true at every input and leaves its arguments as they were; the card ties the package variable clock.off to the program's text. No condition beyond the card's own.
-/
import Derived.Test.YtfblhejmclcdmaaGreatDoorA8
set_option linter.unusedVariables false
set_option linter.unusedSimpArgs false


namespace Go.Proofs.YtfblhejmclcdmaaGreatDoor
open Go.Ab
set_option maxRecDepth 100000
set_option maxHeartbeats 20000000
theorem Jr {b_:bF} {l_:(List aO)} {members_:(List Int)} {g_:bX} {w_:(List nU)} {r:(bX×Int×Int×Int)} (hm:J3 b_ l_ members_ g_ w_ r):S 14 [qM b_,eF l_,aD members_,IV g_,Pw w_] [] (.jJ [IV r.1,iV r.2.1,iV r.2.2.1,iV r.2.2.2]) [] :=sp Tryz.func14 rfl<|sb hm fun v1 hv1 hm=>cl (uw hv1)<|si hm (fun _ hm=>by cases hm;exact re) fun _ hm=>sb hm fun v2 hv2 hm=>cl (sV hv2)<|si hm (fun _ hm=>by cases hm;exact re) fun _ hm=>sb hm fun v3 hv3 hm=>cl (MQ hv3)<|sb hm fun v4 hv4 hm=>cl (jY hv4)<|si hm (fun _ hm=>by cases hm;exact rt [160,161,162,163,164,165] [] (by (conv=>whnf);exact ⟨⟨rfl,trivial,trivial⟩,(by (conv=>whnf); exact ⟨(by (conv=>whnf); exact ⟨(by (conv=>whnf); exact sf),(by (conv=>whnf); exact ⟨(by (conv=>whnf); exact sf),(by (conv=>whnf); exact ⟨(by (conv=>whnf); exact sf),(by (conv=>whnf); exact ⟨(by (conv=>whnf); exact sf),(by (conv=>whnf); exact ⟨(by (conv=>whnf); exact sf),(by (conv=>whnf); exact ⟨(by (conv=>whnf); exact sf),trivial⟩)⟩)⟩)⟩)⟩)⟩),(by (conv=>whnf); exact ⟨(by first | ((conv=>whnf); exact r2) | exact r2),(by (conv=>whnf); exact ⟨(by first | ((conv=>whnf); exact r2) | exact r2),(by (conv=>whnf); exact ⟨(by first | ((conv=>whnf); exact r2) | exact r2),trivial⟩)⟩)⟩)⟩)⟩)) fun _ hm=>lf hm (fun g1=>⟨[(4,Pw w_),(10,.ptr 0 0 0),(15,.ptr 1 0 0),(45,Pw w_),(46,iV (w_.length:Int)),(47,iV g1.1)],[(0,some (.box [.sl 0 0 true dI,.sl 0 0 true dI,.sl 0 0 true dI,.sl 0 0 true dI,.sl 0 0 true dI,.sl 0 0 true dI])),(1,some (.box [aS b_.bO,aL b_.bC,iV b_.bD.bI,aX b_.bD.Groups,bQ b_.Resets,bL b_.bS,eF l_,aD members_,.cu 2 0 g1.2.2.1.length false,.cu 3 0 g1.2.2.2.1.length false,.cu 4 0 g1.2.2.2.2.1.length false,.cu 5 0 g1.2.1 false,.cu 6 0 g1.2.2.2.2.2.2.1.length false,.cu 7 0 g1.2.2.2.2.2.2.2.length false,.bool true])),(2,some (.row 1 g1.2.2.1.length (bB iV 0 g1.2.2.1))),(3,some (.row 1 g1.2.2.2.1.length (bB AV.bool false g1.2.2.2.1))),(4,some (.row 1 g1.2.2.2.2.1.length (bB iV 0 g1.2.2.2.2.1))),(5,some (.row 3 g1.2.2.2.2.2.1.length (bB iR bY g1.2.2.2.2.2.1))),(6,some (.row 1 g1.2.2.2.2.2.2.1.length (bB AV.bool false g1.2.2.2.2.2.2.1))),(7,some (.row 1 g1.2.2.2.2.2.2.2.length (bB AV.bool false g1.2.2.2.2.2.2.2)))],8⟩) [(0,some 16),(1,some 176),(2,some 160),(3,some 161),(4,some 162),(5,some 163),(6,some 164),(7,some 165)] [] <|fun self1 g1 hm=>by
 have h10:=hm.1
 have hm:=hm.2
 refine cK hm (fun c10 hm=>?_) (fun c10 hm=>?_)
 ·(conv=>whnf)
  refine aK hm fun h7 hm=>?_
  (conv=>whnf)
  refine bR hm fun v9 hv9 hm=>?_
  refine ⟨_,_,(EU hv9),?_⟩
  (conv=>whnf)
  have h8:=hm.1
  have hm:=hm.2
  refine cK hm (fun c11 hm=>?_) (fun c11 hm=>?_)
  ·(conv=>whnf)
   have hm:r=((⟨([]:List Int),(⟨([]:List Bool),([]:List Int)⟩:bE),([]:List aZ),([]:List Bool),([]:List Bool)⟩:bX),(0:Int),(0:Int),(2:Int)):=hm
   subst hm
   refine ⟨[],[],?_⟩
   (conv=>whnf)
   exact ⟨⟨rfl,trivial,trivial⟩,⟨⟨⟨rfl,(fun h=>absurd rfl h),nofun,(fun _ h=>absurd h (Nat.not_lt_zero _))⟩,⟨rfl,(fun h=>absurd rfl h),nofun,(fun _ h=>absurd h (Nat.not_lt_zero _))⟩,⟨rfl,(fun h=>absurd rfl h),nofun,(fun _ h=>absurd h (Nat.not_lt_zero _))⟩,⟨rfl,(fun h=>absurd rfl h),nofun,(fun _ h=>absurd h (Nat.not_lt_zero _))⟩,⟨rfl,(fun h=>absurd rfl h),nofun,(fun _ h=>absurd h (Nat.not_lt_zero _))⟩,⟨rfl,(fun h=>absurd rfl h),nofun,(fun _ h=>absurd h (Nat.not_lt_zero _))⟩,trivial⟩,r2,r2,r2,trivial⟩⟩
  ·(conv=>whnf)
   refine bR hm fun v10 hv10 hm=>?_
   refine ⟨_,_,((jY hv10).le ⟨(Le.BL ⟨(.refl _),(.refl _),(.refl _),(.refl _),(.refl _),(.refl _),(.refl _),(.refl _),(.refl _),(.refl _),(.refl _),(.sl oz (fun _=>rfl) nofun (le_rtake (f:=iR) (d:=bY) (by first | omega | (simp; omega)))),(.refl _),(.refl _),(.refl _),trivial⟩),trivial⟩ trivial),?_⟩
   (conv=>whnf)
   refine cK hm (fun c12 hm=>?_) (fun c12 hm=>?_)
   ·(conv=>whnf)
    have hm:r=((⟨v9.2.2.1,(⟨v9.2.2.2.1,v9.2.2.2.2.1⟩:bE),(v9.2.2.2.2.2.2.2.take (v9.2.1)),v9.2.2.2.2.2.1,v9.2.2.2.2.2.2.1⟩:bX),g1.1,v10,(0:Int)):=hm
    subst hm
    refine ⟨[2,3,4,80,6,7],[],?_⟩
    (conv=>whnf)
    exact ⟨⟨rfl,trivial,trivial⟩,(by (conv=>whnf); exact ⟨(by (conv=>whnf); exact ⟨(by (conv=>whnf); exact sf),(by (conv=>whnf); exact ⟨(by (conv=>whnf); exact sf),(by (conv=>whnf); exact ⟨(by (conv=>whnf); exact sf),(by (conv=>whnf); exact ⟨(by (conv=>whnf); exact ⟨oz,(fun _=>rfl),nofun,(le_rtake (f:=iR) (d:=bY) (by first | omega | (simp; omega)))⟩),(by (conv=>whnf); exact ⟨(by (conv=>whnf); exact sf),(by (conv=>whnf); exact ⟨(by (conv=>whnf); exact sf),trivial⟩)⟩)⟩)⟩)⟩)⟩),(by (conv=>whnf); exact ⟨(by first | ((conv=>whnf); exact r2) | exact r2),(by (conv=>whnf); exact ⟨(by first | ((conv=>whnf); exact r2) | exact r2),(by (conv=>whnf); exact ⟨(by first | ((conv=>whnf); exact r2) | exact r2),trivial⟩)⟩)⟩)⟩)⟩
   ·(conv=>whnf)
    refine aK hm fun h9 hm=>?_
    (conv=>whnf)
    exact ⟨((g1.1+(1:Int)),v9.2.1,v9.2.2.1,v9.2.2.2.1,v9.2.2.2.2.1,v9.2.2.2.2.2.2.2,v9.2.2.2.2.2.1,v9.2.2.2.2.2.2.1),[(5,some 80)],[],hm,⟨rfl,⟨sr,r4,r4,sr,r2,r2,trivial⟩,⟨⟨sr,sr,sr,sr,sr,sr,trivial⟩,⟨sr,sr,r2,sr,sr,sr,sr,sr,⟨rfl,rfl,rfl,rfl,nofun⟩,⟨rfl,rfl,rfl,rfl,nofun⟩,⟨rfl,rfl,rfl,rfl,nofun⟩,⟨rfl,rfl,rfl,rfl,nofun⟩,⟨rfl,rfl,rfl,rfl,nofun⟩,⟨rfl,rfl,rfl,rfl,nofun⟩,rfl,trivial⟩,⟨rfl,rfl,(fun _ _=>.refl _)⟩,⟨rfl,rfl,(fun _ _=>.refl _)⟩,⟨rfl,rfl,(fun _ _=>.refl _)⟩,⟨rfl,rfl,(fun _ _=>.refl _)⟩,⟨rfl,rfl,(fun _ _=>.refl _)⟩,⟨rfl,rfl,(fun _ _=>.refl _)⟩,trivial⟩⟩⟩
 ·(conv=>whnf)
  have hm:r=((⟨g1.2.2.1,(⟨g1.2.2.2.1,g1.2.2.2.2.1⟩:bE),(g1.2.2.2.2.2.1.take (g1.2.1)),g1.2.2.2.2.2.2.1,g1.2.2.2.2.2.2.2⟩:bX),(w_.length:Int),(0:Int),(0:Int)):=hm
  subst hm
  refine ⟨[2,3,4,5,6,7],[],?_⟩
  (conv=>whnf)
  exact ⟨⟨rfl,trivial,trivial⟩,(by (conv=>whnf); exact ⟨(by (conv=>whnf); exact ⟨(by (conv=>whnf); exact sf),(by (conv=>whnf); exact ⟨(by (conv=>whnf); exact sf),(by (conv=>whnf); exact ⟨(by (conv=>whnf); exact sf),(by (conv=>whnf); exact ⟨(by (conv=>whnf); exact ⟨oz,(fun _=>rfl),nofun,(le_rtake (f:=iR) (d:=bY) (by first | omega | (simp; omega)))⟩),(by (conv=>whnf); exact ⟨(by (conv=>whnf); exact sf),(by (conv=>whnf); exact ⟨(by (conv=>whnf); exact sf),trivial⟩)⟩)⟩)⟩)⟩)⟩),(by (conv=>whnf); exact ⟨(by first | ((conv=>whnf); exact r2) | exact r2),(by (conv=>whnf); exact ⟨(by first | ((conv=>whnf); exact r2) | exact r2),(by (conv=>whnf); exact ⟨(by first | ((conv=>whnf); exact r2) | exact r2),trivial⟩)⟩)⟩)⟩)⟩
theorem dh {b_:bF} {l_:(List aO)} {members_:(List Int)} {g_:bX} {between_:Bool} {r:Int} (hm:dN b_ l_ members_ g_ between_ r):S 10 [qM b_,eF l_,aD members_,IV g_,.bool between_] [] (iV r) [] :=sp Tryz.func10 rfl<|sb hm fun v1 hv1 hm=>cl (uw hv1)<|si hm (fun _ hm=>by cases hm;exact re) fun _ hm=>sb hm fun v2 hv2 hm=>cl (jY hv2)<|by cases hm;exact re
theorem nR  {r:Bool} (hm:qQ r):S 6 [] [] (.bool r) [] :=RY [3,4,5] Tryz.func6 rfl<|ck [3,4,5] Fp r (fun g1=>⟨[(1,.cu 0 0 g1.1.length false),(2,.ptr 1 0 0)],[(0,some (.row 6 g1.1.length (bB yS aY g1.1))),(1,some (.box [.sl 0 0 true dI,.sl 0 0 true dI,.sl 0 0 true dI,.cu 2 0 g1.2.2.length false,bf g1.2.1,.sl 0 0 true dI])),(2,some (.row 3 g1.2.2.length (bB iR bY g1.2.2)))],3⟩) (lc [(0,some 24),(1,some 80),(2,some 56)] [64] hm) fun g1 hm=>ck [3,4,5] (Fj g1) r (fun g2=>⟨[(1,.cu 0 0 g1.1.length false),(2,.ptr 1 0 0),(3,.ptr 2 0 0)],[(0,some (.row 6 g1.1.length (bB yS aY g1.1))),(1,some (.box [.sl 0 0 true dI,.sl 0 0 true dI,.sl 0 0 true dI,dG g2.1,bf g1.2.1,.sl 0 0 true dI])),(2,some (.box [.sl 0 0 true dI,.sl 0 0 true dI,.sl 0 0 true dI,dG g2.2,bf g1.2.1,.sl 0 0 true dI]))],3⟩) (lc [(2,some 11)] [2] hm) fun g2 hm=>ck [3,4,5] (Fh g1 g2) r (fun g3=>⟨[(1,eF g3.1),(2,.ptr 0 0 0),(3,.ptr 1 0 0)],[(0,some (.box [.sl 0 0 true dI,.sl 0 0 true dI,.sl 0 0 true dI,dG g2.1,bf g1.2.1,.sl 0 0 true dI])),(1,some (.box [.sl 0 0 true dI,.sl 0 0 true dI,.sl 0 0 true dI,dG g2.2,.cu 2 0 g3.2.length false,.sl 0 0 true dI])),(2,some (.row 1 g3.2.length (bB AV.bool false g3.2)))],3⟩) (lc [(0,some 1),(1,some 2),(2,some 3)] [0] hm) fun g3 hm=>sb hm fun v1 hv1 hm=>cl (dK hv1)<|sb hm fun v2 hv2 hm=>cl ((Jr hv2).le ⟨.refl _,.refl _,(.sl rfl (fun _=>rfl) nofun (le_litG iV 0 [(0:Int)])),(Le.BL ⟨(.sl rfl (fun h=>absurd rfl h) nofun (fun _ h=>absurd h (Nat.not_lt_zero _))),(.sl rfl (fun h=>absurd rfl h) nofun (fun _ h=>absurd h (Nat.not_lt_zero _))),(.sl rfl (fun h=>absurd rfl h) nofun (fun _ h=>absurd h (Nat.not_lt_zero _))),(.refl _),(.refl _),(.sl rfl (fun h=>absurd rfl h) nofun (fun _ h=>absurd h (Nat.not_lt_zero _))),trivial⟩),(.sl rfl (fun _=>rfl) nofun (le_litG vWrite dWrite [(⟨(11:Int),(1:Int),(1:Int)⟩:nU),(⟨(10:Int),(0:Int),(0:Int)⟩:nU)])),trivial⟩ trivial)<|sb hm fun v3 hv3 hm=>cl (dK hv3)<|sb hm fun v4 hv4 hm=>cl (zy hv4)<|si hm (fun _ hm=>sb hm fun v5 hv5 hm=>cl (dK hv5)<|sb hm fun v6 hv6 hm=>cl (fun q0=>(uw (hv6 q0)))<|si hm (fun _ hm=>sb hm fun v7 hv7 hm=>cl (dK hv7)<|si hm (fun _ hm=>sb hm fun v8 hv8 hm=>cl (fun q0=>((dh (hv8 q0)).le ⟨.refl _,.refl _,(.sl rfl (fun _=>rfl) nofun (le_litG iV 0 [(0:Int)])),(Le.BL ⟨(.sl rfl (fun h=>absurd rfl h) nofun (fun _ h=>absurd h (Nat.not_lt_zero _))),(.sl rfl (fun h=>absurd rfl h) nofun (fun _ h=>absurd h (Nat.not_lt_zero _))),(.sl rfl (fun h=>absurd rfl h) nofun (fun _ h=>absurd h (Nat.not_lt_zero _))),(.refl _),(.refl _),(.sl rfl (fun h=>absurd rfl h) nofun (fun _ h=>absurd h (Nat.not_lt_zero _))),trivial⟩),.refl _,trivial⟩ trivial))<|si hm (fun _ hm=>sb hm fun v9 hv9 hm=>cl (dK hv9)<|sb hm fun v10 hv10 hm=>cl (fun q0=>((dh (hv10 q0)).le ⟨.refl _,.refl _,(.sl rfl (fun h=>absurd rfl h) nofun (fun _ h=>absurd h (Nat.not_lt_zero _))),(Le.BL ⟨(.sl rfl (fun h=>absurd rfl h) nofun (fun _ h=>absurd h (Nat.not_lt_zero _))),(.sl rfl (fun h=>absurd rfl h) nofun (fun _ h=>absurd h (Nat.not_lt_zero _))),(.sl rfl (fun h=>absurd rfl h) nofun (fun _ h=>absurd h (Nat.not_lt_zero _))),(.refl _),(.refl _),(.sl rfl (fun h=>absurd rfl h) nofun (fun _ h=>absurd h (Nat.not_lt_zero _))),trivial⟩),.refl _,trivial⟩ trivial))<|by cases hm;exact re) fun c4 hm=>by
 refine ⟨iV 0,[],(fun q0=>absurd q0 (J2 c4)),?_⟩
 (conv=>whnf)
 have hm:r=(((((((v4==(0:Int))&&(v6==(0:Int)))&&(v8==(0:Int)))&&((0:Int)==(7:Int)))&&(v2.2.2.2==(0:Int)))&&(v2.2.1==(1:Int)))&&(v2.2.2.1==(6:Int))):=hm
 subst hm
 refine ⟨[],[],?_⟩
 (conv=>whnf)
 exact ⟨⟨rfl,trivial,trivial⟩,rfl⟩) fun c3 hm=>by
 refine ⟨iV 0,[],(fun q0=>absurd q0 (J2 c3)),?_⟩
 (conv=>whnf)
 refine cK hm (fun c5 hm=>?_) (fun c5 hm=>?_)
 ·(conv=>whnf)
  refine bR hm fun v11 hv11 hm=>?_
  refine ⟨_,_,(dK hv11),?_⟩
  (conv=>whnf)
  refine bR hm fun v12 hv12 hm=>?_
  refine ⟨_,_,(fun q0=>((dh (hv12 q0)).le ⟨.refl _,.refl _,(.sl rfl (fun h=>absurd rfl h) nofun (fun _ h=>absurd h (Nat.not_lt_zero _))),(Le.BL ⟨(.sl rfl (fun h=>absurd rfl h) nofun (fun _ h=>absurd h (Nat.not_lt_zero _))),(.sl rfl (fun h=>absurd rfl h) nofun (fun _ h=>absurd h (Nat.not_lt_zero _))),(.sl rfl (fun h=>absurd rfl h) nofun (fun _ h=>absurd h (Nat.not_lt_zero _))),(.refl _),(.refl _),(.sl rfl (fun h=>absurd rfl h) nofun (fun _ h=>absurd h (Nat.not_lt_zero _))),trivial⟩),.refl _,trivial⟩ trivial)),?_⟩
  (conv=>whnf)
  have hm:r=(((((((v4==(0:Int))&&(v6==(0:Int)))&&((0:Int)==(0:Int)))&&(v12==(7:Int)))&&(v2.2.2.2==(0:Int)))&&(v2.2.1==(1:Int)))&&(v2.2.2.1==(6:Int))):=hm
  subst hm
  refine ⟨[],[],?_⟩
  (conv=>whnf)
  exact ⟨⟨rfl,trivial,trivial⟩,rfl⟩
 ·(conv=>whnf)
  refine ⟨iV 0,[],(fun q0=>absurd q0 (J2 c5)),?_⟩
  (conv=>whnf)
  have hm:r=(((((((v4==(0:Int))&&(v6==(0:Int)))&&((0:Int)==(0:Int)))&&((0:Int)==(7:Int)))&&(v2.2.2.2==(0:Int)))&&(v2.2.1==(1:Int)))&&(v2.2.2.1==(6:Int))):=hm
  subst hm
  refine ⟨[],[],?_⟩
  (conv=>whnf)
  exact ⟨⟨rfl,trivial,trivial⟩,rfl⟩) fun c2 hm=>si hm (fun _ hm=>by
 refine ⟨iV 0,[],(fun q0=>absurd q0 (J2 c2)),?_⟩
 (conv=>whnf)
 refine cK hm (fun c7 hm=>?_) (fun c7 hm=>?_)
 ·(conv=>whnf)
  refine bR hm fun v13 hv13 hm=>?_
  refine ⟨_,_,(dK hv13),?_⟩
  (conv=>whnf)
  refine bR hm fun v14 hv14 hm=>?_
  refine ⟨_,_,(fun q0=>((dh (hv14 q0)).le ⟨.refl _,.refl _,(.sl rfl (fun h=>absurd rfl h) nofun (fun _ h=>absurd h (Nat.not_lt_zero _))),(Le.BL ⟨(.sl rfl (fun h=>absurd rfl h) nofun (fun _ h=>absurd h (Nat.not_lt_zero _))),(.sl rfl (fun h=>absurd rfl h) nofun (fun _ h=>absurd h (Nat.not_lt_zero _))),(.sl rfl (fun h=>absurd rfl h) nofun (fun _ h=>absurd h (Nat.not_lt_zero _))),(.refl _),(.refl _),(.sl rfl (fun h=>absurd rfl h) nofun (fun _ h=>absurd h (Nat.not_lt_zero _))),trivial⟩),.refl _,trivial⟩ trivial)),?_⟩
  (conv=>whnf)
  have hm:r=(((((((v4==(0:Int))&&(v6==(0:Int)))&&((0:Int)==(0:Int)))&&(v14==(7:Int)))&&(v2.2.2.2==(0:Int)))&&(v2.2.1==(1:Int)))&&(v2.2.2.1==(6:Int))):=hm
  subst hm
  refine ⟨[],[],?_⟩
  (conv=>whnf)
  exact ⟨⟨rfl,trivial,trivial⟩,rfl⟩
 ·(conv=>whnf)
  refine ⟨iV 0,[],(fun q0=>absurd q0 (J2 c7)),?_⟩
  (conv=>whnf)
  have hm:r=(((((((v4==(0:Int))&&(v6==(0:Int)))&&((0:Int)==(0:Int)))&&((0:Int)==(7:Int)))&&(v2.2.2.2==(0:Int)))&&(v2.2.1==(1:Int)))&&(v2.2.2.1==(6:Int))):=hm
  subst hm
  refine ⟨[],[],?_⟩
  (conv=>whnf)
  exact ⟨⟨rfl,trivial,trivial⟩,rfl⟩) fun _ hm=>by
 refine ⟨iV 0,[],(fun q0=>absurd q0 (J2 c2)),?_⟩
 (conv=>whnf)
 refine cK hm (fun c8 hm=>?_) (fun c8 hm=>?_)
 ·(conv=>whnf)
  refine bR hm fun v15 hv15 hm=>?_
  refine ⟨_,_,(dK hv15),?_⟩
  (conv=>whnf)
  refine bR hm fun v16 hv16 hm=>?_
  refine ⟨_,_,(fun q0=>((dh (hv16 q0)).le ⟨.refl _,.refl _,(.sl rfl (fun h=>absurd rfl h) nofun (fun _ h=>absurd h (Nat.not_lt_zero _))),(Le.BL ⟨(.sl rfl (fun h=>absurd rfl h) nofun (fun _ h=>absurd h (Nat.not_lt_zero _))),(.sl rfl (fun h=>absurd rfl h) nofun (fun _ h=>absurd h (Nat.not_lt_zero _))),(.sl rfl (fun h=>absurd rfl h) nofun (fun _ h=>absurd h (Nat.not_lt_zero _))),(.refl _),(.refl _),(.sl rfl (fun h=>absurd rfl h) nofun (fun _ h=>absurd h (Nat.not_lt_zero _))),trivial⟩),.refl _,trivial⟩ trivial)),?_⟩
  (conv=>whnf)
  have hm:r=(((((((v4==(0:Int))&&(v6==(0:Int)))&&((0:Int)==(0:Int)))&&(v16==(7:Int)))&&(v2.2.2.2==(0:Int)))&&(v2.2.1==(1:Int)))&&(v2.2.2.1==(6:Int))):=hm
  subst hm
  refine ⟨[],[],?_⟩
  (conv=>whnf)
  exact ⟨⟨rfl,trivial,trivial⟩,rfl⟩
 ·(conv=>whnf)
  refine ⟨iV 0,[],(fun q0=>absurd q0 (J2 c8)),?_⟩
  (conv=>whnf)
  have hm:r=(((((((v4==(0:Int))&&(v6==(0:Int)))&&((0:Int)==(0:Int)))&&((0:Int)==(7:Int)))&&(v2.2.2.2==(0:Int)))&&(v2.2.1==(1:Int)))&&(v2.2.2.1==(6:Int))):=hm
  subst hm
  refine ⟨[],[],?_⟩
  (conv=>whnf)
  exact ⟨⟨rfl,trivial,trivial⟩,rfl⟩) fun c1 hm=>by
 refine ⟨iV 0,[],(fun q0=>absurd q0 (J2 c1)),?_⟩
 (conv=>whnf)
 refine cK hm (fun c9 hm=>?_) (fun c9 hm=>?_)
 ·(conv=>whnf)
  refine bR hm fun v17 hv17 hm=>?_
  refine ⟨_,_,(dK hv17),?_⟩
  (conv=>whnf)
  refine cK hm (fun c10 hm=>?_) (fun c10 hm=>?_)
  ·(conv=>whnf)
   refine bR hm fun v18 hv18 hm=>?_
   refine ⟨_,_,(fun q0=>((dh (hv18 q0)).le ⟨.refl _,.refl _,(.sl rfl (fun _=>rfl) nofun (le_litG iV 0 [(0:Int)])),(Le.BL ⟨(.sl rfl (fun h=>absurd rfl h) nofun (fun _ h=>absurd h (Nat.not_lt_zero _))),(.sl rfl (fun h=>absurd rfl h) nofun (fun _ h=>absurd h (Nat.not_lt_zero _))),(.sl rfl (fun h=>absurd rfl h) nofun (fun _ h=>absurd h (Nat.not_lt_zero _))),(.refl _),(.refl _),(.sl rfl (fun h=>absurd rfl h) nofun (fun _ h=>absurd h (Nat.not_lt_zero _))),trivial⟩),.refl _,trivial⟩ trivial)),?_⟩
   (conv=>whnf)
   refine cK hm (fun c11 hm=>?_) (fun c11 hm=>?_)
   ·(conv=>whnf)
    refine bR hm fun v19 hv19 hm=>?_
    refine ⟨_,_,(dK hv19),?_⟩
    (conv=>whnf)
    refine bR hm fun v20 hv20 hm=>?_
    refine ⟨_,_,(fun q0=>((dh (hv20 q0)).le ⟨.refl _,.refl _,(.sl rfl (fun h=>absurd rfl h) nofun (fun _ h=>absurd h (Nat.not_lt_zero _))),(Le.BL ⟨(.sl rfl (fun h=>absurd rfl h) nofun (fun _ h=>absurd h (Nat.not_lt_zero _))),(.sl rfl (fun h=>absurd rfl h) nofun (fun _ h=>absurd h (Nat.not_lt_zero _))),(.sl rfl (fun h=>absurd rfl h) nofun (fun _ h=>absurd h (Nat.not_lt_zero _))),(.refl _),(.refl _),(.sl rfl (fun h=>absurd rfl h) nofun (fun _ h=>absurd h (Nat.not_lt_zero _))),trivial⟩),.refl _,trivial⟩ trivial)),?_⟩
    (conv=>whnf)
    have hm:r=(((((((v4==(0:Int))&&((0:Int)==(0:Int)))&&(v18==(0:Int)))&&(v20==(7:Int)))&&(v2.2.2.2==(0:Int)))&&(v2.2.1==(1:Int)))&&(v2.2.2.1==(6:Int))):=hm
    subst hm
    refine ⟨[],[],?_⟩
    (conv=>whnf)
    exact ⟨⟨rfl,trivial,trivial⟩,rfl⟩
   ·(conv=>whnf)
    refine ⟨iV 0,[],(fun q0=>absurd q0 (J2 c11)),?_⟩
    (conv=>whnf)
    have hm:r=(((((((v4==(0:Int))&&((0:Int)==(0:Int)))&&(v18==(0:Int)))&&((0:Int)==(7:Int)))&&(v2.2.2.2==(0:Int)))&&(v2.2.1==(1:Int)))&&(v2.2.2.1==(6:Int))):=hm
    subst hm
    refine ⟨[],[],?_⟩
    (conv=>whnf)
    exact ⟨⟨rfl,trivial,trivial⟩,rfl⟩
  ·(conv=>whnf)
   refine ⟨iV 0,[],(fun q0=>absurd q0 (J2 c10)),?_⟩
   (conv=>whnf)
   refine cK hm (fun c12 hm=>?_) (fun c12 hm=>?_)
   ·(conv=>whnf)
    refine bR hm fun v21 hv21 hm=>?_
    refine ⟨_,_,(dK hv21),?_⟩
    (conv=>whnf)
    refine bR hm fun v22 hv22 hm=>?_
    refine ⟨_,_,(fun q0=>((dh (hv22 q0)).le ⟨.refl _,.refl _,(.sl rfl (fun h=>absurd rfl h) nofun (fun _ h=>absurd h (Nat.not_lt_zero _))),(Le.BL ⟨(.sl rfl (fun h=>absurd rfl h) nofun (fun _ h=>absurd h (Nat.not_lt_zero _))),(.sl rfl (fun h=>absurd rfl h) nofun (fun _ h=>absurd h (Nat.not_lt_zero _))),(.sl rfl (fun h=>absurd rfl h) nofun (fun _ h=>absurd h (Nat.not_lt_zero _))),(.refl _),(.refl _),(.sl rfl (fun h=>absurd rfl h) nofun (fun _ h=>absurd h (Nat.not_lt_zero _))),trivial⟩),.refl _,trivial⟩ trivial)),?_⟩
    (conv=>whnf)
    have hm:r=(((((((v4==(0:Int))&&((0:Int)==(0:Int)))&&((0:Int)==(0:Int)))&&(v22==(7:Int)))&&(v2.2.2.2==(0:Int)))&&(v2.2.1==(1:Int)))&&(v2.2.2.1==(6:Int))):=hm
    subst hm
    refine ⟨[],[],?_⟩
    (conv=>whnf)
    exact ⟨⟨rfl,trivial,trivial⟩,rfl⟩
   ·(conv=>whnf)
    refine ⟨iV 0,[],(fun q0=>absurd q0 (J2 c12)),?_⟩
    (conv=>whnf)
    have hm:r=(((((((v4==(0:Int))&&((0:Int)==(0:Int)))&&((0:Int)==(0:Int)))&&((0:Int)==(7:Int)))&&(v2.2.2.2==(0:Int)))&&(v2.2.1==(1:Int)))&&(v2.2.2.1==(6:Int))):=hm
    subst hm
    refine ⟨[],[],?_⟩
    (conv=>whnf)
    exact ⟨⟨rfl,trivial,trivial⟩,rfl⟩
 ·(conv=>whnf)
  refine cK hm (fun c13 hm=>?_) (fun c13 hm=>?_)
  ·(conv=>whnf)
   refine ⟨iV 0,[],(fun q0=>absurd q0 (J2 c9)),?_⟩
   (conv=>whnf)
   refine cK hm (fun c14 hm=>?_) (fun c14 hm=>?_)
   ·(conv=>whnf)
    refine bR hm fun v23 hv23 hm=>?_
    refine ⟨_,_,(dK hv23),?_⟩
    (conv=>whnf)
    refine bR hm fun v24 hv24 hm=>?_
    refine ⟨_,_,(fun q0=>((dh (hv24 q0)).le ⟨.refl _,.refl _,(.sl rfl (fun h=>absurd rfl h) nofun (fun _ h=>absurd h (Nat.not_lt_zero _))),(Le.BL ⟨(.sl rfl (fun h=>absurd rfl h) nofun (fun _ h=>absurd h (Nat.not_lt_zero _))),(.sl rfl (fun h=>absurd rfl h) nofun (fun _ h=>absurd h (Nat.not_lt_zero _))),(.sl rfl (fun h=>absurd rfl h) nofun (fun _ h=>absurd h (Nat.not_lt_zero _))),(.refl _),(.refl _),(.sl rfl (fun h=>absurd rfl h) nofun (fun _ h=>absurd h (Nat.not_lt_zero _))),trivial⟩),.refl _,trivial⟩ trivial)),?_⟩
    (conv=>whnf)
    have hm:r=(((((((v4==(0:Int))&&((0:Int)==(0:Int)))&&((0:Int)==(0:Int)))&&(v24==(7:Int)))&&(v2.2.2.2==(0:Int)))&&(v2.2.1==(1:Int)))&&(v2.2.2.1==(6:Int))):=hm
    subst hm
    refine ⟨[],[],?_⟩
    (conv=>whnf)
    exact ⟨⟨rfl,trivial,trivial⟩,rfl⟩
   ·(conv=>whnf)
    refine ⟨iV 0,[],(fun q0=>absurd q0 (J2 c14)),?_⟩
    (conv=>whnf)
    have hm:r=(((((((v4==(0:Int))&&((0:Int)==(0:Int)))&&((0:Int)==(0:Int)))&&((0:Int)==(7:Int)))&&(v2.2.2.2==(0:Int)))&&(v2.2.1==(1:Int)))&&(v2.2.2.1==(6:Int))):=hm
    subst hm
    refine ⟨[],[],?_⟩
    (conv=>whnf)
    exact ⟨⟨rfl,trivial,trivial⟩,rfl⟩
  ·(conv=>whnf)
   refine ⟨iV 0,[],(fun q0=>absurd q0 (J2 c9)),?_⟩
   (conv=>whnf)
   refine cK hm (fun c15 hm=>?_) (fun c15 hm=>?_)
   ·(conv=>whnf)
    refine bR hm fun v25 hv25 hm=>?_
    refine ⟨_,_,(dK hv25),?_⟩
    (conv=>whnf)
    refine bR hm fun v26 hv26 hm=>?_
    refine ⟨_,_,(fun q0=>((dh (hv26 q0)).le ⟨.refl _,.refl _,(.sl rfl (fun h=>absurd rfl h) nofun (fun _ h=>absurd h (Nat.not_lt_zero _))),(Le.BL ⟨(.sl rfl (fun h=>absurd rfl h) nofun (fun _ h=>absurd h (Nat.not_lt_zero _))),(.sl rfl (fun h=>absurd rfl h) nofun (fun _ h=>absurd h (Nat.not_lt_zero _))),(.sl rfl (fun h=>absurd rfl h) nofun (fun _ h=>absurd h (Nat.not_lt_zero _))),(.refl _),(.refl _),(.sl rfl (fun h=>absurd rfl h) nofun (fun _ h=>absurd h (Nat.not_lt_zero _))),trivial⟩),.refl _,trivial⟩ trivial)),?_⟩
    (conv=>whnf)
    have hm:r=(((((((v4==(0:Int))&&((0:Int)==(0:Int)))&&((0:Int)==(0:Int)))&&(v26==(7:Int)))&&(v2.2.2.2==(0:Int)))&&(v2.2.1==(1:Int)))&&(v2.2.2.1==(6:Int))):=hm
    subst hm
    refine ⟨[],[],?_⟩
    (conv=>whnf)
    exact ⟨⟨rfl,trivial,trivial⟩,rfl⟩
   ·(conv=>whnf)
    refine ⟨iV 0,[],(fun q0=>absurd q0 (J2 c15)),?_⟩
    (conv=>whnf)
    have hm:r=(((((((v4==(0:Int))&&((0:Int)==(0:Int)))&&((0:Int)==(0:Int)))&&((0:Int)==(7:Int)))&&(v2.2.2.2==(0:Int)))&&(v2.2.1==(1:Int)))&&(v2.2.2.1==(6:Int))):=hm
    subst hm
    refine ⟨[],[],?_⟩
    (conv=>whnf)
    exact ⟨⟨rfl,trivial,trivial⟩,rfl⟩
theorem MS {l_:(List Int)} {r:((List Int)×Int)} (hm:Er l_ r):S 7 [aD l_] [] (.ptr 0 0 0) [.box [aD r.1,iV r.2]] :=sp Tryz.func7 rfl<|sn hm fun _ hm=>by cases hm;exact rt [] [(0,some 56)]
theorem MU {x_:Int} {n_:Int} {r:Int} (hm:Es x_ n_ r):S 34 [iV x_,iV n_] [] (iV r) [] :=sp Tryz.func34 rfl<|si hm (fun _ hm=>by cases hm;exact re) fun _ hm=>sn hm fun _ hm=>sn hm fun _ hm=>sn hm fun _ hm=>by cases hm;exact re
theorem aU {n_:Int} {o0_:bq} {r:(Int×bq)} (hm:bM n_ o0_ r):S 11 [.ptr 0 0 0,iV n_] [.box [aD o0_.L,iV o0_.At]] (iV r.1) [.box [aD r.2.L,iV r.2.At]] :=sp Tryz.func11 rfl<|si hm (fun _ hm=>by cases hm;exact re) fun _ hm=>sn hm fun _ hm=>sn hm fun _ hm=>sn hm fun _ hm=>sb hm fun v1 hv1 hm=>cl (MU hv1)<|by cases hm;exact re
theorem dH {l_:(List Int)} {o0_:bq} {r:(Int×bq)} (hm:dQ l_ o0_ r):S 35 [.ptr 0 0 0,aD l_] [.box [aD o0_.L,iV o0_.At]] (iV r.1) [.box [aD r.2.L,iV r.2.At]] :=sp Tryz.func35 rfl<|sb hm fun v1 hv1 hm=>cl (aU hv1)<|sn hm fun _ hm=>by cases hm;exact re
theorem BX {o0_:bq} {r:((List av)×bq)} (hm:mh o0_ r):S 63 [.ptr 0 0 0] [.box [aD o0_.L,iV o0_.At]] (aS r.1) [.box [aD r.2.L,iV r.2.At]] :=RY [20,22] Tryz.func63 rfl<|sb hm fun v1 hv1 hm=>cl (aU hv1)<|MP [20,22] hm (fun g1=>⟨[(0,.ptr 0 0 0),(3,.cu 1 0 g1.2.2.2.length false),(4,iV g1.1)],[(0,some (.box [aD g1.2.1,iV g1.2.2.1])),(1,some (.row 5 g1.2.2.2.length (bB CO ay g1.2.2.2)))],2⟩) [(1,none)] [] <|fun self1 g1 hm=>si hm (fun _ hm=>sb hm fun v28 hv28 hm=>cl ((dH hv28).le ⟨.refl _,(.sl rfl (fun _=>rfl) nofun (le_litG iV 0 [(12:Int),(24:Int),(48:Int),(100:Int)])),trivial⟩ ⟨lF _,trivial⟩)<|ck [20,22] (bN g1 self1) r (fun g7=>⟨[(0,.ptr 0 0 0),(3,.cu 1 0 g1.2.2.2.length false),(4,iV g1.1),(5,.ptr 2 0 0)],[(0,some (.box [aD g7.1,iV g7.2.1])),(1,some (.row 5 g1.2.2.2.length (bB CO ay g1.2.2.2))),(2,some (.box [iV g7.2.2.1,.cu 3 0 g7.2.2.2.2.1.length false,.cu 4 0 g7.2.2.2.2.2.length false,iV (0:Int),iV g7.2.2.2.1])),(3,some (.row 1 g7.2.2.2.2.1.length (bB iV 0 g7.2.2.2.2.1))),(4,some (.row 1 g7.2.2.2.2.2.length (bB iV 0 g7.2.2.2.2.2)))],5⟩) (si hm (fun _ hm=>sb hm fun v41 hv41 hm=>cl (aU hv41)<|si hm (fun _ hm=>sb hm fun v42 hv42 hm=>cl (aU hv42)<|ck [20,22] (dB g1 self1) r (fun g8=>⟨[(0,.ptr 0 0 0),(3,.cu 1 0 g1.2.2.2.length false),(4,iV g1.1),(5,.ptr 2 0 0),(25,iV v41.1)],[(0,some (.box [aD g8.1,iV g8.2.1])),(1,some (.row 5 g1.2.2.2.length (bB CO ay g1.2.2.2))),(2,some (.box [iV g8.2.2.1,.cu 3 0 g8.2.2.2.1.length false,.cu 4 0 g8.2.2.2.2.length false,iV (0:Int),iV (0:Int)])),(3,some (.row 1 g8.2.2.2.1.length (bB iV 0 g8.2.2.2.1))),(4,some (.row 1 g8.2.2.2.2.length (bB iV 0 g8.2.2.2.2)))],5⟩) (sb hm fun v49 hv49 hm=>cl (aU hv49)<|si hm (fun _ hm=>sb hm fun v50 hv50 hm=>cl ((dH hv50).le ⟨.refl _,(.sl rfl (fun _=>rfl) nofun (le_litG iV 0 [(3:Int),(4:Int),(8:Int)])),trivial⟩ ⟨lF _,trivial⟩)<|lc [(2,some 58),(3,some 178),(4,some 258)] [] hm) fun _ hm=>si hm (fun _ hm=>sb hm fun v51 hv51 hm=>cl ((dH hv51).le ⟨.refl _,(.sl rfl (fun _=>rfl) nofun (le_litG iV 0 [(2:Int),(3:Int)])),trivial⟩ ⟨lF _,trivial⟩)<|lc [(2,some 58),(3,some 178),(4,some 274)] [] hm) fun _ hm=>si hm (fun _ hm=>lc [(2,some 58),(3,some 178),(4,some 266)] [] hm) fun _ hm=>si hm (fun _ hm=>sn hm fun _ hm=>sb hm fun v52 hv52 hm=>cl (aU hv52)<|sn hm fun _ hm=>lc [(2,some 58),(3,some 346),(4,some 354)] [] hm) fun _ hm=>lc [(2,some 58),(3,some 178),(4,some 282)] [] hm) fun g8 hm=>sb hm fun v47 hv47 hm=>cl (aU hv47)<|si hm (fun _ hm=>sb hm fun v48 hv48 hm=>cl ((dH hv48).le ⟨.refl _,(.sl rfl (fun _=>rfl) nofun (le_litG iV 0 [(24:Int),(48:Int),(96:Int)])),trivial⟩ ⟨lF _,trivial⟩)<|le hm) fun _ hm=>le hm) fun _ hm=>lc [(2,some 58),(3,none),(4,some 42)] [] hm) fun c37 hm=>by
 refine ⟨(fun q0=>absurd q0 (J2 c37)),?_⟩
 (conv=>whnf)
 refine aK hm fun h28 hm=>?_
 (conv=>whnf)
 exact ⟨(v28.2.L,v28.2.At,(1:Int),(0:Int),([]:List Int),([v28.1]:List Int)),[(2,some 58),(3,none),(4,some 42)],[],hm,⟨rfl,⟨r4,⟨rfl,rfl,rfl,rfl,nofun⟩,r2,r4,trivial⟩,⟨⟨sf,r2,trivial⟩,⟨rfl,rfl,(fun _ _=>.refl _)⟩,⟨r2,⟨rfl,rfl,rfl,rfl,rfl,rfl⟩,⟨rfl,rfl,rfl,rfl,nofun⟩,r2,r2,trivial⟩,rfl,⟨rfl,rfl,(le_litG iV 0 [v28.1])⟩,trivial⟩⟩⟩) fun g7 hm=>sn hm fun _ hm=>sn hm fun _ hm=>lc [(1,some 29)] [] hm) fun _ hm=>by cases hm;exact rt [1] []
theorem iH {lo_:Int} {hi_:Int} {o0_:bq} {r:(Int×bq)} (hm:gL lo_ hi_ o0_ r):S 36 [.ptr 0 0 0,iV lo_,iV hi_] [.box [aD o0_.L,iV o0_.At]] (iV r.1) [.box [aD r.2.L,iV r.2.At]] :=sp Tryz.func36 rfl<|sn hm fun _ hm=>sn hm fun _ hm=>sb hm fun v1 hv1 hm=>cl (aU hv1)<|sn hm fun _ hm=>by cases hm;exact re
theorem zG {o0_:bq} {r:((List aj)×bq)} (hm:kC o0_ r):S 64 [.ptr 0 0 0] [.box [aD o0_.L,iV o0_.At]] (aL r.1) [.box [aD r.2.L,iV r.2.At]] :=RY [8] Tryz.func64 rfl<|sb hm fun v1 hv1 hm=>cl (aU hv1)<|MP [8] hm (fun g1=>⟨[(0,.ptr 0 0 0),(3,.cu 1 0 g1.2.2.2.length false),(4,iV g1.1)],[(0,some (.box [aD g1.2.1,iV g1.2.2.1])),(1,some (.row 5 g1.2.2.2.length (bB wW ah g1.2.2.2)))],2⟩) [(1,none)] [] <|fun self1 g1 hm=>si hm (fun _ hm=>sn hm fun _ hm=>sb hm fun v12 hv12 hm=>cl (iH hv12)<|sb hm fun v13 hv13 hm=>cl ((dH hv13).le ⟨.refl _,(.sl rfl (fun _=>rfl) nofun (le_litG iV 0 [(0:Int),(0:Int),(100:Int),(300:Int)])),trivial⟩ ⟨lF _,trivial⟩)<|sb hm fun v14 hv14 hm=>cl ((dH hv14).le ⟨.refl _,(.sl rfl (fun _=>rfl) nofun (le_litG iV 0 [(100:Int),(300:Int),(1000:Int)])),trivial⟩ ⟨lF _,trivial⟩)<|sb hm fun v15 hv15 hm=>cl (aU hv15)<|ck [8] (gP g1 self1 v12 v14 v15) r (fun g4=>⟨[(0,.ptr 0 0 0),(3,.cu 1 0 g1.2.2.2.length false),(4,iV g1.1),(5,.ptr 2 0 0)],[(0,some (.box [aD v15.2.L,iV v15.2.At])),(1,some (.row 5 g1.2.2.2.length (bB wW ah g1.2.2.2))),(2,some (.box [iV v12.1,.sl 0 0 true dI,iV g4,iV v14.1,.bool (v15.1==(7:Int))]))],3⟩) (si hm (fun _ hm=>lc [(2,some 138)] [] hm) fun _ hm=>lc [(2,some 138)] [] hm) fun g4 hm=>sb hm fun v16 hv16 hm=>cl (aU hv16)<|sn hm fun _ hm=>by
 rcases (by omega:v16.1=0∨v16.1=1∨v16.1=2∨v16.1=3∨v16.1=4) with e1 | e1 | e1 | e1 | e1
 ·rw [e1] at hm ⊢
  (conv=>whnf)
  refine aK hm fun h27 hm=>?_
  (conv=>whnf)
  refine aK hm fun h28 hm=>?_
  (conv=>whnf)
  exact ⟨((g1.1 - (1:Int)),v16.2.L,v16.2.At,(g1.2.2.2++([(⟨v12.1,([(1000:Int),(1200:Int)]:List Int),g4,v14.1,(v15.1==(7:Int))⟩:aj)]:List aj))),[(1,some 123)],[],hm,⟨rfl,⟨r4,⟨rfl,rfl,rfl,oz,nofun⟩,r2,trivial⟩,⟨⟨sf,r2,trivial⟩,⟨rfl,oz,(le_appG rfl (fun _ _=>.refl _) rfl (yR (Le.BL ⟨(.refl _),(.sl rfl (fun _=>rfl) nofun (le_litG iV 0 [(1000:Int),(1200:Int)])),(.refl _),(.refl _),(.refl _),trivial⟩) (fun _ h=>absurd h (Nat.not_lt_zero _))))⟩,trivial⟩⟩⟩
 ·rw [e1] at hm ⊢
  (conv=>whnf)
  refine aK hm fun h29 hm=>?_
  (conv=>whnf)
  refine aK hm fun h30 hm=>?_
  (conv=>whnf)
  exact ⟨((g1.1 - (1:Int)),v16.2.L,v16.2.At,(g1.2.2.2++([(⟨v12.1,([(1800:Int),(3300:Int)]:List Int),g4,v14.1,(v15.1==(7:Int))⟩:aj)]:List aj))),[(1,some 123)],[],hm,⟨rfl,⟨r4,⟨rfl,rfl,rfl,oz,nofun⟩,r2,trivial⟩,⟨⟨sf,r2,trivial⟩,⟨rfl,oz,(le_appG rfl (fun _ _=>.refl _) rfl (yR (Le.BL ⟨(.refl _),(.sl rfl (fun _=>rfl) nofun (le_litG iV 0 [(1800:Int),(3300:Int)])),(.refl _),(.refl _),(.refl _),trivial⟩) (fun _ h=>absurd h (Nat.not_lt_zero _))))⟩,trivial⟩⟩⟩
 ·rw [e1] at hm ⊢
  (conv=>whnf)
  refine aK hm fun h31 hm=>?_
  (conv=>whnf)
  refine aK hm fun h32 hm=>?_
  (conv=>whnf)
  exact ⟨((g1.1 - (1:Int)),v16.2.L,v16.2.At,(g1.2.2.2++([(⟨v12.1,([(1000:Int),(1800:Int),(3300:Int)]:List Int),g4,v14.1,(v15.1==(7:Int))⟩:aj)]:List aj))),[(1,some 123)],[],hm,⟨rfl,⟨r4,⟨rfl,rfl,rfl,oz,nofun⟩,r2,trivial⟩,⟨⟨sf,r2,trivial⟩,⟨rfl,oz,(le_appG rfl (fun _ _=>.refl _) rfl (yR (Le.BL ⟨(.refl _),(.sl rfl (fun _=>rfl) nofun (le_litG iV 0 [(1000:Int),(1800:Int),(3300:Int)])),(.refl _),(.refl _),(.refl _),trivial⟩) (fun _ h=>absurd h (Nat.not_lt_zero _))))⟩,trivial⟩⟩⟩
 ·rw [e1] at hm ⊢
  (conv=>whnf)
  refine aK hm fun h33 hm=>?_
  (conv=>whnf)
  refine aK hm fun h34 hm=>?_
  (conv=>whnf)
  exact ⟨((g1.1 - (1:Int)),v16.2.L,v16.2.At,(g1.2.2.2++([(⟨v12.1,([(3300:Int),(5000:Int)]:List Int),g4,v14.1,(v15.1==(7:Int))⟩:aj)]:List aj))),[(1,some 123)],[],hm,⟨rfl,⟨r4,⟨rfl,rfl,rfl,oz,nofun⟩,r2,trivial⟩,⟨⟨sf,r2,trivial⟩,⟨rfl,oz,(le_appG rfl (fun _ _=>.refl _) rfl (yR (Le.BL ⟨(.refl _),(.sl rfl (fun _=>rfl) nofun (le_litG iV 0 [(3300:Int),(5000:Int)])),(.refl _),(.refl _),(.refl _),trivial⟩) (fun _ h=>absurd h (Nat.not_lt_zero _))))⟩,trivial⟩⟩⟩
 ·rw [e1] at hm ⊢
  (conv=>whnf)
  refine aK hm fun h35 hm=>?_
  (conv=>whnf)
  refine aK hm fun h36 hm=>?_
  (conv=>whnf)
  exact ⟨((g1.1 - (1:Int)),v16.2.L,v16.2.At,(g1.2.2.2++([(⟨v12.1,([(900:Int)]:List Int),g4,v14.1,(v15.1==(7:Int))⟩:aj)]:List aj))),[(1,some 123)],[],hm,⟨rfl,⟨r4,⟨rfl,rfl,rfl,oz,nofun⟩,r2,trivial⟩,⟨⟨sf,r2,trivial⟩,⟨rfl,oz,(le_appG rfl (fun _ _=>.refl _) rfl (yR (Le.BL ⟨(.refl _),(.sl rfl (fun _=>rfl) nofun (le_litG iV 0 [(900:Int)])),(.refl _),(.refl _),(.refl _),trivial⟩) (fun _ h=>absurd h (Nat.not_lt_zero _))))⟩,trivial⟩⟩⟩) fun _ hm=>by cases hm;exact rt [1] []
theorem jZ  {r:(List ByteArray)} (hm:j4 r):S 118 [] [] (fM r) [] :=sp Tryz.func118 rfl<|by cases hm;exact rt [8] []
theorem BZ {o0_:bq} {r:(aR×bq)} (hm:mo o0_ r):S 65 [.ptr 0 0 0] [.box [aD o0_.L,iV o0_.At]] (kU r.1) [.box [aD r.2.L,iV r.2.At]] :=RY [13,17] Tryz.func65 rfl<|sb hm fun v1 hv1 hm=>cl (iH hv1)<|sb hm fun v2 hv2 hm=>cl (aU hv2)<|MP [13,17] hm (fun g1=>⟨[(0,.ptr 0 0 0),(2,.ptr 1 0 0),(3,.ptr 2 0 0),(4,iV g1.1)],[(0,some (.box [aD g1.2.1,iV g1.2.2.1])),(1,some (.box [iV (0:Int),.sl 0 0 true dI])),(2,some (.box [iV v1.1,.cu 3 0 g1.2.2.2.length false])),(3,some (.row 3 g1.2.2.2.length (bB jS au g1.2.2.2)))],4⟩) [(2,some 33),(3,none)] [] <|fun self1 g1 hm=>si hm (fun _ hm=>sn hm fun _ hm=>by
 refine ⟨(Xb (es:=[.int .u8 (IntKind.u8.wrap ((97:Int)+(g1.2.2.2.length:Int)))]) rfl),?_⟩
 (conv=>whnf)
 refine aK hm fun h74 hm=>?_
 (conv=>whnf)
 refine bR hm fun v35 hv35 hm=>?_
 refine ⟨_,_,(aU hv35),?_⟩
 (conv=>whnf)
 refine yQ (ct:=[13,17]) gV dk hm (fun g12=>⟨[(0,.ptr 0 0 0),(2,.ptr 1 0 0),(3,.ptr 2 0 0),(4,iV g1.1),(5,.ptr 3 0 0),(6,iV v35.1),(7,iV g12.1)],[(0,some (.box [aD g12.2.1,iV g12.2.2.1])),(1,some (.box [iV (0:Int),.sl 0 0 true dI])),(2,some (.box [iV v1.1,.cu 4 0 g1.2.2.2.length false])),(3,some (.box [.str (({ data:=#[103] }:ByteArray)++(strOf ([(IntKind.u8.wrap ((97:Int)+(g1.2.2.2.length:Int)))]:List Int))),.cu 5 0 g12.2.2.2.length false,.sl 0 0 true dI])),(4,some (.row 3 g1.2.2.2.length (bB jS au g1.2.2.2))),(5,some (.row 1 g12.2.2.2.length (bB iV 0 g12.2.2.2)))],6⟩) [(3,some 92),(4,some 3),(5,none)] [] ⟨rfl,⟨r4,r4,r4,r2,r4,r2,r2,trivial⟩,⟨⟨sf,r2,trivial⟩,⟨r2,sr,trivial⟩,⟨r2,⟨rfl,rfl,rfl,rfl,nofun⟩,trivial⟩,⟨rfl,⟨rfl,rfl,rfl,rfl,rfl,rfl⟩,sr,trivial⟩,⟨rfl,rfl,(fun _ _=>.refl _)⟩,rfl,trivial⟩⟩ ?_
 intro self12 g12 hm
 (conv=>whnf)
 refine cK hm (fun c36 hm=>?_) (fun c36 hm=>?_)
 ·(conv=>whnf)
  refine bR hm fun v38 hv38 hm=>?_
  refine ⟨_,_,(iH hv38),?_⟩
  (conv=>whnf)
  refine aK hm fun h83 hm=>?_
  (conv=>whnf)
  refine cK hm (fun c37 hm=>?_) (fun c37 hm=>?_)
  ·(conv=>whnf)
   refine aK hm fun h84 hm=>?_
   (conv=>whnf)
   refine aK hm fun h85 hm=>?_
   (conv=>whnf)
   exact ⟨((g12.1+(1:Int)),v38.2.L,v38.2.At,(g12.2.2.2++([g12.1]:List Int))),[(5,some 134)],[],hm,⟨rfl,⟨r4,r4,r4,r2,r4,r2,r2,trivial⟩,⟨⟨sf,r2,trivial⟩,⟨r2,sr,trivial⟩,⟨r2,⟨rfl,rfl,rfl,rfl,nofun⟩,trivial⟩,⟨rfl,⟨rfl,rfl,rfl,oz,nofun⟩,sr,trivial⟩,⟨rfl,rfl,(fun _ _=>.refl _)⟩,⟨rfl,oz,(le_appG rfl (fun _ _=>.refl _) rfl (le_litG iV 0 [g12.1]))⟩,trivial⟩⟩⟩
  ·(conv=>whnf)
   refine LW (ct:=[13,17]) gV dk dk (iD g1 self1 v38) r (fun g13=>⟨[(0,.ptr 0 0 0),(2,.ptr 1 0 0),(3,.ptr 2 0 0),(4,iV g1.1),(5,.ptr 3 0 0),(40,iV v38.1)],[(0,some (.box [aD v38.2.L,iV v38.2.At])),(1,some (.box [iV (0:Int),.sl 0 0 true dI])),(2,some (.box [iV v1.1,.cu 4 0 g1.2.2.2.length false])),(3,some (.box [.str (({ data:=#[103] }:ByteArray)++(strOf ([(IntKind.u8.wrap ((97:Int)+(g1.2.2.2.length:Int)))]:List Int))),.cu 5 0 g13.length false,.sl 0 0 true dI])),(4,some (.row 3 g1.2.2.2.length (bB jS au g1.2.2.2))),(5,some (.row 1 g13.length (bB iV 0 g13)))],6⟩) ?_ (fun g13 hm=>?_)
   ·(conv=>whnf)
    refine cK hm (fun c41 hm=>?_) (fun c41 hm=>?_)
    ·(conv=>whnf)
     exact ⟨([v35.1]:List Int),[(5,some 142)],[],hm,⟨rfl,⟨r4,r4,r4,r2,r4,r2,trivial⟩,⟨⟨sr,r2,trivial⟩,⟨r2,sr,trivial⟩,⟨r2,⟨rfl,rfl,rfl,rfl,nofun⟩,trivial⟩,⟨rfl,⟨rfl,rfl,rfl,rfl,nofun⟩,sr,trivial⟩,⟨rfl,rfl,(fun _ _=>.refl _)⟩,⟨rfl,rfl,(le_litG iV 0 [v35.1])⟩,trivial⟩⟩⟩
    ·(conv=>whnf)
     exact ⟨g12.2.2.2,[],[],hm,⟨rfl,⟨r4,r4,r4,r2,r4,r2,trivial⟩,⟨⟨sr,r2,trivial⟩,⟨r2,sr,trivial⟩,⟨r2,⟨rfl,rfl,rfl,rfl,nofun⟩,trivial⟩,⟨rfl,⟨rfl,rfl,rfl,rfl,nofun⟩,sr,trivial⟩,⟨rfl,rfl,(fun _ _=>.refl _)⟩,⟨rfl,rfl,(fun _ _=>.refl _)⟩,trivial⟩⟩⟩
   ·(conv=>whnf)
    refine bR hm fun v39 hv39 hm=>?_
    refine ⟨_,_,(aU hv39),?_⟩
    (conv=>whnf)
    refine bR hm fun v40 hv40 hm=>?_
    refine ⟨_,_,(jZ hv40),?_⟩
    (conv=>whnf)
    refine aK hm fun h86 hm=>?_
    (conv=>whnf)
    refine LW (ct:=[13,17]) gV dk dk (eZ g1 self1 g13) r (fun g14=>⟨[(0,.ptr 0 0 0),(2,.ptr 1 0 0),(3,.ptr 2 0 0),(4,iV g1.1),(5,.ptr 3 0 0),(40,iV v38.1)],[(0,some (.box [aD g14.1,iV g14.2.1])),(1,some (.box [iV (0:Int),.sl 0 0 true dI])),(2,some (.box [iV v1.1,.cu 4 0 g1.2.2.2.length false])),(3,some (.box [.str (({ data:=#[103] }:ByteArray)++(strOf ([(IntKind.u8.wrap ((97:Int)+(g1.2.2.2.length:Int)))]:List Int))),.cu 5 0 g13.length false,.cu 6 0 g14.2.2.length false])),(4,some (.row 3 g1.2.2.2.length (bB jS au g1.2.2.2))),(5,some (.row 1 g13.length (bB iV 0 g13))),(6,some (.row 1 g14.2.2.length (bB AV.str ByteArray.empty g14.2.2)))],7⟩) ?_ (fun g14 hm=>?_)
    ·(conv=>whnf)
     refine bR hm fun v43 hv43 hm=>?_
     refine ⟨_,_,(aU hv43),?_⟩
     (conv=>whnf)
     refine cK hm (fun c40 hm=>?_) (fun c40 hm=>?_)
     ·(conv=>whnf)
      refine bR hm fun v44 hv44 hm=>?_
      refine ⟨_,_,(jZ hv44),?_⟩
      (conv=>whnf)
      refine aK hm fun h93 hm=>?_
      (conv=>whnf)
      refine aK hm fun h94 hm=>?_
      (conv=>whnf)
      refine aK hm fun h95 hm=>?_
      (conv=>whnf)
      refine aK hm fun h96 hm=>?_
      (conv=>whnf)
      exact ⟨(v43.2.L,v43.2.At,(([(v40.getD v39.1.toNat ByteArray.empty)]:List ByteArray)++([(v44.getD (((v39.1+(1:Int)).tmod (4:Int)).toNat) ByteArray.empty)]:List ByteArray))),[(6,some 182)],[],hm,⟨rfl,⟨r4,r4,r4,r2,r4,r2,trivial⟩,⟨⟨sf,r2,trivial⟩,⟨r2,sr,trivial⟩,⟨r2,⟨rfl,rfl,rfl,rfl,nofun⟩,trivial⟩,⟨rfl,⟨rfl,rfl,rfl,rfl,nofun⟩,⟨rfl,rfl,rfl,oz,nofun⟩,trivial⟩,⟨rfl,rfl,(fun _ _=>.refl _)⟩,⟨rfl,rfl,(fun _ _=>.refl _)⟩,⟨rfl,oz,(le_appG rfl (le_litG AV.str ByteArray.empty [(v40.getD v39.1.toNat ByteArray.empty)]) rfl (le_litG AV.str ByteArray.empty [(v44.getD (((v39.1+(1:Int)).tmod (4:Int)).toNat) ByteArray.empty)]))⟩,trivial⟩⟩⟩
     ·(conv=>whnf)
      exact ⟨(v43.2.L,v43.2.At,([(v40.getD v39.1.toNat ByteArray.empty)]:List ByteArray)),[(6,some 62)],[],hm,⟨rfl,⟨r4,r4,r4,r2,r4,r2,trivial⟩,⟨⟨sf,r2,trivial⟩,⟨r2,sr,trivial⟩,⟨r2,⟨rfl,rfl,rfl,rfl,nofun⟩,trivial⟩,⟨rfl,⟨rfl,rfl,rfl,rfl,nofun⟩,⟨rfl,rfl,rfl,rfl,nofun⟩,trivial⟩,⟨rfl,rfl,(fun _ _=>.refl _)⟩,⟨rfl,rfl,(fun _ _=>.refl _)⟩,⟨rfl,rfl,(le_litG AV.str ByteArray.empty [(v40.getD v39.1.toNat ByteArray.empty)])⟩,trivial⟩⟩⟩
    ·(conv=>whnf)
     refine aK hm fun h91 hm=>?_
     (conv=>whnf)
     refine aK hm fun h92 hm=>?_
     (conv=>whnf)
     exact ⟨((g1.1 - (1:Int)),g14.1,g14.2.1,(g1.2.2.2++([(⟨(({ data:=#[103] }:ByteArray)++(strOf ([(IntKind.u8.wrap ((97:Int)+(g1.2.2.2.length:Int)))]:List Int))),g13,g14.2.2⟩:aV)]:List aV))),[(3,some 39)],[],hm,⟨rfl,⟨r4,r4,r4,r2,trivial⟩,⟨⟨sf,r2,trivial⟩,⟨r2,sr,trivial⟩,⟨r2,⟨rfl,rfl,rfl,oz,nofun⟩,trivial⟩,⟨rfl,oz,(le_appG rfl (fun _ _=>.refl _) rfl (le_litG jS au [(⟨(({ data:=#[103] }:ByteArray)++(strOf ([(IntKind.u8.wrap ((97:Int)+(g1.2.2.2.length:Int)))]:List Int))),g13,g14.2.2⟩:aV)]))⟩,trivial⟩⟩⟩
 ·(conv=>whnf)
  refine ⟨(fun q0=>absurd q0 (J2 c36)),?_⟩
  (conv=>whnf)
  refine ⟨(fun q0=>absurd q0 (J2 c36)),?_⟩
  (conv=>whnf)
  refine aK hm fun h97 hm=>?_
  (conv=>whnf)
  refine LW (ct:=[13,17]) gV dk dk (gD g1 self1 g12) r (fun g15=>⟨[(0,.ptr 0 0 0),(2,.ptr 1 0 0),(3,.ptr 2 0 0),(4,iV g1.1),(5,.ptr 3 0 0)],[(0,some (.box [aD g12.2.1,iV g12.2.2.1])),(1,some (.box [iV (0:Int),.sl 0 0 true dI])),(2,some (.box [iV v1.1,.cu 4 0 g1.2.2.2.length false])),(3,some (.box [.str (({ data:=#[103] }:ByteArray)++(strOf ([(IntKind.u8.wrap ((97:Int)+(g1.2.2.2.length:Int)))]:List Int))),.cu 5 0 g15.length false,.sl 0 0 true dI])),(4,some (.row 3 g1.2.2.2.length (bB jS au g1.2.2.2))),(5,some (.row 1 g15.length (bB iV 0 g15)))],6⟩) ?_ (fun g15 hm=>?_)
  ·(conv=>whnf)
   refine cK hm (fun c45 hm=>?_) (fun c45 hm=>?_)
   ·(conv=>whnf)
    exact ⟨([v35.1]:List Int),[(5,some 142)],[],hm,⟨rfl,⟨r4,r4,r4,r2,r4,trivial⟩,⟨⟨sr,r2,trivial⟩,⟨r2,sr,trivial⟩,⟨r2,⟨rfl,rfl,rfl,rfl,nofun⟩,trivial⟩,⟨rfl,⟨rfl,rfl,rfl,rfl,nofun⟩,sr,trivial⟩,⟨rfl,rfl,(fun _ _=>.refl _)⟩,⟨rfl,rfl,(le_litG iV 0 [v35.1])⟩,trivial⟩⟩⟩
   ·(conv=>whnf)
    exact ⟨g12.2.2.2,[],[],hm,⟨rfl,⟨r4,r4,r4,r2,r4,trivial⟩,⟨⟨sr,r2,trivial⟩,⟨r2,sr,trivial⟩,⟨r2,⟨rfl,rfl,rfl,rfl,nofun⟩,trivial⟩,⟨rfl,⟨rfl,rfl,rfl,rfl,nofun⟩,sr,trivial⟩,⟨rfl,rfl,(fun _ _=>.refl _)⟩,⟨rfl,rfl,(fun _ _=>.refl _)⟩,trivial⟩⟩⟩
  ·(conv=>whnf)
   refine bR hm fun v45 hv45 hm=>?_
   refine ⟨_,_,(aU hv45),?_⟩
   (conv=>whnf)
   refine bR hm fun v46 hv46 hm=>?_
   refine ⟨_,_,(jZ hv46),?_⟩
   (conv=>whnf)
   refine aK hm fun h98 hm=>?_
   (conv=>whnf)
   refine LW (ct:=[13,17]) gV dk dk (eD g1 self1 g15) r (fun g16=>⟨[(0,.ptr 0 0 0),(2,.ptr 1 0 0),(3,.ptr 2 0 0),(4,iV g1.1),(5,.ptr 3 0 0)],[(0,some (.box [aD g16.1,iV g16.2.1])),(1,some (.box [iV (0:Int),.sl 0 0 true dI])),(2,some (.box [iV v1.1,.cu 4 0 g1.2.2.2.length false])),(3,some (.box [.str (({ data:=#[103] }:ByteArray)++(strOf ([(IntKind.u8.wrap ((97:Int)+(g1.2.2.2.length:Int)))]:List Int))),.cu 5 0 g15.length false,.cu 6 0 g16.2.2.length false])),(4,some (.row 3 g1.2.2.2.length (bB jS au g1.2.2.2))),(5,some (.row 1 g15.length (bB iV 0 g15))),(6,some (.row 1 g16.2.2.length (bB AV.str ByteArray.empty g16.2.2)))],7⟩) ?_ (fun g16 hm=>?_)
   ·(conv=>whnf)
    refine bR hm fun v49 hv49 hm=>?_
    refine ⟨_,_,(aU hv49),?_⟩
    (conv=>whnf)
    refine cK hm (fun c44 hm=>?_) (fun c44 hm=>?_)
    ·(conv=>whnf)
     refine bR hm fun v50 hv50 hm=>?_
     refine ⟨_,_,(jZ hv50),?_⟩
     (conv=>whnf)
     refine aK hm fun h105 hm=>?_
     (conv=>whnf)
     refine aK hm fun h106 hm=>?_
     (conv=>whnf)
     refine aK hm fun h107 hm=>?_
     (conv=>whnf)
     refine aK hm fun h108 hm=>?_
     (conv=>whnf)
     exact ⟨(v49.2.L,v49.2.At,(([(v46.getD v45.1.toNat ByteArray.empty)]:List ByteArray)++([(v50.getD (((v45.1+(1:Int)).tmod (4:Int)).toNat) ByteArray.empty)]:List ByteArray))),[(6,some 182)],[],hm,⟨rfl,⟨r4,r4,r4,r2,r4,trivial⟩,⟨⟨sf,r2,trivial⟩,⟨r2,sr,trivial⟩,⟨r2,⟨rfl,rfl,rfl,rfl,nofun⟩,trivial⟩,⟨rfl,⟨rfl,rfl,rfl,rfl,nofun⟩,⟨rfl,rfl,rfl,oz,nofun⟩,trivial⟩,⟨rfl,rfl,(fun _ _=>.refl _)⟩,⟨rfl,rfl,(fun _ _=>.refl _)⟩,⟨rfl,oz,(le_appG rfl (le_litG AV.str ByteArray.empty [(v46.getD v45.1.toNat ByteArray.empty)]) rfl (le_litG AV.str ByteArray.empty [(v50.getD (((v45.1+(1:Int)).tmod (4:Int)).toNat) ByteArray.empty)]))⟩,trivial⟩⟩⟩
    ·(conv=>whnf)
     exact ⟨(v49.2.L,v49.2.At,([(v46.getD v45.1.toNat ByteArray.empty)]:List ByteArray)),[(6,some 62)],[],hm,⟨rfl,⟨r4,r4,r4,r2,r4,trivial⟩,⟨⟨sf,r2,trivial⟩,⟨r2,sr,trivial⟩,⟨r2,⟨rfl,rfl,rfl,rfl,nofun⟩,trivial⟩,⟨rfl,⟨rfl,rfl,rfl,rfl,nofun⟩,⟨rfl,rfl,rfl,rfl,nofun⟩,trivial⟩,⟨rfl,rfl,(fun _ _=>.refl _)⟩,⟨rfl,rfl,(fun _ _=>.refl _)⟩,⟨rfl,rfl,(le_litG AV.str ByteArray.empty [(v46.getD v45.1.toNat ByteArray.empty)])⟩,trivial⟩⟩⟩
   ·(conv=>whnf)
    refine aK hm fun h103 hm=>?_
    (conv=>whnf)
    refine aK hm fun h104 hm=>?_
    (conv=>whnf)
    exact ⟨((g1.1 - (1:Int)),g16.1,g16.2.1,(g1.2.2.2++([(⟨(({ data:=#[103] }:ByteArray)++(strOf ([(IntKind.u8.wrap ((97:Int)+(g1.2.2.2.length:Int)))]:List Int))),g15,g16.2.2⟩:aV)]:List aV))),[(3,some 39)],[],hm,⟨rfl,⟨r4,r4,r4,r2,trivial⟩,⟨⟨sf,r2,trivial⟩,⟨r2,sr,trivial⟩,⟨r2,⟨rfl,rfl,rfl,oz,nofun⟩,trivial⟩,⟨rfl,oz,(le_appG rfl (fun _ _=>.refl _) rfl (le_litG jS au [(⟨(({ data:=#[103] }:ByteArray)++(strOf ([(IntKind.u8.wrap ((97:Int)+(g1.2.2.2.length:Int)))]:List Int))),g15,g16.2.2⟩:aV)]))⟩,trivial⟩⟩⟩) fun _ hm=>by cases hm;exact rt [3] []
end Go.Proofs.YtfblhejmclcdmaaGreatDoor


namespace Go.Proofs.YtfblhejmclcdmaaGreatDoor
open Go.Ab
set_option maxRecDepth 100000
set_option maxHeartbeats 20000000
theorem mZ {n_:Int} {k_:Int} {o0_:bq} {r:((List Int)×bq)} (hm:iE n_ k_ o0_ r):S 71 [.ptr 0 0 0,iV n_,iV k_] [.box [aD o0_.L,iV o0_.At]] (aD r.1) [.box [aD r.2.L,iV r.2.At]] :=sp Tryz.func71 rfl<|lf hm (fun g1=>⟨[(0,.ptr 0 0 0),(1,iV n_),(2,iV k_),(7,.cu 1 0 g1.2.2.2.length false),(8,iV g1.1)],[(0,some (.box [aD g1.2.1,iV g1.2.2.1])),(1,some (.row 1 g1.2.2.2.length (bB iV 0 g1.2.2.2)))],2⟩) [(1,none)] [] <|fun self1 g1 hm=>si hm (fun _ hm=>sb hm fun v3 hv3 hm=>cl (aU hv3)<|sn hm fun _ hm=>si hm (fun _ hm=>sn hm fun _ hm=>sn hm fun _ hm=>lc [(1,some 98)] [] hm) fun _ hm=>sn hm fun _ hm=>le hm) fun _ hm=>by cases hm;exact rt [1] []
theorem Ca {most_:Int} {o0_:bq} {r:((List bV)×bq)} (hm:mq most_ o0_ r):S 66 [.ptr 0 0 0,iV most_] [.box [aD o0_.L,iV o0_.At]] (bQ r.1) [.box [aD r.2.L,iV r.2.At]] :=sp Tryz.func66 rfl<|sn hm fun _ hm=>sb hm fun v1 hv1 hm=>cl (aU hv1)<|lf hm (fun g1=>⟨[(0,.ptr 0 0 0),(5,.cu 1 0 g1.2.2.2.length false),(6,iV g1.1)],[(0,some (.box [aD g1.2.1,iV g1.2.2.1])),(1,some (.row 1 g1.2.2.2.length (bB Xh dReset g1.2.2.2)))],2⟩) [(1,none)] [] <|fun self1 g1 hm=>si hm (fun _ hm=>sb hm fun v4 hv4 hm=>cl (mZ hv4)<|sn hm fun _ hm=>sn hm fun _ hm=>lc [(1,some 74)] [] hm) fun _ hm=>by cases hm;exact rt [1] []
theorem Az {most_:Int} {o0_:bq} {r:((List bH)×bq)} (hm:kX most_ o0_ r):S 67 [.ptr 0 0 0,iV most_] [.box [aD o0_.L,iV o0_.At]] (bL r.1) [.box [aD r.2.L,iV r.2.At]] :=sp Tryz.func67 rfl<|sn hm fun _ hm=>sb hm fun v1 hv1 hm=>cl (aU hv1)<|lf hm (fun g1=>⟨[(0,.ptr 0 0 0),(5,.cu 1 0 g1.2.2.2.length false),(6,iV g1.1)],[(0,some (.box [aD g1.2.1,iV g1.2.2.1])),(1,some (.row 2 g1.2.2.2.length (bB Ut dD g1.2.2.2)))],2⟩) [(1,none)] [] <|fun self1 g1 hm=>si hm (fun _ hm=>sn hm fun _ hm=>sb hm fun v6 hv6 hm=>cl (iH hv6)<|sb hm fun v7 hv7 hm=>cl (aU hv7)<|sn hm fun _ hm=>sn hm fun _ hm=>lc [(1,some 106)] [] hm) fun _ hm=>by cases hm;exact rt [1] []
theorem D8 {o0_:bq} {r:(bF×bq)} (hm:nL o0_ r):S 25 [.ptr 0 0 0] [.box [aD o0_.L,iV o0_.At]] (qM r.1) [.box [aD r.2.L,iV r.2.At]] :=sp Tryz.func25 rfl<|sb hm fun v1 hv1 hm=>cl (BX hv1)<|sb hm fun v2 hv2 hm=>cl (zG hv2)<|sb hm fun v3 hv3 hm=>cl (BZ hv3)<|sb hm fun v4 hv4 hm=>cl (Ca hv4)<|sb hm fun v5 hv5 hm=>cl (Az hv5)<|by cases hm;exact re
theorem D9 {b_:bF} {o0_:bq} {r:(bn×bq)} (hm:nM b_ o0_ r):S 68 [.ptr 0 0 0,qM b_] [.box [aD o0_.L,iV o0_.At]] (tC r.1) [.box [aD r.2.L,iV r.2.At]] :=sp Tryz.func68 rfl<|sb hm fun v1 hv1 hm=>cl (aU hv1)<|sb hm fun v2 hv2 hm=>cl ((dH hv2).le ⟨.refl _,(.sl rfl (fun _=>rfl) nofun (le_litG iV 0 [(0:Int),(0:Int),(6:Int),(12:Int),(24:Int)])),trivial⟩ ⟨lF _,trivial⟩)<|sb hm fun v3 hv3 hm=>cl ((dH hv3).le ⟨.refl _,(.sl rfl (fun _=>rfl) nofun (le_litG iV 0 [(24:Int),(48:Int),(100:Int),(300:Int)])),trivial⟩ ⟨lF _,trivial⟩)<|by cases hm;exact re
theorem EW {b_:bF} {o0_:bq} {r:(aI×bq)} (hm:pz b_ o0_ r):S 69 [.ptr 0 0 0,qM b_] [.box [aD o0_.L,iV o0_.At]] (AY r.1) [.box [aD r.2.L,iV r.2.At]] :=sp Tryz.func69 rfl<|sb hm fun v1 hv1 hm=>cl (aU hv1)<|sb hm fun v2 hv2 hm=>cl ((dH hv2).le ⟨.refl _,(.sl rfl (fun _=>rfl) nofun (le_litG iV 0 [(0:Int),(900:Int),(1000:Int),(1800:Int)])),trivial⟩ ⟨lF _,trivial⟩)<|sb hm fun v3 hv3 hm=>cl ((dH hv3).le ⟨.refl _,(.sl rfl (fun _=>rfl) nofun (le_litG iV 0 [(1800:Int),(3300:Int),(5000:Int)])),trivial⟩ ⟨lF _,trivial⟩)<|sb hm fun v4 hv4 hm=>cl ((dH hv4).le ⟨.refl _,(.sl rfl (fun _=>rfl) nofun (le_litG iV 0 [(0:Int),(10:Int),(50:Int),(200:Int)])),trivial⟩ ⟨lF _,trivial⟩)<|by cases hm;exact re
theorem EX {l_:(List ByteArray)} {o0_:bq} {r:(ByteArray×bq)} (hm:pE l_ o0_ r):S 50 [.ptr 0 0 0,fM l_] [.box [aD o0_.L,iV o0_.At]] (.str r.1) [.box [aD r.2.L,iV r.2.At]] :=sp Tryz.func50 rfl<|sb hm fun v1 hv1 hm=>cl (aU hv1)<|sn hm fun _ hm=>by cases hm;exact re
theorem AA {most_:Int} {o0_:bq} {r:((List ByteArray)×bq)} (hm:kY most_ o0_ r):S 70 [.ptr 0 0 0,iV most_] [.box [aD o0_.L,iV o0_.At]] (fM r.1) [.box [aD r.2.L,iV r.2.At]] :=sp Tryz.func70 rfl<|sn hm fun _ hm=>sb hm fun v1 hv1 hm=>cl (aU hv1)<|lf hm (fun g1=>⟨[(0,.ptr 0 0 0),(5,.cu 1 0 g1.2.2.2.length false),(6,iV g1.1)],[(0,some (.box [aD g1.2.1,iV g1.2.2.1])),(1,some (.row 1 g1.2.2.2.length (bB AV.str ByteArray.empty g1.2.2.2)))],2⟩) [(1,none)] [] <|fun self1 g1 hm=>si hm (fun _ hm=>sb hm fun v6 hv6 hm=>cl (jZ hv6)<|sb hm fun v7 hv7 hm=>cl (EX hv7)<|sn hm fun _ hm=>sn hm fun _ hm=>lc [(1,some 58)] [] hm) fun _ hm=>by cases hm;exact rt [1] []
theorem AB {b_:bF} {most_:Int} {o0_:bq} {r:((List aO)×bq)} (hm:kZ b_ most_ o0_ r):S 26 [.ptr 0 0 0,qM b_,iV most_] [.box [aD o0_.L,iV o0_.At]] (eF r.1) [.box [aD r.2.L,iV r.2.At]] :=RY [9,11,13,18,19] Tryz.func26 rfl<|sn hm fun _ hm=>sb hm fun v1 hv1 hm=>cl (aU hv1)<|MP [9,11,13,18,19] hm (fun g1=>⟨[(0,.ptr 0 0 0),(4,.ptr 1 0 0),(7,.cu 2 0 g1.2.2.2.length false),(8,iV v1.1),(9,iV g1.1)],[(0,some (.box [aD g1.2.1,iV g1.2.2.1])),(1,some (.box [aS b_.bO,aL b_.bC,iV b_.bD.bI,aX b_.bD.Groups,bQ b_.Resets,bL b_.bS])),(2,some (.row 6 g1.2.2.2.length (bB yS aY g1.2.2.2)))],3⟩) [(2,none)] [] <|fun self1 g1 hm=>si hm (fun _ hm=>sn hm fun _ hm=>sb hm fun v46 hv46 hm=>cl (iH hv46)<|ck [9,11,13,18,19] (fT b_ v1 g1 self1 v46) r (fun g14=>⟨[(0,.ptr 0 0 0),(4,.ptr 1 0 0),(7,.cu 2 0 g1.2.2.2.length false),(8,iV v1.1),(9,iV g1.1),(10,.ptr 3 0 0)],[(0,some (.box [aD g14.1,iV g14.2.1])),(1,some (.box [aS b_.bO,aL b_.bC,iV b_.bD.bI,aX b_.bD.Groups,bQ b_.Resets,bL b_.bS])),(2,some (.row 6 g1.2.2.2.length (bB yS aY g1.2.2.2))),(3,some (.box [.cu 4 0 g14.2.2.length false,.sl 0 0 true dI,.sl 0 0 true dI,.sl 0 0 true dI,iV v46.1,.sl 0 0 true dI])),(4,some (.row 3 g14.2.2.length (bB tC cB g14.2.2)))],5⟩) (si hm (fun _ hm=>sb hm fun v66 hv66 hm=>cl (aU hv66)<|si hm (fun _ hm=>sb hm fun v67 hv67 hm=>cl (D9 hv67)<|sn hm fun _ hm=>lc [(3,some 83),(4,some 219)] [] hm) fun _ hm=>lc [(3,some 83),(4,none)] [] hm) fun c50 hm=>by
 refine ⟨(fun q0=>absurd q0 (J2 c50)),?_⟩
 (conv=>whnf)
 refine aK hm fun h34 hm=>?_
 (conv=>whnf)
 exact ⟨(v46.2.L,v46.2.At,([]:List bn)),[(3,some 83),(4,none)],[],hm,⟨rfl,⟨r4,r4,⟨rfl,rfl,rfl,rfl,nofun⟩,r2,r2,r4,trivial⟩,⟨⟨sf,r2,trivial⟩,⟨sr,sr,r2,sr,sr,sr,trivial⟩,⟨rfl,rfl,(fun _ _=>.refl _)⟩,⟨⟨rfl,rfl,rfl,rfl,rfl,rfl⟩,sr,sr,sr,r2,sr,trivial⟩,rfl,trivial⟩⟩⟩) fun g14 hm=>ck [9,11,13,18,19] (fI b_ v1 g1 self1 v46 g14) r (fun g15=>⟨[(0,.ptr 0 0 0),(4,.ptr 1 0 0),(7,.cu 2 0 g1.2.2.2.length false),(8,iV v1.1),(9,iV g1.1),(10,.ptr 3 0 0)],[(0,some (.box [aD g15.1,iV g15.2.1])),(1,some (.box [aS b_.bO,aL b_.bC,iV b_.bD.bI,aX b_.bD.Groups,bQ b_.Resets,bL b_.bS])),(2,some (.row 6 g1.2.2.2.length (bB yS aY g1.2.2.2))),(3,some (.box [.cu 4 0 g14.2.2.length false,.cu 5 0 g15.2.2.length false,.sl 0 0 true dI,.sl 0 0 true dI,iV v46.1,.sl 0 0 true dI])),(4,some (.row 3 g14.2.2.length (bB tC cB g14.2.2))),(5,some (.row 4 g15.2.2.length (bB AY bK g15.2.2)))],6⟩) (si hm (fun _ hm=>sb hm fun v64 hv64 hm=>cl (aU hv64)<|si hm (fun _ hm=>sb hm fun v65 hv65 hm=>cl (EW hv65)<|sn hm fun _ hm=>lc [(5,some 125)] [] hm) fun _ hm=>lc [(5,none)] [] hm) fun c48 hm=>by
 refine ⟨(fun q0=>absurd q0 (J2 c48)),?_⟩
 (conv=>whnf)
 refine aK hm fun h32 hm=>?_
 (conv=>whnf)
 exact ⟨(g14.1,g14.2.1,([]:List aI)),[(5,none)],[],hm,⟨rfl,⟨r4,r4,⟨rfl,rfl,rfl,rfl,nofun⟩,r2,r2,r4,trivial⟩,⟨⟨sf,r2,trivial⟩,⟨sr,sr,r2,sr,sr,sr,trivial⟩,⟨rfl,rfl,(fun _ _=>.refl _)⟩,⟨⟨rfl,rfl,rfl,rfl,nofun⟩,⟨rfl,rfl,rfl,rfl,rfl,rfl⟩,sr,sr,r2,sr,trivial⟩,⟨rfl,rfl,(fun _ _=>.refl _)⟩,rfl,trivial⟩⟩⟩) fun g15 hm=>ck [9,11,13,18,19] (gU b_ v1 g1 self1 v46 g14 g15) r (fun g16=>⟨[(0,.ptr 0 0 0),(4,.ptr 1 0 0),(7,.cu 2 0 g1.2.2.2.length false),(8,iV v1.1),(9,iV g1.1),(10,.ptr 3 0 0)],[(0,some (.box [aD g16.1,iV g16.2.1])),(1,some (.box [aS b_.bO,aL b_.bC,iV b_.bD.bI,aX b_.bD.Groups,bQ b_.Resets,bL b_.bS])),(2,some (.row 6 g1.2.2.2.length (bB yS aY g1.2.2.2))),(3,some (.box [.cu 4 0 g14.2.2.length false,.cu 5 0 g15.2.2.length false,fM g16.2.2,.sl 0 0 true dI,iV v46.1,.sl 0 0 true dI])),(4,some (.row 3 g14.2.2.length (bB tC cB g14.2.2))),(5,some (.row 4 g15.2.2.length (bB AY bK g15.2.2)))],6⟩) (sb hm fun v62 hv62 hm=>cl (aU hv62)<|si hm (fun _ hm=>sb hm fun v63 hv63 hm=>cl (AA hv63)<|le hm) fun _ hm=>le hm) fun g16 hm=>sb hm fun v53 hv53 hm=>cl (mZ hv53)<|ck [9,11,13,18,19] (gQ g1 self1 v46 g14 g15 g16 v53) r (fun g18=>⟨[(0,.ptr 0 0 0),(4,.ptr 1 0 0),(7,.cu 2 0 g1.2.2.2.length false),(8,iV v1.1),(9,iV g1.1),(10,.ptr 3 0 0)],[(0,some (.box [aD g18.1,iV g18.2.1])),(1,some (.box [aS b_.bO,aL b_.bC,iV b_.bD.bI,aX b_.bD.Groups,bQ b_.Resets,bL b_.bS])),(2,some (.row 6 g1.2.2.2.length (bB yS aY g1.2.2.2))),(3,some (.box [.cu 4 0 g14.2.2.length false,.cu 5 0 g15.2.2.length false,fM g16.2.2,aD v53.1,iV v46.1,aD g18.2.2])),(4,some (.row 3 g14.2.2.length (bB tC cB g14.2.2))),(5,some (.row 4 g15.2.2.length (bB AY bK g15.2.2)))],6⟩) (sb hm fun v58 hv58 hm=>cl (aU hv58)<|si hm (fun _ hm=>ck [9,11,13,18,19] (gT g1 self1 v46 g14 g15 g16 v53) r (fun g19=>⟨[(0,.ptr 0 0 0),(4,.ptr 1 0 0),(7,.cu 2 0 g1.2.2.2.length false),(8,iV v1.1),(9,iV g1.1),(10,.ptr 3 0 0),(11,iV g19.1)],[(0,some (.box [aD g19.2.1,iV g19.2.2])),(1,some (.box [aS b_.bO,aL b_.bC,iV b_.bD.bI,aX b_.bD.Groups,bQ b_.Resets,bL b_.bS])),(2,some (.row 6 g1.2.2.2.length (bB yS aY g1.2.2.2))),(3,some (.box [.cu 4 0 g14.2.2.length false,.cu 5 0 g15.2.2.length false,fM g16.2.2,aD v53.1,iV v46.1,.sl 0 0 true dI])),(4,some (.row 3 g14.2.2.length (bB tC cB g14.2.2))),(5,some (.row 4 g15.2.2.length (bB AY bK g15.2.2)))],6⟩) (sb hm fun v61 hv61 hm=>cl (aU hv61)<|si hm (fun _ hm=>le hm) fun _ hm=>le hm) fun g19 hm=>sb hm fun v60 hv60 hm=>cl (mZ hv60)<|le hm) fun _ hm=>le hm) fun g18 hm=>sn hm fun _ hm=>sn hm fun _ hm=>lc [(2,some 30)] [] hm) fun _ hm=>si hm (fun _ hm=>sb hm fun v68 hv68 hm=>cl (aU hv68)<|si hm (fun _ hm=>sn hm fun _ hm=>MP [9,11,13,18,19] hm (fun g20=>⟨[(7,.cu 1 0 g20.2.2.length false),(8,iV v1.1),(12,iV g20.1),(13,iV g20.2.1)],[(0,some (.box [aD v68.2.L,iV v68.2.At])),(1,some (.row 6 g20.2.2.length (bB yS aY g20.2.2)))],2⟩) [(1,some 2)] [] <|fun self20 g20 hm=>si hm (fun _ hm=>sn hm fun _ hm=>sn hm fun _ hm=>sn hm fun _ hm=>sn hm fun _ hm=>sn hm fun _ hm=>sn hm fun _ hm=>le hm) fun _ hm=>MP [9,11,13,18,19] hm (fun g21=>⟨[(7,.cu 1 0 g21.2.length false),(8,iV v1.1),(126,iV (g20.2.2.length:Int)),(127,iV g21.1)],[(0,some (.box [aD v68.2.L,iV v68.2.At])),(1,some (.row 6 g21.2.length (bB yS aY g21.2)))],2⟩) [] [] <|fun self21 g21 hm=>si hm (fun _ hm=>sn hm fun _ hm=>sn hm fun _ hm=>MP [9,11,13,18,19] hm (fun g24=>⟨[(7,.cu 1 0 g21.2.length false),(8,iV v1.1),(14,iV g21.1),(15,.cu 2 0 g24.2.length false),(16,iV g24.1),(126,iV (g20.2.2.length:Int)),(127,iV g21.1)],[(0,some (.box [aD v68.2.L,iV v68.2.At])),(1,some (.row 6 g21.2.length (bB yS aY g21.2))),(2,some (.row 1 g24.2.length (bB iV 0 g24.2)))],3⟩) [(2,none)] [] <|fun self24 g24 hm=>si hm (fun _ hm=>sn hm fun _ hm=>sn hm fun _ hm=>sn hm fun _ hm=>sn hm fun _ hm=>sn hm fun _ hm=>sn hm fun _ hm=>lc [(2,some 123)] [] hm) fun _ hm=>sn hm fun _ hm=>sn hm fun _ hm=>le hm) fun _ hm=>by cases hm;exact rt [1] []) fun _ hm=>by cases hm;exact rt [2] []) fun c52 hm=>by
 refine ⟨(fun q0=>absurd q0 (J2 c52)),?_⟩
 (conv=>whnf)
 refine aK hm fun h120 hm=>?_
 (conv=>whnf)
 have hm:r=(g1.2.2.2,(⟨g1.2.1,g1.2.2.1⟩:bq)):=hm
 subst hm
 refine ⟨[2],[],?_⟩
 (conv=>whnf)
 exact ⟨⟨rfl,trivial,⟨⟨sf,r2,trivial⟩,trivial⟩⟩,sf⟩
theorem P7 {l_:(List Int)} {x_:Int} {r:Bool} (hm:KT l_ x_ r):S 159 [aD l_,iV x_] [] (.bool r) [] :=sp Tryz.func159 rfl<|l0 hm (fun g1=>⟨[(0,aD l_),(1,iV x_),(5,iV g1)],[],0⟩) <|fun self1 g1 hm=>si hm (fun _ hm=>sn hm fun _ hm=>si hm (fun _ hm=>by cases hm;exact re) fun _ hm=>sn hm fun _ hm=>le hm) fun _ hm=>by cases hm;exact re
theorem jE {l_:(List Int)} {lo_:Int} {hi_:Int} {r:Bool} (hm:iO l_ lo_ hi_ r):S 128 [aD l_,iV lo_,iV hi_] [] (.bool r) [] :=sp Tryz.func128 rfl<|l0 hm (fun g1=>⟨[(0,aD l_),(1,iV lo_),(2,iV hi_),(9,aD l_),(10,iV (l_.length:Int)),(11,iV g1)],[],0⟩) <|fun self1 g1 hm=>si hm (fun _ hm=>sn hm fun _ hm=>sn hm fun _ hm=>sb hm fun v3 hv3 hm=>cl (fun q0=>((P7 (hv3 q0)).le ⟨(.sl oz (fun _=>rfl) nofun (le_rtake (f:=iV) (d:=0) (by first | omega | (simp; omega)))),.refl _,trivial⟩ trivial))<|si hm (fun _ hm=>by cases hm;exact re) fun _ hm=>sn hm fun _ hm=>le hm) fun _ hm=>by cases hm;exact re
theorem Ea {a_:(List Int)} {b_:(List Int)} {r:Bool} (hm:yZ a_ b_ r):S 129 [aD a_,aD b_] [] (.bool r) [] :=sp Tryz.func129 rfl<|si hm (fun _ hm=>by cases hm;exact re) fun _ hm=>l0 hm (fun g1=>⟨[(0,aD a_),(1,aD b_),(5,iV g1)],[],0⟩) <|fun self1 g1 hm=>si hm (fun _ hm=>sn hm fun _ hm=>sn hm fun _ hm=>si hm (fun _ hm=>by cases hm;exact re) fun _ hm=>sn hm fun _ hm=>le hm) fun _ hm=>by cases hm;exact re
theorem Gp {c_:av} {r:Bool} (hm:rQ c_ r):S 78 [CO c_] [] (.bool r) [] :=sp Tryz.func78 rfl<|si hm (fun _ hm=>sn hm fun _ hm=>sn hm fun _ hm=>by cases hm;exact re) fun _ hm=>si hm (fun _ hm=>si hm (fun _ hm=>sb hm fun v1 hv1 hm=>cl (fun q0=>(jE (hv1 q0)))<|by cases hm;exact re) fun _ hm=>si hm (fun _ hm=>sn hm fun _ hm=>sb hm fun v2 hv2 hm=>cl (fun q0=>(jE (hv2 q0)))<|by cases hm;exact re) fun _ hm=>si hm (fun _ hm=>si hm (fun _ hm=>sb hm fun v3 hv3 hm=>cl (fun q0=>((Ea (hv3 q0)).le ⟨.refl _,(.sl rfl (fun _=>rfl) nofun (le_litG iV 0 [(0:Int),(1:Int)])),trivial⟩ trivial))<|by cases hm;exact re) fun c6 hm=>by
 refine ⟨.bool false,[],(fun q0=>absurd q0 (J2 c6)),?_⟩
 (conv=>whnf)
 have hm:r=(((c_.Parents.length:Int)==(1:Int))&&false):=hm
 subst hm
 refine ⟨[],[],?_⟩
 (conv=>whnf)
 exact ⟨⟨rfl,trivial,trivial⟩,rfl⟩) fun _ hm=>by cases hm;exact re) fun _ hm=>si hm (fun _ hm=>sb hm fun v4 hv4 hm=>cl (fun q0=>(jE (hv4 q0)))<|by cases hm;exact re) fun _ hm=>si hm (fun _ hm=>sn hm fun _ hm=>sb hm fun v5 hv5 hm=>cl (fun q0=>(jE (hv5 q0)))<|by cases hm;exact re) fun _ hm=>si hm (fun _ hm=>si hm (fun _ hm=>sb hm fun v6 hv6 hm=>cl (fun q0=>((Ea (hv6 q0)).le ⟨.refl _,(.sl rfl (fun _=>rfl) nofun (le_litG iV 0 [(0:Int),(1:Int)])),trivial⟩ trivial))<|by cases hm;exact re) fun c10 hm=>by
 refine ⟨.bool false,[],(fun q0=>absurd q0 (J2 c10)),?_⟩
 (conv=>whnf)
 have hm:r=(((c_.Parents.length:Int)==(1:Int))&&false):=hm
 subst hm
 refine ⟨[],[],?_⟩
 (conv=>whnf)
 exact ⟨⟨rfl,trivial,trivial⟩,rfl⟩) fun _ hm=>by cases hm;exact re
theorem Gq {l_:(List av)} {r:(List Int)} (hm:rR l_ r):S 79 [aS l_] [] (aD r) [] :=RY [13] Tryz.func79 rfl<|MP [13] hm (fun g1=>⟨[(3,.cu 0 0 g1.2.length false),(9,aS l_),(10,iV (l_.length:Int)),(11,iV g1.1)],[(0,some (.row 1 g1.2.length (bB iV 0 g1.2)))],1⟩) [(0,none)] [] <|fun self1 g1 hm=>si hm (fun _ hm=>sn hm fun _ hm=>MP [13] hm (fun g6=>⟨[(3,.cu 0 0 g1.2.length false),(5,.ptr 1 0 0),(6,iV g6.1),(9,aS l_),(10,iV (l_.length:Int)),(11,iV g1.1),(16,aD ((l_.getD g1.1.toNat ay).Parents)),(17,iV ((((l_.getD g1.1.toNat ay).Parents).length:Nat):Int)),(18,iV g6.2)],[(0,some (.row 1 g1.2.length (bB iV 0 g1.2))),(1,some (.box [iV ((l_.getD g1.1.toNat ay).Kind),aD ((l_.getD g1.1.toNat ay).Parents),aD ((l_.getD g1.1.toNat ay).Choices),iV ((l_.getD g1.1.toNat ay).Low),iV ((l_.getD g1.1.toNat ay).High)]))],2⟩) [(1,some 25)] [] <|fun self6 g6 hm=>si hm (fun _ hm=>sn hm fun _ hm=>sn hm fun _ hm=>sn hm fun _ hm=>le hm) fun _ hm=>ck [13] (jy g1 self1) r (fun g7=>⟨[(3,.cu 0 0 g1.2.length false),(6,iV g7),(9,aS l_),(10,iV (l_.length:Int)),(11,iV g1.1)],[(0,some (.row 1 g1.2.length (bB iV 0 g1.2)))],1⟩) (si hm (fun _ hm=>sn hm fun _ hm=>le hm) fun _ hm=>le hm) fun g7 hm=>sn hm fun _ hm=>sn hm fun _ hm=>lc [(0,some 25)] [] hm) fun _ hm=>by cases hm;exact rt [0] []
theorem rJ {l_:(List av)} {r:Int} (hm:oG l_ r):S 28 [aS l_] [] (iV r) [] :=sp Tryz.func28 rfl<|si hm (fun _ hm=>by cases hm;exact re) fun _ hm=>l0 hm (fun g1=>⟨[(0,aS l_),(15,aS l_),(16,iV (l_.length:Int)),(17,iV g1)],[],0⟩) <|fun self1 g1 hm=>si hm (fun _ hm=>sn hm fun _ hm=>si hm (fun _ hm=>by cases hm;exact re) fun _ hm=>sn hm fun _ hm=>le hm) fun _ hm=>l0 hm (fun g2=>⟨[(0,aS l_),(5,iV g2.1),(32,aS l_),(33,iV (l_.length:Int)),(34,iV g2.2)],[],0⟩) <|fun self2 g2 hm=>si hm (fun _ hm=>sn hm fun _ hm=>lf hm (fun g5=>⟨[(0,aS l_),(5,iV g2.1),(6,iV g2.2),(7,.ptr 0 0 0),(32,aS l_),(33,iV (l_.length:Int)),(34,iV g2.2),(40,aD ((l_.getD g2.2.toNat ay).Parents)),(41,iV ((((l_.getD g2.2.toNat ay).Parents).length:Nat):Int)),(42,iV g5)],[(0,some (.box [iV ((l_.getD g2.2.toNat ay).Kind),aD ((l_.getD g2.2.toNat ay).Parents),aD ((l_.getD g2.2.toNat ay).Choices),iV ((l_.getD g2.2.toNat ay).Low),iV ((l_.getD g2.2.toNat ay).High)]))],1⟩) [(0,some 32)] [] <|fun self5 g5 hm=>si hm (fun _ hm=>sn hm fun _ hm=>si hm (fun _ hm=>by cases hm;exact re) fun _ hm=>sn hm fun _ hm=>le hm) fun _ hm=>sb hm fun v3 hv3 hm=>cl (Gp hv3)<|si hm (fun _ hm=>by cases hm;exact re) fun _ hm=>sn hm fun _ hm=>sn hm fun _ hm=>le hm) fun _ hm=>si hm (fun _ hm=>by cases hm;exact re) fun _ hm=>sb hm fun v4 hv4 hm=>cl (Gq hv4)<|l0 hm (fun g6=>⟨[(84,aD v4),(85,iV (v4.length:Int)),(86,iV g6)],[],0⟩) <|fun self6 g6 hm=>si hm (fun _ hm=>sn hm fun _ hm=>si hm (fun _ hm=>by cases hm;exact re) fun _ hm=>sn hm fun _ hm=>le hm) fun _ hm=>by cases hm;exact re
end Go.Proofs.YtfblhejmclcdmaaGreatDoor


namespace Go.Proofs.YtfblhejmclcdmaaGreatDoor
open Go.Ab
set_option maxRecDepth 100000
set_option maxHeartbeats 20000000
theorem Ih {l_:(List av)} {m_:(List bn)} {r:Bool} (hm:u7 l_ m_ r):S 111 [aS l_,eX m_] [] (.bool r) [] :=sp Tryz.func111 rfl<|sb hm fun v1 hv1 hm=>cl (rJ hv1)<|si hm (fun _ hm=>by cases hm;exact re) fun _ hm=>l0 hm (fun g1=>⟨[(0,aS l_),(15,eX m_),(16,iV (m_.length:Int)),(17,iV g1)],[],0⟩) <|fun self1 g1 hm=>si hm (fun _ hm=>sn hm fun _ hm=>si hm (fun _ hm=>by cases hm;exact re) fun _ hm=>sn hm fun _ hm=>le hm) fun _ hm=>by cases hm;exact re
theorem Js {l_:(List av)} {m_:(List bn)} {r:Int} (hm:xu l_ m_ r):S 119 [aS l_,eX m_] [] (iV r) [] :=sp Tryz.func119 rfl<|sb hm fun v1 hv1 hm=>cl (rJ hv1)<|si hm (fun _ hm=>by cases hm;exact re) fun _ hm=>sb hm fun v2 hv2 hm=>cl (Ih hv2)<|si hm (fun _ hm=>by cases hm;exact re) fun _ hm=>by cases hm;exact re
theorem Ii {c_:av} {choice_:Int} {r:Int} (hm:vg c_ choice_ r):S 148 [CO c_,iV choice_] [] (iV r) [] :=sp Tryz.func148 rfl<|si hm (fun _ hm=>by cases hm;exact re) fun _ hm=>si hm (fun _ hm=>sn hm fun _ hm=>sn hm fun _ hm=>by cases hm;exact re) fun _ hm=>sn hm fun _ hm=>by cases hm;exact re
theorem nZ {a_:Int} {b_:Int} {r:Int} (hm:kM a_ b_ r):S 179 [iV a_,iV b_] [] (iV r) [] :=sp Tryz.func179 rfl<|l0 hm (fun g1=>⟨[(0,iV g1.1),(1,iV g1.2)],[],0⟩) <|fun self1 g1 hm=>si hm (fun _ hm=>sn hm fun _ hm=>le hm) fun _ hm=>by cases hm;exact re
theorem mK {r_:aP} {r:Bool} (hm:lN r_ r):S 151 [lG r_] [] (.bool r) [] :=sp Tryz.func151 rfl<|sb hm fun v1 hv1 hm=>cl (fun q0=>(nZ (hv1 q0)))<|by cases hm;exact re
theorem xO {k_:Int} {r:Bool} (hm:pF k_ r):S 177 [iV k_] [] (.bool r) [] :=sp Tryz.func177 rfl<|by cases hm;exact re
theorem Eb {num_:Int} {den_:Int} {r:(aP×Int)} (hm:za num_ den_ r):S 178 [iV num_,iV den_] [] (.jJ [lG r.1,iV r.2]) [] :=sp Tryz.func178 rfl<|si hm (fun _ hm=>by cases hm;exact re) fun _ hm=>sb hm fun v1 hv1 hm=>cl (nZ hv1)<|sn hm fun _ hm=>sn hm fun _ hm=>sb hm fun v2 hv2 hm=>cl (mK hv2)<|si hm (fun _ hm=>by cases hm;exact re) fun _ hm=>by cases hm;exact re
theorem KD {r_:aP} {k_:Int} {r:(aP×Int)} (hm:Aa r_ k_ r):S 149 [lG r_,iV k_] [] (.jJ [lG r.1,iV r.2]) [] :=sp Tryz.func149 rfl<|sb hm fun v1 hv1 hm=>cl (mK hv1)<|si hm (fun _ hm=>by cases hm;exact re) fun _ hm=>sb hm fun v2 hv2 hm=>cl (xO hv2)<|si hm (fun _ hm=>by cases hm;exact re) fun _ hm=>sn hm fun _ hm=>sb hm fun v3 hv3 hm=>cl (Eb hv3)<|by cases hm;exact re
theorem Jt {r_:aP} {k_:Int} {r:(aP×Int)} (hm:xw r_ k_ r):S 150 [lG r_,iV k_] [] (.jJ [lG r.1,iV r.2]) [] :=sp Tryz.func150 rfl<|sb hm fun v1 hv1 hm=>cl (mK hv1)<|si hm (fun _ hm=>by cases hm;exact re) fun _ hm=>sb hm fun v2 hv2 hm=>cl (xO hv2)<|si hm (fun _ hm=>by cases hm;exact re) fun _ hm=>sb hm fun v3 hv3 hm=>cl (nZ hv3)<|sn hm fun _ hm=>sn hm fun _ hm=>si hm (fun _ hm=>by cases hm;exact re) fun _ hm=>sn hm fun _ hm=>sn hm fun _ hm=>sn hm fun _ hm=>sb hm fun v4 hv4 hm=>cl (Eb hv4)<|by cases hm;exact re
theorem Ij {l_:(List av)} {s_:(List Int)} {r:((List aP)×(List Bool))} (hm:vk l_ s_ r):S 112 [aS l_,aD s_] [] (.jJ [qN r.1,bf r.2]) [] :=RY [10,21] Tryz.func112 rfl<|MP [10,21] hm (fun g1=>⟨[(1,aD s_),(6,.cu 0 0 g1.2.1.length false),(7,.cu 1 0 g1.2.2.length false),(14,aS l_),(15,iV (l_.length:Int)),(16,iV g1.1)],[(0,some (.row 2 g1.2.1.length (bB lG bZ g1.2.1))),(1,some (.row 1 g1.2.2.length (bB AV.bool false g1.2.2)))],2⟩) [(0,none),(1,none)] [] <|fun self1 g1 hm=>si hm (fun _ hm=>sn hm fun _ hm=>ck [10,21] (jV l_ s_ g1 self1) r (fun g6=>⟨[(1,aD s_),(6,.cu 0 0 g1.2.1.length false),(7,.cu 1 0 g1.2.2.length false),(8,iV g1.1),(9,.ptr 2 0 0),(10,.ptr 3 0 0),(11,.bool g6.1),(14,aS l_),(15,iV (l_.length:Int)),(16,iV g1.1)],[(0,some (.row 2 g1.2.1.length (bB lG bZ g1.2.1))),(1,some (.row 1 g1.2.2.length (bB AV.bool false g1.2.2))),(2,some (.box [iV ((l_.getD g1.1.toNat ay).Kind),aD ((l_.getD g1.1.toNat ay).Parents),aD ((l_.getD g1.1.toNat ay).Choices),iV ((l_.getD g1.1.toNat ay).Low),iV ((l_.getD g1.1.toNat ay).High)])),(3,some (.box [iV g6.2.1,iV g6.2.2]))],4⟩) (sn hm fun _ hm=>sb hm fun v18 hv18 hm=>cl (Ii hv18)<|si hm (fun _ hm=>sn hm fun _ hm=>sn hm fun _ hm=>lc [(2,some 34),(3,some 66)] [] hm) fun _ hm=>lc [(2,some 34),(3,some 66)] [] hm) fun g6 hm=>sn hm fun _ hm=>sn hm fun _ hm=>ck [10,21] (fF g1 self1) r (fun g7=>⟨[(1,aD s_),(6,.cu 0 0 g1.2.1.length false),(7,.cu 1 0 g1.2.2.length false),(10,.ptr 2 0 0),(11,.bool g7.1),(14,aS l_),(15,iV (l_.length:Int)),(16,iV g1.1)],[(0,some (.row 2 g1.2.1.length (bB lG bZ g1.2.1))),(1,some (.row 1 g1.2.2.length (bB AV.bool false g1.2.2))),(2,some (.box [iV g7.2.1,iV g7.2.2]))],3⟩) (si hm (fun _ hm=>lc [(2,some 3)] [] hm) fun _ hm=>si hm (fun _ hm=>sb hm fun v16 hv16 hm=>cl (KD hv16)<|lc [(2,some 3)] [] hm) fun _ hm=>si hm (fun _ hm=>sb hm fun v17 hv17 hm=>cl (Jt hv17)<|lc [(2,some 3)] [] hm) fun _ hm=>si hm (fun _ hm=>si hm (fun _ hm=>lc [(2,some 3)] [] hm) fun _ hm=>lc [(2,some 3)] [] hm) fun _ hm=>lc [(2,some 3)] [] hm) fun g7 hm=>sn hm fun _ hm=>sn hm fun _ hm=>sn hm fun _ hm=>lc [(0,some 27),(1,some 59)] [] hm) fun _ hm=>by cases hm;exact rt [0,1] []
theorem xP {r_:aP} {low_:Int} {high_:Int} {r:Bool} (hm:pG r_ low_ high_ r):S 113 [lG r_,iV low_,iV high_] [] (.bool r) [] :=sp Tryz.func113 rfl<|sb hm fun v1 hv1 hm=>cl (mK hv1)<|si hm (fun _ hm=>by cases hm;exact re) fun _ hm=>sn hm fun _ hm=>sn hm fun _ hm=>by cases hm;exact re
theorem MV {l_:(List av)} {r_:(List aP)} {on_:(List Bool)} {r:Bool} (hm:Et l_ r_ on_ r):S 114 [aS l_,qN r_,bf on_] [] (.bool r) [] :=sp Tryz.func114 rfl<|l0 hm (fun g1=>⟨[(1,qN r_),(2,bf on_),(9,aS l_),(10,iV (l_.length:Int)),(11,iV g1)],[],0⟩) <|fun self1 g1 hm=>si hm (fun _ hm=>sn hm fun _ hm=>sn hm fun _ hm=>sn hm fun _ hm=>sb hm fun v3 hv3 hm=>cl (fun q0=>(xP (hv3 q0)))<|si hm (fun _ hm=>by cases hm;exact re) fun _ hm=>sn hm fun _ hm=>le hm) fun _ hm=>by cases hm;exact re
theorem KE {l_:(List av)} {s_:(List Int)} {m_:(List bn)} {r:Bool} (hm:Ac l_ s_ m_ r):S 153 [aS l_,aD s_,eX m_] [] (.bool r) [] :=sp Tryz.func153 rfl<|sb hm fun v1 hv1 hm=>cl (Ij hv1)<|l0 hm (fun g1=>⟨[(0,aS l_),(7,qN v1.1),(8,bf v1.2),(17,eX m_),(18,iV (m_.length:Int)),(19,iV g1)],[],0⟩) <|fun self1 g1 hm=>si hm (fun _ hm=>sn hm fun _ hm=>sn hm fun _ hm=>sn hm fun _ hm=>sb hm fun v4 hv4 hm=>cl (fun q0=>(xP (hv4 q0)))<|si hm (fun _ hm=>by cases hm;exact re) fun _ hm=>sn hm fun _ hm=>le hm) fun _ hm=>sb hm fun v5 hv5 hm=>cl (MV hv5)<|by cases hm;exact re
theorem KF {l_:(List av)} {s_:(List Int)} {r:((List Int)×Bool)} (hm:Ad l_ s_ r):S 154 [aS l_,aD s_] [] (.jJ [aD r.1,.bool r.2]) [] :=RY [6] Tryz.func154 rfl<|sn hm fun _ hm=>sn hm fun _ hm=>MP [6] hm (fun g1=>⟨[(0,aS l_),(6,.cu 0 0 g1.2.length false),(7,iV g1.1)],[(0,some (.row 1 g1.2.length (bB iV 0 g1.2)))],1⟩) [(0,some 32)] [] <|fun self1 g1 hm=>si hm (fun _ hm=>ck [6] (xY l_ g1 self1) r (fun g4=>⟨[(0,aS l_),(6,.cu 0 0 g4.length false),(7,iV g1.1)],[(0,some (.row 1 g4.length (bB iV 0 g4)))],1⟩) (sn hm fun _ hm=>sn hm fun _ hm=>sn hm fun _ hm=>le hm) fun g4 hm=>sn hm fun _ hm=>sn hm fun _ hm=>si hm (fun _ hm=>by cases hm;exact rt [0] []) fun _ hm=>sn hm fun _ hm=>sn hm fun _ hm=>le hm) fun _ hm=>by cases hm;exact re
theorem MW {l_:(List av)} {m_:(List bn)} {r:(List (List Int))} (hm:Eu l_ m_ r):S 120 [aS l_,eX m_] [] (ZR r) [] :=RY [4,6] Tryz.func120 rfl<|sn hm fun _ hm=>MP [4,6] hm (fun g1=>⟨[(0,aS l_),(1,eX m_),(5,.cu 0 0 g1.2.2.length false),(6,aD g1.1),(7,.bool g1.2.1)],[(0,some (.row 1 g1.2.2.length (bB aD [] g1.2.2)))],1⟩) [(0,none)] [32] <|fun self1 g1 hm=>ck [4,6] (Ae l_ m_ g1 self1) r (fun g6=>⟨[(0,aS l_),(1,eX m_),(5,.cu 0 0 g1.2.2.length false),(6,aD g1.1)],[(0,some (.row 1 g1.2.2.length (bB aD [] g1.2.2)))],1⟩) (si hm (fun _ hm=>le hm) fun _ hm=>by cases hm;exact rt [0] []) fun g6 hm=>ck [4,6] (pI l_ g1 self1) r (fun g7=>⟨[(0,aS l_),(1,eX m_),(5,.cu 0 0 g7.length false),(6,aD g1.1)],[(0,some (.row 1 g7.length (bB aD [] g7)))],1⟩) (sb hm fun v9 hv9 hm=>cl (KE hv9)<|si hm (fun _ hm=>sn hm fun _ hm=>lc [(0,some 57)] [] hm) fun _ hm=>le hm) fun g7 hm=>sb hm fun v8 hv8 hm=>cl (KF hv8)<|le hm
theorem Ju {l_:(List av)} {m_:(List bn)} {r:((List Int)×Int)} (hm:xA l_ m_ r):S 72 [aS l_,eX m_] [] (.jJ [aD r.1,iV r.2]) [] :=sp Tryz.func72 rfl<|sb hm fun v1 hv1 hm=>cl (Js hv1)<|si hm (fun _ hm=>by cases hm;exact re) fun _ hm=>sb hm fun v2 hv2 hm=>cl (MW hv2)<|si hm (fun _ hm=>by cases hm;exact re) fun _ hm=>sn hm fun _ hm=>by cases hm;exact re
theorem iX {x_:Int} {lo_:Int} {hi_:Int} {r:Bool} (hm:lQ x_ lo_ hi_ r):S 80 [iV x_,iV lo_,iV hi_] [] (.bool r) [] :=sp Tryz.func80 rfl<|by cases hm;exact re
theorem rM {l_:(List aj)} {r:Int} (hm:oH l_ r):S 29 [aL l_] [] (iV r) [] :=sp Tryz.func29 rfl<|si hm (fun _ hm=>by cases hm;exact re) fun _ hm=>l0 hm (fun g1=>⟨[(0,aL l_),(12,aL l_),(13,iV (l_.length:Int)),(14,iV g1)],[],0⟩) <|fun self1 g1 hm=>si hm (fun _ hm=>sn hm fun _ hm=>si hm (fun _ hm=>by cases hm;exact re) fun _ hm=>sn hm fun _ hm=>le hm) fun _ hm=>l0 hm (fun g2=>⟨[(23,aL l_),(24,iV (l_.length:Int)),(25,iV g2)],[],0⟩) <|fun self2 g2 hm=>si hm (fun _ hm=>sn hm fun _ hm=>sn hm fun _ hm=>sb hm fun v13 hv13 hm=>cl (iX hv13)<|sb hm fun v14 hv14 hm=>cl (fun q0=>(iX (hv14 q0)))<|sb hm fun v15 hv15 hm=>cl (fun q0=>(iX (hv15 q0)))<|si hm (fun _ hm=>by cases hm;exact re) fun _ hm=>lf hm (fun g5=>⟨[(6,.ptr 0 0 0),(23,aL l_),(24,iV (l_.length:Int)),(25,iV g2),(65,aD ((l_.getD g2.toNat ah).aQ)),(66,iV ((((l_.getD g2.toNat ah).aQ).length:Nat):Int)),(67,iV g5)],[(0,some (.box [iV ((l_.getD g2.toNat ah).Parent),aD ((l_.getD g2.toNat ah).aQ),iV ((l_.getD g2.toNat ah).dM),iV ((l_.getD g2.toNat ah).dU),.bool ((l_.getD g2.toNat ah).Always)]))],1⟩) [(0,some 32)] [] <|fun self5 g5 hm=>si hm (fun _ hm=>sn hm fun _ hm=>sb hm fun v18 hv18 hm=>cl (iX hv18)<|sn hm fun _ hm=>sn hm fun _ hm=>si hm (fun _ hm=>by cases hm;exact re) fun _ hm=>sn hm fun _ hm=>le hm) fun _ hm=>sn hm fun _ hm=>le hm) fun _ hm=>by cases hm;exact re
theorem Jv {l_:(List aj)} {d_:(List aI)} {r:Bool} (hm:xB l_ d_ r):S 115 [aL l_,dZ d_] [] (.bool r) [] :=sp Tryz.func115 rfl<|sb hm fun v1 hv1 hm=>cl (rM hv1)<|si hm (fun _ hm=>by cases hm;exact re) fun _ hm=>l0 hm (fun g1=>⟨[(0,aL l_),(15,dZ d_),(16,iV (d_.length:Int)),(17,iV g1)],[],0⟩) <|fun self1 g1 hm=>si hm (fun _ hm=>sn hm fun _ hm=>sn hm fun _ hm=>sb hm fun v8 hv8 hm=>cl (iX hv8)<|sb hm fun v9 hv9 hm=>cl (fun q0=>(iX (hv9 q0)))<|sb hm fun v10 hv10 hm=>cl (fun q0=>(iX (hv10 q0)))<|si hm (fun _ hm=>by cases hm;exact re) fun _ hm=>sn hm fun _ hm=>le hm) fun _ hm=>by cases hm;exact re
theorem Jw {l_:(List aj)} {d_:(List aI)} {r:Int} (hm:xC l_ d_ r):S 121 [aL l_,dZ d_] [] (iV r) [] :=sp Tryz.func121 rfl<|sb hm fun v1 hv1 hm=>cl (rM hv1)<|si hm (fun _ hm=>by cases hm;exact re) fun _ hm=>sb hm fun v2 hv2 hm=>cl (Jv hv2)<|si hm (fun _ hm=>by cases hm;exact re) fun _ hm=>by cases hm;exact re
theorem BI {l_:(List aj)} {d_:(List aI)} {r:(List Bool)} (hm:vY l_ d_ r):S 122 [aL l_,dZ d_] [] (bf r) [] :=sp Tryz.func122 rfl<|sn hm fun _ hm=>sn hm fun _ hm=>lf hm (fun g1=>⟨[(0,aL l_),(1,dZ d_),(5,.cu 0 0 g1.2.length false),(6,iV g1.1)],[(0,some (.row 1 g1.2.length (bB AV.bool false g1.2)))],1⟩) [(0,some 24)] [] <|fun self1 g1 hm=>si hm (fun _ hm=>sn hm fun _ hm=>sn hm fun _ hm=>sn hm fun _ hm=>l0 hm (fun g4=>⟨[(0,aL l_),(1,dZ d_),(5,.cu 0 0 g4.2.length false),(6,iV g1.1),(34,dZ d_),(35,iV (d_.length:Int)),(36,iV g4.1)],[(0,some (.row 1 g4.2.length (bB AV.bool false g4.2)))],1⟩) <|fun self4 g4 hm=>si hm (fun _ hm=>sn hm fun _ hm=>sn hm fun _ hm=>sn hm fun _ hm=>sn hm fun _ hm=>le hm) fun _ hm=>sn hm fun _ hm=>sn hm fun _ hm=>si hm (fun _ hm=>sn hm fun _ hm=>sn hm fun _ hm=>le hm) fun _ hm=>sn hm fun _ hm=>le hm) fun _ hm=>by cases hm;exact rt [0] []
theorem Jy {s_:aj} {v_:Int} {r:Int} (hm:xD s_ v_ r):S 123 [wW s_,iV v_] [] (iV r) [] :=sp Tryz.func123 rfl<|l0 hm (fun g1=>⟨[(1,iV v_),(8,aD s_.aQ),(9,iV (s_.aQ.length:Int)),(10,iV g1)],[],0⟩) <|fun self1 g1 hm=>si hm (fun _ hm=>sn hm fun _ hm=>si hm (fun _ hm=>by cases hm;exact re) fun _ hm=>sn hm fun _ hm=>le hm) fun _ hm=>by cases hm;exact re
theorem mM {l_:(List aj)} {r_:bE} {k_:Int} {r:Int} (hm:lS l_ r_ k_ r):S 124 [aL l_,IU r_,iV k_] [] (iV r) [] :=sp Tryz.func124 rfl<|sn hm fun _ hm=>sn hm fun _ hm=>sn hm fun _ hm=>by cases hm;exact re
theorem Jz {l_:(List aj)} {d_:(List aI)} {r:(List Int)} (hm:xE l_ d_ r):S 152 [aL l_,dZ d_] [] (aD r) [] :=sp Tryz.func152 rfl<|sn hm fun _ hm=>sn hm fun _ hm=>lf hm (fun g1=>⟨[(0,aL l_),(1,dZ d_),(5,.cu 0 0 g1.2.length false),(6,iV g1.1)],[(0,some (.row 1 g1.2.length (bB iV 0 g1.2)))],1⟩) [(0,some 24)] [] <|fun self1 g1 hm=>si hm (fun _ hm=>l0 hm (fun g4=>⟨[(0,aL l_),(1,dZ d_),(5,.cu 0 0 g4.2.length false),(6,iV g1.1),(20,dZ d_),(21,iV (d_.length:Int)),(22,iV g4.1)],[(0,some (.row 1 g4.2.length (bB iV 0 g4.2)))],1⟩) <|fun self4 g4 hm=>si hm (fun _ hm=>sn hm fun _ hm=>si hm (fun _ hm=>sn hm fun _ hm=>sn hm fun _ hm=>sn hm fun _ hm=>sn hm fun _ hm=>le hm) fun _ hm=>sn hm fun _ hm=>le hm) fun _ hm=>sn hm fun _ hm=>si hm (fun _ hm=>sn hm fun _ hm=>sn hm fun _ hm=>sn hm fun _ hm=>sn hm fun _ hm=>sn hm fun _ hm=>le hm) fun _ hm=>sn hm fun _ hm=>le hm) fun _ hm=>by cases hm;exact rt [0] []
theorem JA {l_:(List aj)} {r_:bE} {d_:(List aI)} {r:Bool} (hm:xG l_ r_ d_ r):S 117 [aL l_,IU r_,dZ d_] [] (.bool r) [] :=sp Tryz.func117 rfl<|sb hm fun v1 hv1 hm=>cl (BI hv1)<|sb hm fun v2 hv2 hm=>cl (Jz hv2)<|l0 hm (fun g1=>⟨[(0,aL l_),(2,dZ d_),(4,.ptr 0 0 0),(7,bf v1),(8,aD v2),(19,aL l_),(20,iV (l_.length:Int)),(21,iV g1)],[(0,some (.box [bf r_.On,aD r_.Level]))],1⟩) <|fun self1 g1 hm=>si hm (fun _ hm=>sn hm fun _ hm=>sn hm fun _ hm=>sn hm fun _ hm=>si hm (fun _ hm=>by cases hm;exact re) fun _ hm=>sn hm fun _ hm=>si hm (fun _ hm=>sn hm fun _ hm=>le hm) fun _ hm=>sn hm fun _ hm=>sn hm fun _ hm=>sb hm fun v7 hv7 hm=>cl (fun q0 q1 q2=>(mM (hv7 q0 q1 q2)))<|sb hm fun v8 hv8 hm=>cl (fun q0 q1 q2=>(mM (hv8 q0 q1 q2)))<|sn hm fun _ hm=>si hm (fun _ hm=>by cases hm;exact re) fun _ hm=>sn hm fun _ hm=>le hm) fun _ hm=>l0 hm (fun g2=>⟨[(0,aL l_),(4,.ptr 0 0 0),(81,dZ d_),(82,iV (d_.length:Int)),(83,iV g2)],[(0,some (.box [bf r_.On,aD r_.Level]))],1⟩) <|fun self2 g2 hm=>si hm (fun _ hm=>sn hm fun _ hm=>sb hm fun v13 hv13 hm=>cl (mM hv13)<|sb hm fun v14 hv14 hm=>cl (iX hv14)<|si hm (fun _ hm=>by cases hm;exact re) fun _ hm=>sn hm fun _ hm=>le hm) fun _ hm=>by cases hm;exact re
theorem JB {l_:(List aj)} {d_:(List aI)} {r:(bE×Int)} (hm:xH l_ d_ r):S 73 [aL l_,dZ d_] [] (.jJ [IU r.1,iV r.2]) [] :=RY [17] Tryz.func73 rfl<|sb hm fun v1 hv1 hm=>cl (Jw hv1)<|si hm (fun _ hm=>by cases hm;exact re) fun _ hm=>sb hm fun v2 hv2 hm=>cl (BI hv2)<|sn hm fun _ hm=>sn hm fun _ hm=>MP [17] hm (fun g1=>⟨[(0,aL l_),(1,dZ d_),(4,.ptr 0 0 0),(7,bf v2),(8,.ptr 1 0 0),(9,.cu 2 0 g1.2.1.length false),(32,dZ d_),(33,iV (d_.length:Int)),(34,iV g1.1)],[(0,some (.box [.sl 0 0 true dI,.sl 0 0 true dI])),(1,some (.box [bf v2,.cu 3 0 g1.2.2.length false])),(2,some (.row 1 g1.2.1.length (bB iV 0 g1.2.1))),(3,some (.row 1 g1.2.2.length (bB iV 0 g1.2.2)))],4⟩) [(1,some 136),(2,some 168),(3,some 120)] [] <|fun self1 g1 hm=>si hm (fun _ hm=>sn hm fun _ hm=>sn hm fun _ hm=>sn hm fun _ hm=>sn hm fun _ hm=>le hm) fun _ hm=>sn hm fun _ hm=>MP [17] hm (fun g2=>⟨[(0,aL l_),(1,dZ d_),(4,.ptr 0 0 0),(7,bf v2),(8,.ptr 1 0 0),(9,.cu 2 0 g2.2.1.length false),(12,iV g2.1)],[(0,some (.box [.sl 0 0 true dI,.sl 0 0 true dI])),(1,some (.box [bf v2,.cu 3 0 g2.2.2.length false])),(2,some (.row 1 g2.2.1.length (bB iV 0 g2.2.1))),(3,some (.row 1 g2.2.2.length (bB iV 0 g2.2.2)))],4⟩) [] [] <|fun self2 g2 hm=>si hm (fun _ hm=>sn hm fun _ hm=>si hm (fun _ hm=>sn hm fun _ hm=>le hm) fun _ hm=>ck [17] (tN l_ v2 g2 self2) r (fun g5=>⟨[(0,aL l_),(1,dZ d_),(4,.ptr 0 0 0),(7,bf v2),(8,.ptr 1 0 0),(9,.cu 2 0 g2.2.1.length false),(12,iV g2.1)],[(0,some (.box [.sl 0 0 true dI,.sl 0 0 true dI])),(1,some (.box [bf v2,.cu 3 0 g5.length false])),(2,some (.row 1 g2.2.1.length (bB iV 0 g2.2.1))),(3,some (.row 1 g5.length (bB iV 0 g5)))],4⟩) (sn hm fun _ hm=>sn hm fun _ hm=>sb hm fun v11 hv11 hm=>cl (Jy hv11)<|sn hm fun _ hm=>le hm) fun g5 hm=>sn hm fun _ hm=>si hm (fun _ hm=>by cases hm;exact re) fun _ hm=>sn hm fun _ hm=>si hm (fun _ hm=>sn hm fun _ hm=>sb hm fun v10 hv10 hm=>cl (mM hv10)<|sn hm fun _ hm=>sn hm fun _ hm=>sn hm fun _ hm=>sn hm fun _ hm=>le hm) fun _ hm=>sn hm fun _ hm=>le hm) fun _ hm=>sb hm fun v12 hv12 hm=>cl (JA hv12)<|si hm (fun _ hm=>by cases hm;exact re) fun _ hm=>by cases hm;exact rt [3] []
end Go.Proofs.YtfblhejmclcdmaaGreatDoor


namespace Go.Proofs.YtfblhejmclcdmaaGreatDoor
open Go.Ab
set_option maxRecDepth 100000
set_option maxHeartbeats 20000000
theorem uD {s_:ByteArray} {r:Bool} (hm:lT s_ r):S 109 [.str s_] [] (.bool r) [] :=sp Tryz.func109 rfl<|sn hm fun _ hm=>sn hm fun _ hm=>si hm (fun _ hm=>by cases hm;exact re) fun _ hm=>l0 hm (fun g1=>⟨[(0,.str s_),(3,iV g1)],[],0⟩) <|fun self1 g1 hm=>si hm (fun _ hm=>sn hm fun _ hm=>sn hm fun _ hm=>sn hm fun _ hm=>sn hm fun _ hm=>sn hm fun _ hm=>si hm (fun _ hm=>by cases hm;exact re) fun _ hm=>sn hm fun _ hm=>le hm) fun _ hm=>by cases hm;exact re
theorem JC {p_:aR} {i_:Int} {r:Int} (hm:oI p_ i_ r):S 81 [kU p_,iV i_] [] (iV r) [] :=sp Tryz.func81 rfl<|sn hm fun _ hm=>sb hm fun v1 hv1 hm=>cl (uD hv1)<|si hm (fun _ hm=>by cases hm;exact re) fun _ hm=>lf hm (fun g1=>⟨[(1,iV i_),(2,.ptr 0 0 0),(5,.ptr 1 0 0),(6,iV g1)],[(0,some (.box [iV p_.bI,aX p_.Groups])),(1,some (.box [.str ((p_.Groups.getD i_.toNat au).Name),aD ((p_.Groups.getD i_.toNat au).bI),fM ((p_.Groups.getD i_.toNat au).Functions)]))],2⟩) [(1,some 56)] [] <|fun self1 g1 hm=>si hm (fun _ hm=>sn hm fun _ hm=>si hm (fun _ hm=>by cases hm;exact re) fun _ hm=>sn hm fun _ hm=>le hm) fun _ hm=>si hm (fun _ hm=>by cases hm;exact re) fun _ hm=>si hm (fun _ hm=>by cases hm;exact re) fun _ hm=>l0 hm (fun g2=>⟨[(2,.ptr 0 0 0),(5,.ptr 1 0 0),(7,iV g2)],[(0,some (.box [iV p_.bI,aX p_.Groups])),(1,some (.box [.str ((p_.Groups.getD i_.toNat au).Name),aD ((p_.Groups.getD i_.toNat au).bI),fM ((p_.Groups.getD i_.toNat au).Functions)]))],2⟩) <|fun self2 g2 hm=>si hm (fun _ hm=>sn hm fun _ hm=>sn hm fun _ hm=>si hm (fun _ hm=>by cases hm;exact re) fun _ hm=>sn hm fun _ hm=>le hm) fun _ hm=>lf hm (fun g3=>⟨[(5,.ptr 0 0 0),(8,iV g3)],[(0,some (.box [.str ((p_.Groups.getD i_.toNat au).Name),aD ((p_.Groups.getD i_.toNat au).bI),fM ((p_.Groups.getD i_.toNat au).Functions)]))],1⟩) [(0,some 1)] [] <|fun self3 g3 hm=>si hm (fun _ hm=>sn hm fun _ hm=>sn hm fun _ hm=>sn hm fun _ hm=>si hm (fun _ hm=>by cases hm;exact re) fun _ hm=>sn hm fun _ hm=>le hm) fun _ hm=>l0 hm (fun g4=>⟨[(5,.ptr 0 0 0),(9,iV g4)],[(0,some (.box [.str ((p_.Groups.getD i_.toNat au).Name),aD ((p_.Groups.getD i_.toNat au).bI),fM ((p_.Groups.getD i_.toNat au).Functions)]))],1⟩) <|fun self4 g4 hm=>si hm (fun _ hm=>sn hm fun _ hm=>sb hm fun v4 hv4 hm=>cl (uD hv4)<|si hm (fun _ hm=>by cases hm;exact re) fun _ hm=>sn hm fun _ hm=>le hm) fun _ hm=>l0 hm (fun g5=>⟨[(5,.ptr 0 0 0),(10,iV g5)],[(0,some (.box [.str ((p_.Groups.getD i_.toNat au).Name),aD ((p_.Groups.getD i_.toNat au).bI),fM ((p_.Groups.getD i_.toNat au).Functions)]))],1⟩) <|fun self5 g5 hm=>si hm (fun _ hm=>l0 hm (fun g8=>⟨[(5,.ptr 0 0 0),(10,iV g5),(11,iV g8)],[(0,some (.box [.str ((p_.Groups.getD i_.toNat au).Name),aD ((p_.Groups.getD i_.toNat au).bI),fM ((p_.Groups.getD i_.toNat au).Functions)]))],1⟩) <|fun self8 g8 hm=>si hm (fun _ hm=>sn hm fun _ hm=>sn hm fun _ hm=>si hm (fun _ hm=>by cases hm;exact re) fun _ hm=>sn hm fun _ hm=>le hm) fun _ hm=>sn hm fun _ hm=>le hm) fun _ hm=>by cases hm;exact re
theorem zH {p_:aR} {r:Int} (hm:lU p_ r):S 30 [kU p_] [] (iV r) [] :=sp Tryz.func30 rfl<|si hm (fun _ hm=>by cases hm;exact re) fun _ hm=>si hm (fun _ hm=>by cases hm;exact re) fun _ hm=>l0 hm (fun g1=>⟨[(1,.ptr 0 0 0),(3,iV g1)],[(0,some (.box [iV p_.bI,aX p_.Groups]))],1⟩) <|fun self1 g1 hm=>si hm (fun _ hm=>sb hm fun v3 hv3 hm=>cl (JC hv3)<|si hm (fun _ hm=>by cases hm;exact re) fun _ hm=>sn hm fun _ hm=>le hm) fun _ hm=>by cases hm;exact re
theorem JD {p_:aR} {l_:(List ByteArray)} {r:Bool} (hm:xI p_ l_ r):S 155 [kU p_,fM l_] [] (.bool r) [] :=sp Tryz.func155 rfl<|sb hm fun v1 hv1 hm=>cl (zH hv1)<|si hm (fun _ hm=>by cases hm;exact re) fun _ hm=>l0 hm (fun g1=>⟨[(1,fM l_),(5,iV g1)],[],0⟩) <|fun self1 g1 hm=>si hm (fun _ hm=>sn hm fun _ hm=>sb hm fun v4 hv4 hm=>cl (uD hv4)<|si hm (fun _ hm=>by cases hm;exact re) fun _ hm=>sn hm fun _ hm=>le hm) fun _ hm=>by cases hm;exact re
theorem yB {g_:aV} {function_:ByteArray} {r:Int} (hm:sN g_ function_ r):S 77 [jS g_,.str function_] [] (iV r) [] :=sp Tryz.func77 rfl<|l0 hm (fun g1=>⟨[(1,.str function_),(2,.ptr 0 0 0),(5,iV g1)],[(0,some (.box [.str g_.Name,aD g_.bI,fM g_.Functions]))],1⟩) <|fun self1 g1 hm=>si hm (fun _ hm=>sn hm fun _ hm=>si hm (fun _ hm=>by cases hm;exact re) fun _ hm=>sn hm fun _ hm=>le hm) fun _ hm=>by cases hm;exact re
theorem JE {a_:(List Int)} {b_:(List Int)} {r:Bool} (hm:oJ a_ b_ r):S 180 [aD a_,aD b_] [] (.bool r) [] :=sp Tryz.func180 rfl<|l0 hm (fun g1=>⟨[(0,aD a_),(1,aD b_),(5,iV g1.1),(6,iV g1.2)],[],0⟩) <|fun self1 g1 hm=>si hm (fun _ hm=>sn hm fun _ hm=>sn hm fun _ hm=>si hm (fun _ hm=>by cases hm;exact re) fun _ hm=>sn hm fun _ hm=>sn hm fun _ hm=>si hm (fun _ hm=>sn hm fun _ hm=>le hm) fun _ hm=>sn hm fun _ hm=>le hm) fun _ hm=>by cases hm;exact re
theorem BJ {p_:aR} {groups_:(List Int)} {g_:Int} {r:Bool} (hm:nX p_ groups_ g_ r):S 158 [kU p_,aD groups_,iV g_] [] (.bool r) [] :=sp Tryz.func158 rfl<|l0 hm (fun g1=>⟨[(1,aD groups_),(2,iV g_),(3,.ptr 0 0 0),(7,iV g1)],[(0,some (.box [iV p_.bI,aX p_.Groups]))],1⟩) <|fun self1 g1 hm=>si hm (fun _ hm=>sn hm fun _ hm=>sn hm fun _ hm=>sn hm fun _ hm=>sn hm fun _ hm=>sb hm fun v3 hv3 hm=>cl (fun q0=>(JE (hv3 q0)))<|si hm (fun _ hm=>by cases hm;exact re) fun _ hm=>sn hm fun _ hm=>le hm) fun _ hm=>by cases hm;exact re
theorem KG {p_:aR} {l_:(List ByteArray)} {groups_:(List Int)} {r:Bool} (hm:Af p_ l_ groups_ r):S 156 [kU p_,fM l_,aD groups_] [] (.bool r) [] :=sp Tryz.func156 rfl<|si hm (fun _ hm=>by cases hm;exact re) fun _ hm=>l0 hm (fun g1=>⟨[(1,fM l_),(2,aD groups_),(3,.ptr 0 0 0),(7,iV g1)],[(0,some (.box [iV p_.bI,aX p_.Groups]))],1⟩) <|fun self1 g1 hm=>si hm (fun _ hm=>sn hm fun _ hm=>sn hm fun _ hm=>sn hm fun _ hm=>sb hm fun v5 hv5 hm=>cl (fun q0=>(yB (hv5 q0)))<|sn hm fun _ hm=>sb hm fun v6 hv6 hm=>cl (fun q0=>((BJ (hv6 q0)).le ⟨.refl _,(.sl oz (fun _=>rfl) nofun (le_rtake (f:=iV) (d:=0) (by first | omega | (simp; omega)))),.refl _,trivial⟩ trivial))<|si hm (fun _ hm=>by cases hm;exact re) fun _ hm=>sn hm fun _ hm=>le hm) fun _ hm=>by cases hm;exact re
theorem MX {p_:aR} {l_:(List ByteArray)} {given_:(List Int)} {r:Int} (hm:Ev p_ l_ given_ r):S 125 [kU p_,fM l_,aD given_] [] (iV r) [] :=sp Tryz.func125 rfl<|sb hm fun v1 hv1 hm=>cl (JD hv1)<|si hm (fun _ hm=>by cases hm;exact re) fun _ hm=>sb hm fun v2 hv2 hm=>cl (KG hv2)<|si hm (fun _ hm=>by cases hm;exact re) fun _ hm=>by cases hm;exact re
theorem Ik {p_:aR} {function_:ByteArray} {r:(List Int)} (hm:mD p_ function_ r):S 157 [kU p_,.str function_] [] (aD r) [] :=sp Tryz.func157 rfl<|lf hm (fun g1=>⟨[(1,.str function_),(2,.ptr 0 0 0),(5,.cu 1 0 g1.2.length false),(9,iV (p_.Groups.length:Int)),(10,iV g1.1)],[(0,some (.box [iV p_.bI,aX p_.Groups])),(1,some (.row 1 g1.2.length (bB iV 0 g1.2)))],2⟩) [(1,none)] [] <|fun self1 g1 hm=>si hm (fun _ hm=>sn hm fun _ hm=>sb hm fun v3 hv3 hm=>cl (yB hv3)<|si hm (fun _ hm=>sn hm fun _ hm=>sn hm fun _ hm=>lc [(1,some 114)] [] hm) fun _ hm=>sn hm fun _ hm=>le hm) fun _ hm=>by cases hm;exact rt [1] []
theorem KH:∀(n:Nat) (a0_:(aR×(List ByteArray)×(List Int))) (r:((List Int)×Bool)),Zq jg n a0_ r→S 126 [kU a0_.1,fM a0_.2.1,aD a0_.2.2] [] (.jJ [aD r.1,.bool r.2]) [] :=by
 intro n
 induction n with
 | zero=>intro a0_ r hm; exact hm.elim
 | succ n ih=>
   intro a0_ r hm
   have hm:jg (Zq jg n) a0_ r:=hm
   generalize Zq jg n=self0_ at hm ih
   refine qL (ct:=[]) gV Tryz.func126 rfl rfl (Nat.le_of_ble_eq_true rfl) dk (Nat.le_of_ble_eq_true rfl) ?_
   (conv=>whnf)
   refine cK hm (fun c1 hm=>?_) (fun c1 hm=>?_)
   · (conv=>whnf)
     refine aK hm fun h1 hm=>?_
     (conv=>whnf)
     have hm:r=(a0_.2.2,true):=hm
     subst hm
     refine ⟨[72],[],?_⟩
     (conv=>whnf)
     exact ⟨⟨rfl,trivial,trivial⟩,(by (conv=>whnf); exact ⟨(by (conv=>whnf); exact sf),(by (conv=>whnf); exact ⟨(by first | ((conv=>whnf); exact rfl) | exact rfl),trivial⟩)⟩)⟩
   · (conv=>whnf)
     refine aK hm fun h2 hm=>?_
     (conv=>whnf)
     refine bR hm fun v1 hv1 hm=>?_
     refine ⟨_,_,(Ik hv1),?_⟩
     (conv=>whnf)
     refine yQ (ct:=[]) gV dk hm (fun g1=>⟨[(1,fM a0_.2.1),(2,aD a0_.2.2),(3,.ptr 0 0 0),(8,aD v1),(9,iV g1)],[(0,some (.box [iV a0_.1.bI,aX a0_.1.Groups]))],1⟩) [] [] ⟨rfl,⟨sr,sr,r4,sr,r2,trivial⟩,⟨⟨r2,sr,trivial⟩,trivial⟩⟩ ?_
     intro self1 g1 hm
     (conv=>whnf)
     refine cK hm (fun c8 hm=>?_) (fun c8 hm=>?_)
     · (conv=>whnf)
       refine aK hm fun h15 hm=>?_
       (conv=>whnf)
       refine bR hm fun v6 hv6 hm=>?_
       refine ⟨_,_,(BJ hv6),?_⟩
       (conv=>whnf)
       refine cK hm (fun c9 hm=>?_) (fun c9 hm=>?_)
       · (conv=>whnf)
         refine aK hm fun h16 hm=>?_
         (conv=>whnf)
         exact ⟨(g1+(1:Int)),[],[],hm,⟨rfl,⟨sr,sr,r4,sr,r2,trivial⟩,⟨⟨r2,sr,trivial⟩,trivial⟩⟩⟩
       · (conv=>whnf)
         refine aK hm fun h17 hm=>?_
         (conv=>whnf)
         refine aK hm fun h18 hm=>?_
         (conv=>whnf)
         refine aK hm fun h19 hm=>?_
         (conv=>whnf)
         refine bR hm fun v7 hv7 hm=>?_
         refine ⟨_,_,((ih _ _ hv7).le ⟨.refl _,.refl _,(.sl oz (fun _=>rfl) nofun (le_appG rfl (fun _ _=>.refl _) rfl (le_litG iV 0 [(v1.getD g1.toNat 0)]))),trivial⟩ trivial),?_⟩
         (conv=>whnf)
         refine cK hm (fun c10 hm=>?_) (fun c10 hm=>?_)
         · (conv=>whnf)
           have hm:r=(v7.1,true):=hm
           subst hm
           refine ⟨[],[],?_⟩
           (conv=>whnf)
           exact ⟨⟨rfl,trivial,trivial⟩,⟨sf,rfl,trivial⟩⟩
         · (conv=>whnf)
           refine aK hm fun h20 hm=>?_
           (conv=>whnf)
           exact ⟨(g1+(1:Int)),[],[],hm,⟨rfl,⟨sr,sr,r4,sr,r2,trivial⟩,⟨⟨r2,sr,trivial⟩,trivial⟩⟩⟩
     · (conv=>whnf)
       have hm:r=(([]:List Int),false):=hm
       subst hm
       refine ⟨[],[],?_⟩
       (conv=>whnf)
       exact ⟨⟨rfl,trivial,trivial⟩,⟨⟨rfl,(fun h=>absurd rfl h),nofun,(fun _ h=>absurd h (Nat.not_lt_zero _))⟩,rfl,trivial⟩⟩
theorem Il {p_:aR} {l_:(List ByteArray)} {groups_:(List Int)} {r:((List Int)×Bool)} (hm:mE p_ l_ groups_ r):S 126 [kU p_,fM l_,aD groups_] [] (.jJ [aD r.1,.bool r.2]) [] :=by
 obtain ⟨n,hm⟩:=hm
 exact KH n (p_,l_,groups_) r hm
theorem Im {p_:aR} {l_:(List ByteArray)} {given_:(List Int)} {r:((List Int)×Int)} (hm:mF p_ l_ given_ r):S 74 [kU p_,fM l_,aD given_] [] (.jJ [aD r.1,iV r.2]) [] :=sp Tryz.func74 rfl<|sb hm fun v1 hv1 hm=>cl (MX hv1)<|si hm (fun _ hm=>by cases hm;exact re) fun _ hm=>sb hm fun v2 hv2 hm=>cl (Il hv2)<|si hm (fun _ hm=>by cases hm;exact re) fun _ hm=>by cases hm;exact re
theorem zI {l_:(List bV)} {r:Int} (hm:lV l_ r):S 31 [bQ l_] [] (iV r) [] :=sp Tryz.func31 rfl<|si hm (fun _ hm=>by cases hm;exact re) fun _ hm=>l0 hm (fun g1=>⟨[(0,bQ l_),(3,iV g1)],[],0⟩) <|fun self1 g1 hm=>si hm (fun _ hm=>l0 hm (fun g6=>⟨[(0,bQ l_),(3,iV g1),(4,iV g6)],[],0⟩) <|fun self6 g6 hm=>sn hm fun _ hm=>si hm (fun _ hm=>sn hm fun _ hm=>sn hm fun _ hm=>sn hm fun _ hm=>sn hm fun _ hm=>si hm (fun _ hm=>by cases hm;exact re) fun _ hm=>sn hm fun _ hm=>le hm) fun _ hm=>l0 hm (fun g7=>⟨[(0,bQ l_),(3,iV g1),(5,iV g7)],[],0⟩) <|fun self7 g7 hm=>sn hm fun _ hm=>si hm (fun _ hm=>sn hm fun _ hm=>sn hm fun _ hm=>sn hm fun _ hm=>sn hm fun _ hm=>sn hm fun _ hm=>si hm (fun _ hm=>by cases hm;exact re) fun _ hm=>sn hm fun _ hm=>le hm) fun _ hm=>sn hm fun _ hm=>le hm) fun _ hm=>by cases hm;exact re
theorem Io {l_:(List bV)} {lines_:(List Int)} {r:((List Bool)×Int)} (hm:mG l_ lines_ r):S 75 [bQ l_,aD lines_] [] (.jJ [bf r.1,iV r.2]) [] :=sp Tryz.func75 rfl<|sb hm fun v1 hv1 hm=>cl (zI hv1)<|si hm (fun _ hm=>by cases hm;exact re) fun _ hm=>sn hm fun _ hm=>lf hm (fun g1=>⟨[(0,bQ l_),(1,aD lines_),(6,.cu 0 0 g1.2.length false),(7,iV g1.1)],[(0,some (.row 1 g1.2.length (bB AV.bool false g1.2)))],1⟩) [(0,some 56)] [] <|fun self1 g1 hm=>si hm (fun _ hm=>sn hm fun _ hm=>sn hm fun _ hm=>si hm (fun _ hm=>by cases hm;exact re) fun _ hm=>sn hm fun _ hm=>sn hm fun _ hm=>sn hm fun _ hm=>le hm) fun _ hm=>sn hm fun _ hm=>l0 hm (fun g2=>⟨[(0,bQ l_),(6,.cu 0 0 g2.2.length false),(8,iV g2.1)],[(0,some (.row 1 g2.2.length (bB AV.bool false g2.2)))],1⟩) <|fun self2 g2 hm=>si hm (fun _ hm=>l0 hm (fun g5=>⟨[(0,bQ l_),(6,.cu 0 0 g5.2.length false),(8,iV g2.1),(9,iV g5.1)],[(0,some (.row 1 g5.2.length (bB AV.bool false g5.2)))],1⟩) <|fun self5 g5 hm=>sn hm fun _ hm=>sn hm fun _ hm=>si hm (fun _ hm=>sn hm fun _ hm=>sn hm fun _ hm=>sn hm fun _ hm=>sn hm fun _ hm=>le hm) fun _ hm=>sn hm fun _ hm=>le hm) fun _ hm=>by cases hm;exact rt [0] []
theorem zJ {l_:(List bH)} {r:Int} (hm:sO l_ r):S 32 [bL l_] [] (iV r) [] :=sp Tryz.func32 rfl<|si hm (fun _ hm=>by cases hm;exact re) fun _ hm=>l0 hm (fun g1=>⟨[(0,bL l_),(3,iV g1)],[],0⟩) <|fun self1 g1 hm=>si hm (fun _ hm=>sn hm fun _ hm=>sn hm fun _ hm=>si hm (fun _ hm=>by cases hm;exact re) fun _ hm=>sn hm fun _ hm=>le hm) fun _ hm=>by cases hm;exact re
theorem MZ {l_:(List bH)} {users_:(List Int)} {r:Int} (hm:Ew l_ users_ r):S 127 [bL l_,aD users_] [] (iV r) [] :=sp Tryz.func127 rfl<|sb hm fun v1 hv1 hm=>cl (zJ hv1)<|si hm (fun _ hm=>by cases hm;exact re) fun _ hm=>l0 hm (fun g1=>⟨[(0,bL l_),(1,aD users_),(5,iV g1)],[],0⟩) <|fun self1 g1 hm=>si hm (fun _ hm=>sn hm fun _ hm=>sn hm fun _ hm=>si hm (fun _ hm=>by cases hm;exact re) fun _ hm=>sn hm fun _ hm=>le hm) fun _ hm=>by cases hm;exact re
theorem NM {l_:(List bH)} {users_:(List Int)} {r:((List Bool)×Int)} (hm:zh l_ users_ r):S 76 [bL l_,aD users_] [] (.jJ [bf r.1,iV r.2]) [] :=RY [13] Tryz.func76 rfl<|sb hm fun v1 hv1 hm=>cl (MZ hv1)<|si hm (fun _ hm=>by cases hm;exact re) fun _ hm=>sn hm fun _ hm=>MP [13] hm (fun g1=>⟨[(0,bL l_),(1,aD users_),(7,.cu 0 0 g1.2.length false),(8,iV g1.1)],[(0,some (.row 1 g1.2.length (bB AV.bool false g1.2)))],1⟩) [(0,some 80)] [] <|fun self1 g1 hm=>si hm (fun _ hm=>sn hm fun _ hm=>sn hm fun _ hm=>sn hm fun _ hm=>le hm) fun _ hm=>sn hm fun _ hm=>MP [13] hm (fun g2=>⟨[(0,bL l_),(7,.cu 0 0 g2.2.length false),(9,iV g2.1)],[(0,some (.row 1 g2.2.length (bB AV.bool false g2.2)))],1⟩) [] [] <|fun self2 g2 hm=>si hm (fun _ hm=>ck [13] (vo l_ g2 self2) r (fun g5=>⟨[(0,bL l_),(7,.cu 0 0 g5.length false),(9,iV g2.1)],[(0,some (.row 1 g5.length (bB AV.bool false g5)))],1⟩) (sn hm fun _ hm=>sn hm fun _ hm=>sn hm fun _ hm=>le hm) fun g5 hm=>sn hm fun _ hm=>sn hm fun _ hm=>si hm (fun _ hm=>sn hm fun _ hm=>sn hm fun _ hm=>sn hm fun _ hm=>le hm) fun _ hm=>sn hm fun _ hm=>le hm) fun _ hm=>by cases hm;exact rt [0] []
theorem wL {b_:bF} {l_:(List aO)} {m_:(List Int)} {r:(bX×Bool)} (hm:iW b_ l_ m_ r):S 27 [qM b_,eF l_,aD m_] [] (.jJ [IV r.1,.bool r.2]) [] :=RY [11,18] Tryz.func27 rfl<|MP [11,18] hm (fun g1=>⟨[(1,eF l_),(3,.ptr 0 0 0),(6,.ptr 1 0 0),(8,.cu 2 0 g1.2.1.length false),(9,.cu 3 0 g1.2.2.1.length false),(10,.cu 4 0 g1.2.2.2.1.length false),(11,.cu 5 0 g1.2.2.2.2.1.length false),(12,.cu 6 0 g1.2.2.2.2.2.1.length false),(13,.cu 7 0 g1.2.2.2.2.2.2.length false),(28,aD m_),(29,iV (m_.length:Int)),(30,iV g1.1)],[(0,some (.box [aS b_.bO,aL b_.bC,iV b_.bD.bI,aX b_.bD.Groups,bQ b_.Resets,bL b_.bS])),(1,some (.box [.sl 0 0 true dI,.sl 0 0 true dI,.sl 0 0 true dI,.sl 0 0 true dI,.sl 0 0 true dI,.sl 0 0 true dI])),(2,some (.row 3 g1.2.1.length (bB tC cB g1.2.1))),(3,some (.row 4 g1.2.2.1.length (bB AY bK g1.2.2.1))),(4,some (.row 1 g1.2.2.2.1.length (bB AV.str ByteArray.empty g1.2.2.2.1))),(5,some (.row 1 g1.2.2.2.2.1.length (bB iV 0 g1.2.2.2.2.1))),(6,some (.row 1 g1.2.2.2.2.2.1.length (bB iV 0 g1.2.2.2.2.2.1))),(7,some (.row 1 g1.2.2.2.2.2.2.length (bB iV 0 g1.2.2.2.2.2.2)))],8⟩) [(1,some 8),(2,none),(3,none),(4,none),(5,none),(6,none),(7,none)] [] <|fun self1 g1 hm=>si hm (fun _ hm=>sn hm fun _ hm=>sn hm fun _ hm=>sn hm fun _ hm=>sn hm fun _ hm=>sn hm fun _ hm=>sn hm fun _ hm=>sn hm fun _ hm=>sn hm fun _ hm=>sn hm fun _ hm=>ck [11,18] (gF l_ m_ g1 self1) r (fun g6=>⟨[(1,eF l_),(3,.ptr 0 0 0),(6,.ptr 1 0 0),(8,.cu 2 0 g6.1.length false),(9,.cu 3 0 g6.2.1.length false),(10,.cu 4 0 g6.2.2.1.length false),(11,.cu 5 0 g6.2.2.2.1.length false),(12,.cu 6 0 g6.2.2.2.2.length false),(13,.cu 7 0 g1.2.2.2.2.2.2.length false),(15,iV (m_.getD g1.1.toNat 0)),(28,aD m_),(29,iV (m_.length:Int)),(30,iV g1.1)],[(0,some (.box [aS b_.bO,aL b_.bC,iV b_.bD.bI,aX b_.bD.Groups,bQ b_.Resets,bL b_.bS])),(1,some (.box [.sl 0 0 true dI,.sl 0 0 true dI,.sl 0 0 true dI,.sl 0 0 true dI,.sl 0 0 true dI,.sl 0 0 true dI])),(2,some (.row 3 g6.1.length (bB tC cB g6.1))),(3,some (.row 4 g6.2.1.length (bB AY bK g6.2.1))),(4,some (.row 1 g6.2.2.1.length (bB AV.str ByteArray.empty g6.2.2.1))),(5,some (.row 1 g6.2.2.2.1.length (bB iV 0 g6.2.2.2.1))),(6,some (.row 1 g6.2.2.2.2.length (bB iV 0 g6.2.2.2.2))),(7,some (.row 1 g1.2.2.2.2.2.2.length (bB iV 0 g1.2.2.2.2.2.2)))],8⟩) (sn hm fun _ hm=>si hm (fun _ hm=>sn hm fun _ hm=>sn hm fun _ hm=>lc [(2,some 88),(3,some 144),(4,some 200),(5,some 256),(6,some 400)] [] hm) fun _ hm=>lc [(2,some 88),(3,some 144),(4,some 200),(5,some 256)] [] hm) fun g6 hm=>sn hm fun _ hm=>MP [11,18] hm (fun g7=>⟨[(1,eF l_),(3,.ptr 0 0 0),(6,.ptr 1 0 0),(8,.cu 2 0 g6.1.length false),(9,.cu 3 0 g6.2.1.length false),(10,.cu 4 0 g6.2.2.1.length false),(11,.cu 5 0 g6.2.2.2.1.length false),(12,.cu 6 0 g6.2.2.2.2.length false),(13,.cu 7 0 g7.2.length false),(15,iV (m_.getD g1.1.toNat 0)),(28,aD m_),(29,iV (m_.length:Int)),(30,iV g1.1),(81,iV ((((l_.getD ((m_.getD g1.1.toNat 0).toNat) aY).Functions).length:Nat):Int)),(82,iV g7.1)],[(0,some (.box [aS b_.bO,aL b_.bC,iV b_.bD.bI,aX b_.bD.Groups,bQ b_.Resets,bL b_.bS])),(1,some (.box [.sl 0 0 true dI,.sl 0 0 true dI,.sl 0 0 true dI,.sl 0 0 true dI,.sl 0 0 true dI,.sl 0 0 true dI])),(2,some (.row 3 g6.1.length (bB tC cB g6.1))),(3,some (.row 4 g6.2.1.length (bB AY bK g6.2.1))),(4,some (.row 1 g6.2.2.1.length (bB AV.str ByteArray.empty g6.2.2.1))),(5,some (.row 1 g6.2.2.2.1.length (bB iV 0 g6.2.2.2.1))),(6,some (.row 1 g6.2.2.2.2.length (bB iV 0 g6.2.2.2.2))),(7,some (.row 1 g7.2.length (bB iV 0 g7.2)))],8⟩) [] [] <|fun self7 g7 hm=>si hm (fun _ hm=>sn hm fun _ hm=>sn hm fun _ hm=>lc [(7,some 40)] [] hm) fun _ hm=>sn hm fun _ hm=>le hm) fun _ hm=>sb hm fun v1 hv1 hm=>cl (Ju hv1)<|ck [11,18] (lg b_ g1 v1) r (fun g8=>⟨[(3,.ptr 0 0 0),(6,.ptr 1 0 0),(10,fM g8.1),(11,.cu 2 0 g1.2.2.2.2.1.length false),(12,.cu 3 0 g1.2.2.2.2.2.1.length false),(13,.cu 4 0 g1.2.2.2.2.2.2.length false),(16,aD v1.1),(17,iV v1.2),(18,.ptr 5 0 0),(19,iV g8.2.1)],[(0,some (.box [aS b_.bO,aL b_.bC,iV b_.bD.bI,aX b_.bD.Groups,bQ b_.Resets,bL b_.bS])),(1,some (.box [.sl 0 0 true dI,.sl 0 0 true dI,.sl 0 0 true dI,.sl 0 0 true dI,.sl 0 0 true dI,.sl 0 0 true dI])),(2,some (.row 1 g1.2.2.2.2.1.length (bB iV 0 g1.2.2.2.2.1))),(3,some (.row 1 g1.2.2.2.2.2.1.length (bB iV 0 g1.2.2.2.2.2.1))),(4,some (.row 1 g1.2.2.2.2.2.2.length (bB iV 0 g1.2.2.2.2.2.2))),(5,some (.box [bf g8.2.2.1,aD g8.2.2.2]))],6⟩) (sb hm fun v9 hv9 hm=>cl (JB hv9)<|lc [(2,some 5),(3,some 6),(4,some 7),(5,some 144)] [4] hm) fun g8 hm=>sb hm fun v3 hv3 hm=>cl ((Im hv3).le ⟨.refl _,.refl _,(.sl rfl (fun h=>absurd rfl h) nofun (fun _ h=>absurd h (Nat.not_lt_zero _))),trivial⟩ trivial)<|sb hm fun v4 hv4 hm=>cl (Io hv4)<|sb hm fun v5 hv5 hm=>cl (NM hv5)<|si hm (fun _ hm=>by cases hm;exact re) fun _ hm=>MP [11,18] hm (fun g9=>⟨[(3,.ptr 0 0 0),(6,.ptr 1 0 0),(10,fM g8.1),(13,.cu 2 0 g1.2.2.2.2.2.2.length false),(20,aD v3.1),(26,.ptr 3 0 0),(150,iV (v3.1.length:Int)),(151,iV g9.1)],[(0,some (.box [aS b_.bO,aL b_.bC,iV b_.bD.bI,aX b_.bD.Groups,bQ b_.Resets,bL b_.bS])),(1,some (.box [.sl 0 0 true dI,.sl 0 0 true dI,.sl 0 0 true dI,.sl 0 0 true dI,.sl 0 0 true dI,.sl 0 0 true dI])),(2,some (.row 1 g1.2.2.2.2.2.2.length (bB iV 0 g1.2.2.2.2.2.2))),(3,some (.box [aD v1.1,bf g8.2.2.1,aD g8.2.2.2,.cu 4 0 g9.2.length false,bf v4.1,bf v5.1])),(4,some (.row 3 g9.2.length (bB iR bY g9.2)))],5⟩) [(2,some 4),(3,some 406),(4,none)] [] <|fun self9 g9 hm=>si hm (fun _ hm=>sn hm fun _ hm=>sn hm fun _ hm=>sn hm fun _ hm=>sn hm fun _ hm=>sn hm fun _ hm=>sb hm fun v8 hv8 hm=>cl (yB hv8)<|sn hm fun _ hm=>sn hm fun _ hm=>lc [(4,some 245)] [] hm) fun _ hm=>by cases hm;exact rt [4] []
end Go.Proofs.YtfblhejmclcdmaaGreatDoor


namespace Go.Proofs.YtfblhejmclcdmaaGreatDoor
open Go.Ab
set_option maxRecDepth 100000
set_option maxHeartbeats 20000000
theorem JF {o0_:bq} {r:(bF×(List aO)×(List Int)×bX×Bool×bq)} (hm:xJ o0_ r):S 8 [.ptr 0 0 0] [.box [aD o0_.L,iV o0_.At]] (.jJ [qM r.1,eF r.2.1,aD r.2.2.1,IV r.2.2.2.1,.bool r.2.2.2.2.1]) [.box [aD r.2.2.2.2.2.L,iV r.2.2.2.2.2.At]] :=sp Tryz.func8 rfl<|sb hm fun v1 hv1 hm=>cl (D8 hv1)<|sb hm fun v2 hv2 hm=>cl (AB hv2)<|sb hm fun v3 hv3 hm=>cl ((wL hv3).le ⟨.refl _,.refl _,(.sl rfl (fun h=>absurd rfl h) nofun (fun _ h=>absurd h (Nat.not_lt_zero _))),trivial⟩ trivial)<|lf hm (fun g1=>⟨[(0,.ptr 0 0 0),(2,.ptr 1 0 0),(5,.ptr 2 0 0),(7,.ptr 3 0 0),(8,eF v2.1),(9,.ptr 4 0 0),(10,.bool v3.2),(11,.cu 5 0 g1.2.2.2.2.2.2.2.2.2.length false),(27,iV (v2.1.length:Int)),(28,iV g1.1)],[(0,some (.box [aD g1.2.1,iV g1.2.2.1])),(1,some (.box [.sl 0 0 true dI,.sl 0 0 true dI,iV (0:Int),.sl 0 0 true dI,.sl 0 0 true dI,.sl 0 0 true dI])),(2,some (.box [.sl 0 0 true dI,.sl 0 0 true dI,.sl 0 0 true dI,.sl 0 0 true dI,.sl 0 0 true dI,.sl 0 0 true dI])),(3,some (.box [aS v1.1.bO,aL v1.1.bC,iV v1.1.bD.bI,aX v1.1.bD.Groups,bQ v1.1.Resets,bL v1.1.bS])),(4,some (.box [aD g1.2.2.2.1,bf g1.2.2.2.2.1,aD g1.2.2.2.2.2.1,dG g1.2.2.2.2.2.2.1,bf g1.2.2.2.2.2.2.2.1,bf g1.2.2.2.2.2.2.2.2.1])),(5,some (.row 1 g1.2.2.2.2.2.2.2.2.2.length (bB iV 0 g1.2.2.2.2.2.2.2.2.2)))],6⟩) [(2,some 25),(3,some 57),(4,some 153),(5,none)] [] <|fun self1 g1 hm=>si hm (fun _ hm=>sn hm fun _ hm=>sn hm fun _ hm=>sb hm fun v8 hv8 hm=>cl ((wL hv8).le ⟨.refl _,.refl _,(.sl oz (fun _=>rfl) nofun (le_appG rfl (fun _ _=>.refl _) rfl (le_litG iV 0 [g1.1]))),trivial⟩ trivial)<|si hm (fun _ hm=>sb hm fun v9 hv9 hm=>cl (aU hv9)<|si hm (fun _ hm=>sn hm fun _ hm=>sn hm fun _ hm=>lc [(5,some 246)] [] hm) fun _ hm=>sn hm fun _ hm=>le hm) fun c8 hm=>by
 refine ⟨(fun q0=>absurd q0 (J2 c8)),?_⟩
 (conv=>whnf)
 refine aK hm fun h20 hm=>?_
 (conv=>whnf)
 refine aK hm fun h21 hm=>?_
 (conv=>whnf)
 exact ⟨((g1.1+(1:Int)),g1.2.1,g1.2.2.1,g1.2.2.2.1,g1.2.2.2.2.1,g1.2.2.2.2.2.1,g1.2.2.2.2.2.2.1,g1.2.2.2.2.2.2.2.1,g1.2.2.2.2.2.2.2.2.1,g1.2.2.2.2.2.2.2.2.2),[],[],hm,⟨rfl,⟨r4,r4,r4,r4,sr,r4,rfl,⟨rfl,rfl,rfl,rfl,nofun⟩,r2,r2,trivial⟩,⟨⟨sf,r2,trivial⟩,⟨sr,sr,r2,sr,sr,sr,trivial⟩,⟨sr,sr,sr,sr,sr,sr,trivial⟩,⟨sr,sr,r2,sr,sr,sr,trivial⟩,⟨sf,sf,sf,sf,sf,sf,trivial⟩,⟨rfl,rfl,(fun _ _=>.refl _)⟩,trivial⟩⟩⟩) fun _ hm=>by cases hm;exact rt [5] []
theorem JG {b_:bF} {r:Int} (hm:xK b_ r):S 9 [qM b_] [] (iV r) [] :=sp Tryz.func9 rfl<|sb hm fun v1 hv1 hm=>cl (rJ hv1)<|si hm (fun _ hm=>by cases hm;exact re) fun _ hm=>sb hm fun v2 hv2 hm=>cl (rM hv2)<|si hm (fun _ hm=>by cases hm;exact re) fun _ hm=>sb hm fun v3 hv3 hm=>cl (zH hv3)<|si hm (fun _ hm=>by cases hm;exact re) fun _ hm=>sb hm fun v4 hv4 hm=>cl (zI hv4)<|si hm (fun _ hm=>by cases hm;exact re) fun _ hm=>sb hm fun v5 hv5 hm=>cl (zJ hv5)<|by cases hm;exact re
theorem Cb {t_:(List Int)} {gone_:Int} {r:Bool} (hm:qW t_ gone_ r):S 3 [aD t_,.int .u8 gone_] [] (.bool r) [] :=sp Tryz.func3 rfl<|si hm (fun _ hm=>sb hm fun v1 hv1 hm=>cl (nR hv1)<|by cases hm;exact re) fun _ hm=>sb hm fun v2 hv2 hm=>cl (MS hv2)<|sb hm fun v3 hv3 hm=>cl (JF hv3)<|sb hm fun v4 hv4 hm=>cl (fun q0=>(JG (hv4 q0)))<|si hm (fun _ hm=>sb hm fun v5 hv5 hm=>cl (nR hv5)<|by cases hm;exact re) fun _ hm=>sb hm fun v6 hv6 hm=>cl (dh hv6)<|si hm (fun _ hm=>by cases hm;exact re) fun _ hm=>si hm (fun _ hm=>sb hm fun v7 hv7 hm=>cl (dh hv7)<|sb hm fun v8 hv8 hm=>cl (fun q0=>(nR (hv8 q0)))<|by cases hm;exact re) fun _ hm=>sn hm fun _ hm=>sn hm fun _ hm=>sn hm fun _ hm=>sn hm fun _ hm=>sn hm fun _ hm=>sn hm fun _ hm=>sb hm fun v9 hv9 hm=>cl (dh hv9)<|sb hm fun v10 hv10 hm=>cl (fun q0=>((dh (hv10 q0)).le ⟨.refl _,.refl _,(.sl oz (fun _=>rfl) nofun (le_appG oz (le_rtake (f:=iV) (d:=0) (by first | omega | (simp; omega))) oz (IQ (a:=(((IntKind.i64.wrap gone_).tmod (v3.2.2.1.length:Int))+(1:Int)).toNat) (N:=v3.2.2.1.length) (fun _ _=>.refl _) (by first | omega | (simp; omega))))),.refl _,.refl _,trivial⟩ trivial))<|sb hm fun v11 hv11 hm=>cl (fun q0=>((dh (hv11 q0)).le ⟨.refl _,.refl _,(.sl oz (fun _=>rfl) nofun (le_appG oz (le_rtake (f:=iV) (d:=0) (by first | omega | (simp; omega))) oz (IQ (a:=(((IntKind.i64.wrap gone_).tmod (v3.2.2.1.length:Int))+(1:Int)).toNat) (N:=v3.2.2.1.length) (fun _ _=>.refl _) (by first | omega | (simp; omega))))),.refl _,.refl _,trivial⟩ trivial))<|sb hm fun v12 hv12 hm=>cl (fun q0=>(nR (hv12 q0)))<|by cases hm;exact re
end Go.Proofs.YtfblhejmclcdmaaGreatDoor



namespace Go.Proofs.YtfblhejmclcdmaaGreatDoor.rulesFewer
open Go.ChangeShapes Go.WideShapes Go.ChangeAt Go.RowKit
open Go.Ab
set_option maxRecDepth 100000
theorem spec (l:List Int) (a:Int) (h:0≤a∧a≤255):S 3 [aD l,.int .u8 a] [] (.bool true) []:=by
 obtain ⟨r,h1,h2⟩:=Gi (t_:=l) h.1 h.2;subst h2;exact Cb h1
theorem contract (H:Type) (enc:TypeId×Value→H) (W:World) (base:Nat) (args:Array Value) (ds gs:List (DataW H)) (before:List MemPlace)
  (hval:∀(j:Nat) t v,Tryz.f3.params[j]? = some t→args[j]? = some v→Value.okWide Tryz.prog W .any base t v)
  (hW:DataW.Whole enc Tryz.prog Tryz.f3.params.toList Rows.rulesFewerSpec.vars false W args.toList ds gs before) (hL:laidMetH Tryz.prog Rows.rulesFewerRow.laid W):
  Calls Tryz.prog 3 args W fun e W'=>∃v,e=.returned v∧Rows.rulesFewerSpec.post enc Tryz.prog Tryz.f3 false true false false W args v W':=by
 have hW':=hW;obtain ⟨p,q,hA0,hV,rfl,hfz,hnd⟩:=hW;have hA:DataW.TrodAll enc Tryz.prog W 0 (fun _=>true) true Tryz.f3.params.toList args.toList ds p:=hA0;rw [Tryz.params3] at hA hval;obtain ⟨v0,v1,d0,d1,p0,p1,rfl,rfl,rfl,h0,h1⟩:=trodAll_two hA;obtain ⟨rfl,rfl⟩:=trodVars_none hV;have h0k:=h0;obtain ⟨l,hl,hr⟩:=TR (hval 0 22 v0 rfl rfl) h0;have h1k:=h1;obtain ⟨n,rfl,rfl,rfl,hwf⟩:=open_int Tryz.underlying5 (hval 1 5 v1 rfl rfl) h1;have hn:0≤n∧n≤255:=by
  simp only [Lit.wf,Bool.and_eq_true,decide_eq_true_eq] at hwf;exact hwf
 clear hA0;simp only [List.append_nil] at hW';have hlt:∀x∈p0,x.block<W.heap.size:=fun x hx=>by simpa using hW'.lt x (by simpa using hx)
 refine (Zi (spec l n hn) hL rfl (fun j hj=>?_)).mono fun e W' ⟨he,hb⟩=>?_
 ·match j,hj with
  | 0,_=>exact hr
  | 1,_=>exact .int _ _
 subst he;refine ⟨_,rfl,[d0,.lit (.int .u8 n)],[],p0++[],[],p0++[],[],by simpa using hW',trodAll_mk1 (shut_bool Tryz.underlying4 _),?_,rfl,hb.frame _,fun h=>by cases h⟩;rw [Tryz.params3];exact trodAll_mk2 (Below.trod laidOut (by kernel_rfl) (of_decide_eq_true (by kernel_rfl)) h0k hb hlt) (shut_int Tryz.underlying5 hwf)
noncomputable def JH (os:Os):World:=
 { World.holding Tryz.prog os ⟨#[],#[],[]⟩ with heap:=(World.holding Tryz.prog os ⟨#[],#[],[]⟩).heap.modify 0 fun
   | .cells _ t frozen=>.cells #[.int .i64 0,.int .i64 1] t frozen
   | o=>o }
theorem X6 (os:Os):laidMet Tryz.prog Rows.rulesFewerRow.laid ((JH os).forCall (fun _ _=>0) ⟨#[],#[.slice none 0 0,.int .u8 0],[]⟩).memory:=
 laidMet_of_run' 8 (by kernel_rfl) (by kernel_rfl)
theorem reads (os:Os) {H:Type} (enc:TypeId×Value→H):∃places,DataW.whole enc Tryz.prog ((JH os).forCall (fun _ _=>0) ⟨#[],#[.slice none 0 0,.int .u8 0],[]⟩).memory Tryz.f3.params.toList Rows.rulesFewerSpec.vars false #[Value.slice none 0 0,.int .u8 0].toList 8=some ([.nil,.lit (.int .u8 0)],[],places):=
 ⟨[],by kernel_rfl⟩
theorem lifted (os:Os) (started:os.Started) (H:Type) (enc:TypeId×Value→H) (F:Stop.Interp):
  ReturnsInHanded {} Tryz.checked os 3 .any ((OpenSpec.ofChange Rows.rulesFewerSpec).preRow enc Tryz.prog Tryz.f3 Rows.rulesFewerRow.domain false Rows.rulesFewerRow.laid) (((OpenSpec.ofChange Rows.rulesFewerSpec).at F).post enc Tryz.prog Tryz.f3 false true false false):=by
 obtain ⟨places,hx⟩:=reads os enc;refine returnsInHanded_of_row (C:=Tryz.checked) (s:=OpenSpec.ofChange Rows.rulesFewerSpec) own started (by kernel_rfl) Tryz.func3
  (witness_row_at (enc:=enc) (C:=Tryz.checked) false (JH os) #[.slice none 0 0,.int .u8 0] rfl (by kernel_rfl) (by kernel_rfl) (by kernel_rfl)
    (OpenSpec.preRow_of_cond 8 hx (by kernel_rfl) (fun k hk=>by cases hk) (by kernel_rfl) (X6 os))) ?_
 intro W base args ds gs before hval hW _ _ _ hL _ _;exact contract H enc W base args ds gs before hval hW hL
theorem said:Rows.RulesFewerSaid:=
 OpenClaim.holds_of_cond 3 Tryz.f3 rfl rfl rfl rfl rfl rfl rfl ⟨rfl,rfl,rfl,rfl,rfl⟩ rfl rfl rfl rfl rfl (by kernel_rfl) Tryz.func3 (by kernel_rfl)
  (of_decide_eq_true (by kernel_rfl)) (by unfold Func.isWrapper; first | (rw [if_pos (by decide +kernel)]; kernel_rfl) | (rw [if_neg (by decide +kernel)]; exact ⟨rfl,rfl⟩))
  (fun os started H enc _ F=>by rw [OpenClaim.pre_eq_preRow]; exact lifted os started H enc F)
theorem plain (f:FuncId) (fn:Func) (hf:Tryz.pinned.checked.prog.funcNamed "bringup/bringuplaw31.RulesFewer" = some f) (hfn:Tryz.pinned.checked.prog.funcs[f]? = some fn):
  false=Tryz.pinned.checked.prog.looks []∧∀(j:Nat) t,fn.params[j]? = some t→Tryz.pinned.checked.prog.wantsStandIn t=false:=by
 obtain rfl:f=3:=Option.some.inj ((show Tryz.prog.funcNamed "bringup/bringuplaw31.RulesFewer" = some 3 by kernel_rfl).symm.trans hf) |>.symm;obtain rfl:fn=Tryz.f3:=(Option.some.inj (Tryz.func3.symm.trans hfn)).symm;refine ⟨by kernel_rfl,fun j t ht=>?_⟩;rw [Tryz.params3] at ht;have ht:t∈#[22,5]:=Array.mem_of_getElem? ht;simp at ht;rcases ht with rfl | rfl
 ·exact (show Tryz.prog.wantsStandIn 22=false by kernel_rfl)
 ·exact (show Tryz.prog.wantsStandIn 5=false by kernel_rfl)
end Go.Proofs.YtfblhejmclcdmaaGreatDoor.rulesFewer
namespace Go.Proofs.YtfblhejmclcdmaaGreatDoor
open Go.Ab
set_option maxRecDepth 100000
theorem rulesFewer_card:Rows.RulesFewerCardSaid:=
 Claim7.holds_tied_plain_at .later [] _ _ _ _ rulesFewer.said (fun _ h=>by cases h) (by kernel_rfl) (fun _ h=>by cases h) rulesFewer_row_tie rfl ⟨rfl,rfl⟩ (by kernel_rfl) rfl rulesFewer.plain (by kernel_rfl)
end Go.Proofs.YtfblhejmclcdmaaGreatDoor

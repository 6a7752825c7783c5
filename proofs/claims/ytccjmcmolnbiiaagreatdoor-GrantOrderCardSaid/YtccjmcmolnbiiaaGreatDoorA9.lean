/- An abstract machine over the model's code, that it is sound; models of the functions and their proofs. -/
import Derived.Test.YtccjmcmolnbiiaaGreatDoorA8
import Derived.Test.YtccjmcmolnbiiaaGreatDoorA7
import Derived.Test.YtccjmcmolnbiiaaGreatDoorA6
set_option linter.unusedVariables false
set_option linter.unusedSimpArgs false
namespace Go.Proofs.YtccjmcmolnbiiaaGreatDoor
open Go.Ab
set_option maxRecDepth 100000
set_option maxHeartbeats 20000000
theorem lq {vN:Int} {xO:Int} {dH:dz} {r:(Int×dz)} (hm:jV vN xO dH r):S 54 [.ptr 0 0 0,iV vN,iV xO] [.box [aC dH.L,iV dH.At]] (iV r.1) [.box [aC r.2.L,iV r.2.At]] :=sp Tryz.func54 rfl<|s2 hm fun _ _ hm=>sq hm bZ fun v1 hm=>sn hm fun _ hm=>by cases hm;exact re
theorem IG {dH:dz} {r:((List ay)×dz)} (hm:o9 dH r):S 80 [.ptr 0 0 0] [.box [aC dH.L,iV dH.At]] (aU r.1) [.box [aC r.2.L,iV r.2.At]] :=spc [8] Tryz.func80 rfl<|sq hm bZ fun v1 hm=>R3 [8] hm (fun g1=>⟨[(0,.ptr 0 0 0),(3,.eH 1 0 g1.2.2.2.length false),(4,iV g1.1)],[(0,some (.box [aC g1.2.1,iV g1.2.2.1])),(1,some (.row 5 g1.2.2.2.length (bR Cb au g1.2.2.2)))],2⟩) [(1,none)] [] <|fun aj g1 hm=>si hm (fun _ hm=>sn hm fun _ hm=>sq hm lq fun v12 hm=>sb hm fun v13 aek hm=>cl ((gP aek).le ⟨.refl _,(.sl rfl (fun _=>rfl) nofun (gM iV 0 [(0:Int),(0:Int),(100:Int),(300:Int)])),trivial⟩ ⟨kS _,trivial⟩)<|sb hm fun v14 aax hm=>cl ((gP aax).le ⟨.refl _,(.sl rfl (fun _=>rfl) nofun (gM iV 0 [(100:Int),(300:Int),(1000:Int)])),trivial⟩ ⟨kS _,trivial⟩)<|sq hm bZ fun v15 hm=>ck [8] (kg g1 aj v12 v14 v15) r (fun g4=>⟨[(0,.ptr 0 0 0),(3,.eH 1 0 g1.2.2.2.length false),(4,iV g1.1),(5,.ptr 2 0 0)],[(0,some (.box [aC v15.2.L,iV v15.2.At])),(1,some (.row 5 g1.2.2.2.length (bR Cb au g1.2.2.2))),(2,some (.box [iV v12.1,.sl 0 0 true fG,iV g4,iV v14.1,.bool (v15.1==(7:Int))]))],3⟩) (si hm (fun _ hm=>lc [(2,some 138)] [] hm) fun _ hm=>lc [(2,some 138)] [] hm) fun g4 hm=>sq hm bZ fun v16 hm=>sn hm fun _ hm=>by
 rcases (by omega:v16.1=0∨v16.1=1∨v16.1=2∨v16.1=3∨v16.1=4) with e1 | e1 | e1 | e1 | e1
 ·rw [e1] at hm ⊢
  (conv=>whnf)
  refine aY hm fun h27 hm=>?_
  (conv=>whnf)
  refine aY hm fun h28 hm=>?_
  (conv=>whnf)
  exact ⟨((g1.1 - (1:Int)),v16.2.L,v16.2.At,(g1.2.2.2++([(⟨v12.1,([(1000:Int),(1200:Int)]:List Int),g4,v14.1,(v15.1==(7:Int))⟩:ay)]:List ay))),[(1,some 123)],[],hm,⟨rfl,⟨r4,⟨rfl,rfl,rfl,oz,nofun⟩,r2,trivial⟩,⟨⟨sf,r2,trivial⟩,⟨rfl,oz,(j4 rfl (fun _ _=>.refl _) rfl (vZ (Le.QS ⟨(.refl _),(.sl rfl (fun _=>rfl) nofun (gM iV 0 [(1000:Int),(1200:Int)])),(.refl _),(.refl _),(.refl _),trivial⟩) (fun _ h=>absurd h (Nat.not_lt_zero _))))⟩,trivial⟩⟩⟩
 ·rw [e1] at hm ⊢
  (conv=>whnf)
  refine aY hm fun h29 hm=>?_
  (conv=>whnf)
  refine aY hm fun h30 hm=>?_
  (conv=>whnf)
  exact ⟨((g1.1 - (1:Int)),v16.2.L,v16.2.At,(g1.2.2.2++([(⟨v12.1,([(1800:Int),(3300:Int)]:List Int),g4,v14.1,(v15.1==(7:Int))⟩:ay)]:List ay))),[(1,some 123)],[],hm,⟨rfl,⟨r4,⟨rfl,rfl,rfl,oz,nofun⟩,r2,trivial⟩,⟨⟨sf,r2,trivial⟩,⟨rfl,oz,(j4 rfl (fun _ _=>.refl _) rfl (vZ (Le.QS ⟨(.refl _),(.sl rfl (fun _=>rfl) nofun (gM iV 0 [(1800:Int),(3300:Int)])),(.refl _),(.refl _),(.refl _),trivial⟩) (fun _ h=>absurd h (Nat.not_lt_zero _))))⟩,trivial⟩⟩⟩
 ·rw [e1] at hm ⊢
  (conv=>whnf)
  refine aY hm fun h31 hm=>?_
  (conv=>whnf)
  refine aY hm fun h32 hm=>?_
  (conv=>whnf)
  exact ⟨((g1.1 - (1:Int)),v16.2.L,v16.2.At,(g1.2.2.2++([(⟨v12.1,([(1000:Int),(1800:Int),(3300:Int)]:List Int),g4,v14.1,(v15.1==(7:Int))⟩:ay)]:List ay))),[(1,some 123)],[],hm,⟨rfl,⟨r4,⟨rfl,rfl,rfl,oz,nofun⟩,r2,trivial⟩,⟨⟨sf,r2,trivial⟩,⟨rfl,oz,(j4 rfl (fun _ _=>.refl _) rfl (vZ (Le.QS ⟨(.refl _),(.sl rfl (fun _=>rfl) nofun (gM iV 0 [(1000:Int),(1800:Int),(3300:Int)])),(.refl _),(.refl _),(.refl _),trivial⟩) (fun _ h=>absurd h (Nat.not_lt_zero _))))⟩,trivial⟩⟩⟩
 ·rw [e1] at hm ⊢
  (conv=>whnf)
  refine aY hm fun h33 hm=>?_
  (conv=>whnf)
  refine aY hm fun h34 hm=>?_
  (conv=>whnf)
  exact ⟨((g1.1 - (1:Int)),v16.2.L,v16.2.At,(g1.2.2.2++([(⟨v12.1,([(3300:Int),(5000:Int)]:List Int),g4,v14.1,(v15.1==(7:Int))⟩:ay)]:List ay))),[(1,some 123)],[],hm,⟨rfl,⟨r4,⟨rfl,rfl,rfl,oz,nofun⟩,r2,trivial⟩,⟨⟨sf,r2,trivial⟩,⟨rfl,oz,(j4 rfl (fun _ _=>.refl _) rfl (vZ (Le.QS ⟨(.refl _),(.sl rfl (fun _=>rfl) nofun (gM iV 0 [(3300:Int),(5000:Int)])),(.refl _),(.refl _),(.refl _),trivial⟩) (fun _ h=>absurd h (Nat.not_lt_zero _))))⟩,trivial⟩⟩⟩
 ·rw [e1] at hm ⊢
  (conv=>whnf)
  refine aY hm fun h35 hm=>?_
  (conv=>whnf)
  refine aY hm fun h36 hm=>?_
  (conv=>whnf)
  exact ⟨((g1.1 - (1:Int)),v16.2.L,v16.2.At,(g1.2.2.2++([(⟨v12.1,([(900:Int)]:List Int),g4,v14.1,(v15.1==(7:Int))⟩:ay)]:List ay))),[(1,some 123)],[],hm,⟨rfl,⟨r4,⟨rfl,rfl,rfl,oz,nofun⟩,r2,trivial⟩,⟨⟨sf,r2,trivial⟩,⟨rfl,oz,(j4 rfl (fun _ _=>.refl _) rfl (vZ (Le.QS ⟨(.refl _),(.sl rfl (fun _=>rfl) nofun (gM iV 0 [(900:Int)])),(.refl _),(.refl _),(.refl _),trivial⟩) (fun _ h=>absurd h (Nat.not_lt_zero _))))⟩,trivial⟩⟩⟩) fun _ hm=>by cases hm;exact rt [1] []
theorem og  {r:(List ByteArray)} (hm:oC r):S 132 [] [] (gG r) [] :=sp Tryz.func132 rfl<|by cases hm;exact rt [8] []
theorem LQ {dH:dz} {r:(bn×dz)} (hm:rW dH r):S 81 [.ptr 0 0 0] [.box [aC dH.L,iV dH.At]] (lT r.1) [.box [aC r.2.L,iV r.2.At]] :=spc [13,17] Tryz.func81 rfl<|sq hm lq fun v1 hm=>sq hm bZ fun v2 hm=>R3 [13,17] hm (fun g1=>⟨[(0,.ptr 0 0 0),(2,.ptr 1 0 0),(3,.ptr 2 0 0),(4,iV g1.1)],[(0,some (.box [aC g1.2.1,iV g1.2.2.1])),(1,some (.box [iV (0:Int),.sl 0 0 true fG])),(2,some (.box [iV v1.1,.eH 3 0 g1.2.2.2.length false])),(3,some (.row 3 g1.2.2.2.length (bR nT aG g1.2.2.2)))],4⟩) [(2,some 33),(3,none)] [] <|fun aj g1 hm=>si hm (fun _ hm=>sn hm fun _ hm=>by
 refine ⟨(akg (es:=[.int .u8 (IntKind.u8.wrap ((97:Int)+(g1.2.2.2.length:Int)))]) rfl),?_⟩
 (conv=>whnf)
 refine aY hm fun h74 hm=>?_
 (conv=>whnf)
 refine iI hm fun v35 aoE hm=>?_
 refine ⟨_,_,(bZ aoE),?_⟩
 (conv=>whnf)
 refine u7 (ct:=[13,17]) iT dk hm (fun g12=>⟨[(0,.ptr 0 0 0),(2,.ptr 1 0 0),(3,.ptr 2 0 0),(4,iV g1.1),(5,.ptr 3 0 0),(6,iV v35.1),(7,iV g12.1)],[(0,some (.box [aC g12.2.1,iV g12.2.2.1])),(1,some (.box [iV (0:Int),.sl 0 0 true fG])),(2,some (.box [iV v1.1,.eH 4 0 g1.2.2.2.length false])),(3,some (.box [.str (({ data:=#[103] }:ByteArray)++(strOf ([(IntKind.u8.wrap ((97:Int)+(g1.2.2.2.length:Int)))]:List Int))),.eH 5 0 g12.2.2.2.length false,.sl 0 0 true fG])),(4,some (.row 3 g1.2.2.2.length (bR nT aG g1.2.2.2))),(5,some (.row 1 g12.2.2.2.length (bR iV 0 g12.2.2.2)))],6⟩) [(3,some 92),(4,some 3),(5,none)] [] ⟨rfl,⟨r4,r4,r4,r2,r4,r2,r2,trivial⟩,⟨⟨sf,r2,trivial⟩,⟨r2,sr,trivial⟩,⟨r2,⟨rfl,rfl,rfl,rfl,nofun⟩,trivial⟩,⟨rfl,⟨rfl,rfl,rfl,rfl,rfl,rfl⟩,sr,trivial⟩,⟨rfl,rfl,(fun _ _=>.refl _)⟩,rfl,trivial⟩⟩ ?_
 intro af9 g12 hm
 (conv=>whnf)
 refine iU hm (fun c36 hm=>?_) (fun c36 hm=>?_)
 ·(conv=>whnf)
  refine iI hm fun v38 hv38 hm=>?_
  refine ⟨_,_,(lq hv38),?_⟩
  (conv=>whnf)
  refine aY hm fun h83 hm=>?_
  (conv=>whnf)
  refine iU hm (fun c37 hm=>?_) (fun c37 hm=>?_)
  ·(conv=>whnf)
   refine aY hm fun h84 hm=>?_
   (conv=>whnf)
   refine aY hm fun h85 hm=>?_
   (conv=>whnf)
   exact ⟨((g12.1+(1:Int)),v38.2.L,v38.2.At,(g12.2.2.2++([g12.1]:List Int))),[(5,some 134)],[],hm,⟨rfl,⟨r4,r4,r4,r2,r4,r2,r2,trivial⟩,⟨⟨sf,r2,trivial⟩,⟨r2,sr,trivial⟩,⟨r2,⟨rfl,rfl,rfl,rfl,nofun⟩,trivial⟩,⟨rfl,⟨rfl,rfl,rfl,oz,nofun⟩,sr,trivial⟩,⟨rfl,rfl,(fun _ _=>.refl _)⟩,⟨rfl,oz,(j4 rfl (fun _ _=>.refl _) rfl (gM iV 0 [g12.1]))⟩,trivial⟩⟩⟩
  ·(conv=>whnf)
   refine Y6 (ct:=[13,17]) iT dk dk (kU g1 aj v38) r (fun g13=>⟨[(0,.ptr 0 0 0),(2,.ptr 1 0 0),(3,.ptr 2 0 0),(4,iV g1.1),(5,.ptr 3 0 0),(40,iV v38.1)],[(0,some (.box [aC v38.2.L,iV v38.2.At])),(1,some (.box [iV (0:Int),.sl 0 0 true fG])),(2,some (.box [iV v1.1,.eH 4 0 g1.2.2.2.length false])),(3,some (.box [.str (({ data:=#[103] }:ByteArray)++(strOf ([(IntKind.u8.wrap ((97:Int)+(g1.2.2.2.length:Int)))]:List Int))),.eH 5 0 g13.length false,.sl 0 0 true fG])),(4,some (.row 3 g1.2.2.2.length (bR nT aG g1.2.2.2))),(5,some (.row 1 g13.length (bR iV 0 g13)))],6⟩) ?_ (fun g13 hm=>?_)
   ·(conv=>whnf)
    refine iU hm (fun c41 hm=>?_) (fun c41 hm=>?_)
    ·(conv=>whnf)
     exact ⟨([v35.1]:List Int),[(5,some 142)],[],hm,⟨rfl,⟨r4,r4,r4,r2,r4,r2,trivial⟩,⟨⟨sr,r2,trivial⟩,⟨r2,sr,trivial⟩,⟨r2,⟨rfl,rfl,rfl,rfl,nofun⟩,trivial⟩,⟨rfl,⟨rfl,rfl,rfl,rfl,nofun⟩,sr,trivial⟩,⟨rfl,rfl,(fun _ _=>.refl _)⟩,⟨rfl,rfl,(gM iV 0 [v35.1])⟩,trivial⟩⟩⟩
    ·(conv=>whnf)
     exact ⟨g12.2.2.2,[],[],hm,⟨rfl,⟨r4,r4,r4,r2,r4,r2,trivial⟩,⟨⟨sr,r2,trivial⟩,⟨r2,sr,trivial⟩,⟨r2,⟨rfl,rfl,rfl,rfl,nofun⟩,trivial⟩,⟨rfl,⟨rfl,rfl,rfl,rfl,nofun⟩,sr,trivial⟩,⟨rfl,rfl,(fun _ _=>.refl _)⟩,⟨rfl,rfl,(fun _ _=>.refl _)⟩,trivial⟩⟩⟩
   ·(conv=>whnf)
    refine iI hm fun v39 hv39 hm=>?_
    refine ⟨_,_,(bZ hv39),?_⟩
    (conv=>whnf)
    refine iI hm fun v40 akA hm=>?_
    refine ⟨_,_,(og akA),?_⟩
    (conv=>whnf)
    refine aY hm fun h86 hm=>?_
    (conv=>whnf)
    refine Y6 (ct:=[13,17]) iT dk dk (jf g1 aj g13) r (fun g14=>⟨[(0,.ptr 0 0 0),(2,.ptr 1 0 0),(3,.ptr 2 0 0),(4,iV g1.1),(5,.ptr 3 0 0),(40,iV v38.1)],[(0,some (.box [aC g14.1,iV g14.2.1])),(1,some (.box [iV (0:Int),.sl 0 0 true fG])),(2,some (.box [iV v1.1,.eH 4 0 g1.2.2.2.length false])),(3,some (.box [.str (({ data:=#[103] }:ByteArray)++(strOf ([(IntKind.u8.wrap ((97:Int)+(g1.2.2.2.length:Int)))]:List Int))),.eH 5 0 g13.length false,.eH 6 0 g14.2.2.length false])),(4,some (.row 3 g1.2.2.2.length (bR nT aG g1.2.2.2))),(5,some (.row 1 g13.length (bR iV 0 g13))),(6,some (.row 1 g14.2.2.length (bR AV.str ByteArray.empty g14.2.2)))],7⟩) ?_ (fun g14 hm=>?_)
    ·(conv=>whnf)
     refine iI hm fun v43 akB hm=>?_
     refine ⟨_,_,(bZ akB),?_⟩
     (conv=>whnf)
     refine iU hm (fun c40 hm=>?_) (fun c40 hm=>?_)
     ·(conv=>whnf)
      refine iI hm fun v44 akC hm=>?_
      refine ⟨_,_,(og akC),?_⟩
      (conv=>whnf)
      refine aY hm fun h93 hm=>?_
      (conv=>whnf)
      refine aY hm fun h94 hm=>?_
      (conv=>whnf)
      refine aY hm fun h95 hm=>?_
      (conv=>whnf)
      refine aY hm fun h96 hm=>?_
      (conv=>whnf)
      exact ⟨(v43.2.L,v43.2.At,(([(v40.getD v39.1.toNat ByteArray.empty)]:List ByteArray)++([(v44.getD (((v39.1+(1:Int)).tmod (4:Int)).toNat) ByteArray.empty)]:List ByteArray))),[(6,some 182)],[],hm,⟨rfl,⟨r4,r4,r4,r2,r4,r2,trivial⟩,⟨⟨sf,r2,trivial⟩,⟨r2,sr,trivial⟩,⟨r2,⟨rfl,rfl,rfl,rfl,nofun⟩,trivial⟩,⟨rfl,⟨rfl,rfl,rfl,rfl,nofun⟩,⟨rfl,rfl,rfl,oz,nofun⟩,trivial⟩,⟨rfl,rfl,(fun _ _=>.refl _)⟩,⟨rfl,rfl,(fun _ _=>.refl _)⟩,⟨rfl,oz,(j4 rfl (gM AV.str ByteArray.empty [(v40.getD v39.1.toNat ByteArray.empty)]) rfl (gM AV.str ByteArray.empty [(v44.getD (((v39.1+(1:Int)).tmod (4:Int)).toNat) ByteArray.empty)]))⟩,trivial⟩⟩⟩
     ·(conv=>whnf)
      exact ⟨(v43.2.L,v43.2.At,([(v40.getD v39.1.toNat ByteArray.empty)]:List ByteArray)),[(6,some 62)],[],hm,⟨rfl,⟨r4,r4,r4,r2,r4,r2,trivial⟩,⟨⟨sf,r2,trivial⟩,⟨r2,sr,trivial⟩,⟨r2,⟨rfl,rfl,rfl,rfl,nofun⟩,trivial⟩,⟨rfl,⟨rfl,rfl,rfl,rfl,nofun⟩,⟨rfl,rfl,rfl,rfl,nofun⟩,trivial⟩,⟨rfl,rfl,(fun _ _=>.refl _)⟩,⟨rfl,rfl,(fun _ _=>.refl _)⟩,⟨rfl,rfl,(gM AV.str ByteArray.empty [(v40.getD v39.1.toNat ByteArray.empty)])⟩,trivial⟩⟩⟩
    ·(conv=>whnf)
     refine aY hm fun h91 hm=>?_
     (conv=>whnf)
     refine aY hm fun h92 hm=>?_
     (conv=>whnf)
     exact ⟨((g1.1 - (1:Int)),g14.1,g14.2.1,(g1.2.2.2++([(⟨(({ data:=#[103] }:ByteArray)++(strOf ([(IntKind.u8.wrap ((97:Int)+(g1.2.2.2.length:Int)))]:List Int))),g13,g14.2.2⟩:cK)]:List cK))),[(3,some 39)],[],hm,⟨rfl,⟨r4,r4,r4,r2,trivial⟩,⟨⟨sf,r2,trivial⟩,⟨r2,sr,trivial⟩,⟨r2,⟨rfl,rfl,rfl,oz,nofun⟩,trivial⟩,⟨rfl,oz,(j4 rfl (fun _ _=>.refl _) rfl (gM nT aG [(⟨(({ data:=#[103] }:ByteArray)++(strOf ([(IntKind.u8.wrap ((97:Int)+(g1.2.2.2.length:Int)))]:List Int))),g13,g14.2.2⟩:cK)]))⟩,trivial⟩⟩⟩
 ·(conv=>whnf)
  refine ⟨(fun q0=>absurd q0 (vac c36)),?_⟩
  (conv=>whnf)
  refine ⟨(fun q0=>absurd q0 (vac c36)),?_⟩
  (conv=>whnf)
  refine aY hm fun h97 hm=>?_
  (conv=>whnf)
  refine Y6 (ct:=[13,17]) iT dk dk (jO g1 aj g12) r (fun g15=>⟨[(0,.ptr 0 0 0),(2,.ptr 1 0 0),(3,.ptr 2 0 0),(4,iV g1.1),(5,.ptr 3 0 0)],[(0,some (.box [aC g12.2.1,iV g12.2.2.1])),(1,some (.box [iV (0:Int),.sl 0 0 true fG])),(2,some (.box [iV v1.1,.eH 4 0 g1.2.2.2.length false])),(3,some (.box [.str (({ data:=#[103] }:ByteArray)++(strOf ([(IntKind.u8.wrap ((97:Int)+(g1.2.2.2.length:Int)))]:List Int))),.eH 5 0 g15.length false,.sl 0 0 true fG])),(4,some (.row 3 g1.2.2.2.length (bR nT aG g1.2.2.2))),(5,some (.row 1 g15.length (bR iV 0 g15)))],6⟩) ?_ (fun g15 hm=>?_)
  ·(conv=>whnf)
   refine iU hm (fun c45 hm=>?_) (fun c45 hm=>?_)
   ·(conv=>whnf)
    exact ⟨([v35.1]:List Int),[(5,some 142)],[],hm,⟨rfl,⟨r4,r4,r4,r2,r4,trivial⟩,⟨⟨sr,r2,trivial⟩,⟨r2,sr,trivial⟩,⟨r2,⟨rfl,rfl,rfl,rfl,nofun⟩,trivial⟩,⟨rfl,⟨rfl,rfl,rfl,rfl,nofun⟩,sr,trivial⟩,⟨rfl,rfl,(fun _ _=>.refl _)⟩,⟨rfl,rfl,(gM iV 0 [v35.1])⟩,trivial⟩⟩⟩
   ·(conv=>whnf)
    exact ⟨g12.2.2.2,[],[],hm,⟨rfl,⟨r4,r4,r4,r2,r4,trivial⟩,⟨⟨sr,r2,trivial⟩,⟨r2,sr,trivial⟩,⟨r2,⟨rfl,rfl,rfl,rfl,nofun⟩,trivial⟩,⟨rfl,⟨rfl,rfl,rfl,rfl,nofun⟩,sr,trivial⟩,⟨rfl,rfl,(fun _ _=>.refl _)⟩,⟨rfl,rfl,(fun _ _=>.refl _)⟩,trivial⟩⟩⟩
  ·(conv=>whnf)
   refine iI hm fun v45 akD hm=>?_
   refine ⟨_,_,(bZ akD),?_⟩
   (conv=>whnf)
   refine iI hm fun v46 agh hm=>?_
   refine ⟨_,_,(og agh),?_⟩
   (conv=>whnf)
   refine aY hm fun h98 hm=>?_
   (conv=>whnf)
   refine Y6 (ct:=[13,17]) iT dk dk (iL g1 aj g15) r (fun g16=>⟨[(0,.ptr 0 0 0),(2,.ptr 1 0 0),(3,.ptr 2 0 0),(4,iV g1.1),(5,.ptr 3 0 0)],[(0,some (.box [aC g16.1,iV g16.2.1])),(1,some (.box [iV (0:Int),.sl 0 0 true fG])),(2,some (.box [iV v1.1,.eH 4 0 g1.2.2.2.length false])),(3,some (.box [.str (({ data:=#[103] }:ByteArray)++(strOf ([(IntKind.u8.wrap ((97:Int)+(g1.2.2.2.length:Int)))]:List Int))),.eH 5 0 g15.length false,.eH 6 0 g16.2.2.length false])),(4,some (.row 3 g1.2.2.2.length (bR nT aG g1.2.2.2))),(5,some (.row 1 g15.length (bR iV 0 g15))),(6,some (.row 1 g16.2.2.length (bR AV.str ByteArray.empty g16.2.2)))],7⟩) ?_ (fun g16 hm=>?_)
   ·(conv=>whnf)
    refine iI hm fun v49 agd hm=>?_
    refine ⟨_,_,(bZ agd),?_⟩
    (conv=>whnf)
    refine iU hm (fun c44 hm=>?_) (fun c44 hm=>?_)
    ·(conv=>whnf)
     refine iI hm fun v50 acw hm=>?_
     refine ⟨_,_,(og acw),?_⟩
     (conv=>whnf)
     refine aY hm fun awt hm=>?_
     (conv=>whnf)
     refine aY hm fun awu hm=>?_
     (conv=>whnf)
     refine aY hm fun awv hm=>?_
     (conv=>whnf)
     refine aY hm fun aww hm=>?_
     (conv=>whnf)
     exact ⟨(v49.2.L,v49.2.At,(([(v46.getD v45.1.toNat ByteArray.empty)]:List ByteArray)++([(v50.getD (((v45.1+(1:Int)).tmod (4:Int)).toNat) ByteArray.empty)]:List ByteArray))),[(6,some 182)],[],hm,⟨rfl,⟨r4,r4,r4,r2,r4,trivial⟩,⟨⟨sf,r2,trivial⟩,⟨r2,sr,trivial⟩,⟨r2,⟨rfl,rfl,rfl,rfl,nofun⟩,trivial⟩,⟨rfl,⟨rfl,rfl,rfl,rfl,nofun⟩,⟨rfl,rfl,rfl,oz,nofun⟩,trivial⟩,⟨rfl,rfl,(fun _ _=>.refl _)⟩,⟨rfl,rfl,(fun _ _=>.refl _)⟩,⟨rfl,oz,(j4 rfl (gM AV.str ByteArray.empty [(v46.getD v45.1.toNat ByteArray.empty)]) rfl (gM AV.str ByteArray.empty [(v50.getD (((v45.1+(1:Int)).tmod (4:Int)).toNat) ByteArray.empty)]))⟩,trivial⟩⟩⟩
    ·(conv=>whnf)
     exact ⟨(v49.2.L,v49.2.At,([(v46.getD v45.1.toNat ByteArray.empty)]:List ByteArray)),[(6,some 62)],[],hm,⟨rfl,⟨r4,r4,r4,r2,r4,trivial⟩,⟨⟨sf,r2,trivial⟩,⟨r2,sr,trivial⟩,⟨r2,⟨rfl,rfl,rfl,rfl,nofun⟩,trivial⟩,⟨rfl,⟨rfl,rfl,rfl,rfl,nofun⟩,⟨rfl,rfl,rfl,rfl,nofun⟩,trivial⟩,⟨rfl,rfl,(fun _ _=>.refl _)⟩,⟨rfl,rfl,(fun _ _=>.refl _)⟩,⟨rfl,rfl,(gM AV.str ByteArray.empty [(v46.getD v45.1.toNat ByteArray.empty)])⟩,trivial⟩⟩⟩
   ·(conv=>whnf)
    refine aY hm fun awx hm=>?_
    (conv=>whnf)
    refine aY hm fun awy hm=>?_
    (conv=>whnf)
    exact ⟨((g1.1 - (1:Int)),g16.1,g16.2.1,(g1.2.2.2++([(⟨(({ data:=#[103] }:ByteArray)++(strOf ([(IntKind.u8.wrap ((97:Int)+(g1.2.2.2.length:Int)))]:List Int))),g15,g16.2.2⟩:cK)]:List cK))),[(3,some 39)],[],hm,⟨rfl,⟨r4,r4,r4,r2,trivial⟩,⟨⟨sf,r2,trivial⟩,⟨r2,sr,trivial⟩,⟨r2,⟨rfl,rfl,rfl,oz,nofun⟩,trivial⟩,⟨rfl,oz,(j4 rfl (fun _ _=>.refl _) rfl (gM nT aG [(⟨(({ data:=#[103] }:ByteArray)++(strOf ([(IntKind.u8.wrap ((97:Int)+(g1.2.2.2.length:Int)))]:List Int))),g15,g16.2.2⟩:cK)]))⟩,trivial⟩⟩⟩) fun _ hm=>by cases hm;exact rt [3] []
theorem tu {n_:Int} {k_:Int} {dH:dz} {r:((List Int)×dz)} (hm:kV n_ k_ dH r):S 87 [.ptr 0 0 0,iV n_,iV k_] [.box [aC dH.L,iV dH.At]] (aC r.1) [.box [aC r.2.L,iV r.2.At]] :=sp Tryz.func87 rfl<|lf hm (fun g1=>⟨[(0,.ptr 0 0 0),(1,iV n_),(2,iV k_),(7,.eH 1 0 g1.2.2.2.length false),(8,iV g1.1)],[(0,some (.box [aC g1.2.1,iV g1.2.2.1])),(1,some (.row 1 g1.2.2.2.length (bR iV 0 g1.2.2.2)))],2⟩) [(1,none)] [] <|fun aj g1 hm=>si hm (fun _ hm=>sq hm bZ fun v3 hm=>sn hm fun _ hm=>si hm (fun _ hm=>s2 hm fun _ _ hm=>lc [(1,some 98)] [] hm) fun _ hm=>sn hm fun _ hm=>le hm) fun _ hm=>by cases hm;exact rt [1] []
theorem LU {jh:Int} {dH:dz} {r:((List d9)×dz)} (hm:rX jh dH r):S 82 [.ptr 0 0 0,iV jh] [.box [aC dH.L,iV dH.At]] (dx r.1) [.box [aC r.2.L,iV r.2.At]] :=sp Tryz.func82 rfl<|sn hm fun _ hm=>sq hm bZ fun v1 hm=>lf hm (fun g1=>⟨[(0,.ptr 0 0 0),(5,.eH 1 0 g1.2.2.2.length false),(6,iV g1.1)],[(0,some (.box [aC g1.2.1,iV g1.2.2.1])),(1,some (.row 1 g1.2.2.2.length (bR akm dh g1.2.2.2)))],2⟩) [(1,none)] [] <|fun aj g1 hm=>si hm (fun _ hm=>sq hm tu fun v4 hm=>s2 hm fun _ _ hm=>lc [(1,some 74)] [] hm) fun _ hm=>by cases hm;exact rt [1] []
theorem J3 {jh:Int} {dH:dz} {r:((List dB)×dz)} (hm:qD jh dH r):S 83 [.ptr 0 0 0,iV jh] [.box [aC dH.L,iV dH.At]] (bU r.1) [.box [aC r.2.L,iV r.2.At]] :=sp Tryz.func83 rfl<|sn hm fun _ hm=>sq hm bZ fun v1 hm=>lf hm (fun g1=>⟨[(0,.ptr 0 0 0),(5,.eH 1 0 g1.2.2.2.length false),(6,iV g1.1)],[(0,some (.box [aC g1.2.1,iV g1.2.2.1])),(1,some (.row 2 g1.2.2.2.length (bR ahg dS g1.2.2.2)))],2⟩) [(1,none)] [] <|fun aj g1 hm=>si hm (fun _ hm=>sn hm fun _ hm=>sq hm lq fun v6 hm=>sq hm bZ fun v7 hm=>s2 hm fun _ _ hm=>lc [(1,some 106)] [] hm) fun _ hm=>by cases hm;exact rt [1] []
theorem Oo {dH:dz} {r:(aR×dz)} (hm:uj dH r):S 42 [.ptr 0 0 0] [.box [aC dH.L,iV dH.At]] (jy r.1) [.box [aC r.2.L,iV r.2.At]] :=sp Tryz.func42 rfl<|sq hm LP fun v1 hm=>sq hm IG fun v2 hm=>sq hm LQ fun v3 hm=>sq hm LU fun v4 hm=>sq hm J3 fun v5 hm=>by cases hm;exact re
theorem Oq {b_:aR} {dH:dz} {r:(bK×dz)} (hm:um b_ dH r):S 84 [.ptr 0 0 0,jy b_] [.box [aC dH.L,iV dH.At]] (yH r.1) [.box [aC r.2.L,iV r.2.At]] :=sp Tryz.func84 rfl<|sq hm bZ fun v1 hm=>sb hm fun v2 hv2 hm=>cl ((gP hv2).le ⟨.refl _,(.sl rfl (fun _=>rfl) nofun (gM iV 0 [(0:Int),(0:Int),(6:Int),(12:Int),(24:Int)])),trivial⟩ ⟨kS _,trivial⟩)<|sb hm fun v3 hv3 hm=>cl ((gP hv3).le ⟨.refl _,(.sl rfl (fun _=>rfl) nofun (gM iV 0 [(24:Int),(48:Int),(100:Int),(300:Int)])),trivial⟩ ⟨kS _,trivial⟩)<|by cases hm;exact re
theorem PY {b_:aR} {dH:dz} {r:(aW×dz)} (hm:wO b_ dH r):S 85 [.ptr 0 0 0,jy b_] [.box [aC dH.L,iV dH.At]] (G5 r.1) [.box [aC r.2.L,iV r.2.At]] :=sp Tryz.func85 rfl<|sq hm bZ fun v1 hm=>sb hm fun v2 hv2 hm=>cl ((gP hv2).le ⟨.refl _,(.sl rfl (fun _=>rfl) nofun (gM iV 0 [(0:Int),(900:Int),(1000:Int),(1800:Int)])),trivial⟩ ⟨kS _,trivial⟩)<|sb hm fun v3 hv3 hm=>cl ((gP hv3).le ⟨.refl _,(.sl rfl (fun _=>rfl) nofun (gM iV 0 [(1800:Int),(3300:Int),(5000:Int)])),trivial⟩ ⟨kS _,trivial⟩)<|sb hm fun v4 hv4 hm=>cl ((gP hv4).le ⟨.refl _,(.sl rfl (fun _=>rfl) nofun (gM iV 0 [(0:Int),(10:Int),(50:Int),(200:Int)])),trivial⟩ ⟨kS _,trivial⟩)<|by cases hm;exact re
theorem PZ {l_:(List ByteArray)} {dH:dz} {r:(ByteArray×dz)} (hm:wP l_ dH r):S 55 [.ptr 0 0 0,gG l_] [.box [aC dH.L,iV dH.At]] (.str r.1) [.box [aC r.2.L,iV r.2.At]] :=sp Tryz.func55 rfl<|sq hm bZ fun v1 hm=>sn hm fun _ hm=>by cases hm;exact re
theorem J4 {jh:Int} {dH:dz} {r:((List ByteArray)×dz)} (hm:qE jh dH r):S 86 [.ptr 0 0 0,iV jh] [.box [aC dH.L,iV dH.At]] (gG r.1) [.box [aC r.2.L,iV r.2.At]] :=sp Tryz.func86 rfl<|sn hm fun _ hm=>sq hm bZ fun v1 hm=>lf hm (fun g1=>⟨[(0,.ptr 0 0 0),(5,.eH 1 0 g1.2.2.2.length false),(6,iV g1.1)],[(0,some (.box [aC g1.2.1,iV g1.2.2.1])),(1,some (.row 1 g1.2.2.2.length (bR AV.str ByteArray.empty g1.2.2.2)))],2⟩) [(1,none)] [] <|fun aj g1 hm=>si hm (fun _ hm=>sq hm og fun v6 hm=>sq hm PZ fun v7 hm=>s2 hm fun _ _ hm=>lc [(1,some 58)] [] hm) fun _ hm=>by cases hm;exact rt [1] []
theorem J5 {b_:aR} {jh:Int} {dH:dz} {r:((List aK)×dz)} (hm:qF b_ jh dH r):S 43 [.ptr 0 0 0,jy b_,iV jh] [.box [aC dH.L,iV dH.At]] (dM r.1) [.box [aC r.2.L,iV r.2.At]] :=spc [9,11,13,18,19] Tryz.func43 rfl<|sn hm fun _ hm=>sq hm bZ fun v1 hm=>R3 [9,11,13,18,19] hm (fun g1=>⟨[(0,.ptr 0 0 0),(4,.ptr 1 0 0),(7,.eH 2 0 g1.2.2.2.length false),(8,iV v1.1),(9,iV g1.1)],[(0,some (.box [aC g1.2.1,iV g1.2.2.1])),(1,some (.box [aZ b_.bQ,aU b_.bB,iV b_.aQ.bO,bf b_.aQ.aD,dx b_.bg,bU b_.cB])),(2,some (.row 6 g1.2.2.2.length (bR wu bq g1.2.2.2)))],3⟩) [(2,none)] [] <|fun aj g1 hm=>si hm (fun _ hm=>sn hm fun _ hm=>sq hm lq fun v46 hm=>ck [9,11,13,18,19] (jF b_ v1 g1 aj v46) r (fun g14=>⟨[(0,.ptr 0 0 0),(4,.ptr 1 0 0),(7,.eH 2 0 g1.2.2.2.length false),(8,iV v1.1),(9,iV g1.1),(10,.ptr 3 0 0)],[(0,some (.box [aC g14.1,iV g14.2.1])),(1,some (.box [aZ b_.bQ,aU b_.bB,iV b_.aQ.bO,bf b_.aQ.aD,dx b_.bg,bU b_.cB])),(2,some (.row 6 g1.2.2.2.length (bR wu bq g1.2.2.2))),(3,some (.box [.eH 4 0 g14.2.2.length false,.sl 0 0 true fG,.sl 0 0 true fG,.sl 0 0 true fG,iV v46.1,.sl 0 0 true fG])),(4,some (.row 3 g14.2.2.length (bR yH dn g14.2.2)))],5⟩) (si hm (fun _ hm=>sq hm bZ fun v66 hm=>si hm (fun _ hm=>sq hm Oq fun v67 hm=>sn hm fun _ hm=>lc [(3,some 83),(4,some 219)] [] hm) fun _ hm=>lc [(3,some 83),(4,none)] [] hm) fun c50 hm=>by
 refine ⟨(fun q0=>absurd q0 (vac c50)),?_⟩
 (conv=>whnf)
 refine aY hm fun h34 hm=>?_
 (conv=>whnf)
 exact ⟨(v46.2.L,v46.2.At,([]:List bK)),[(3,some 83),(4,none)],[],hm,⟨rfl,⟨r4,r4,⟨rfl,rfl,rfl,rfl,nofun⟩,r2,r2,r4,trivial⟩,⟨⟨sf,r2,trivial⟩,⟨sr,sr,r2,sr,sr,sr,trivial⟩,⟨rfl,rfl,(fun _ _=>.refl _)⟩,⟨⟨rfl,rfl,rfl,rfl,rfl,rfl⟩,sr,sr,sr,r2,sr,trivial⟩,rfl,trivial⟩⟩⟩) fun g14 hm=>ck [9,11,13,18,19] (jw b_ v1 g1 aj v46 g14) r (fun g15=>⟨[(0,.ptr 0 0 0),(4,.ptr 1 0 0),(7,.eH 2 0 g1.2.2.2.length false),(8,iV v1.1),(9,iV g1.1),(10,.ptr 3 0 0)],[(0,some (.box [aC g15.1,iV g15.2.1])),(1,some (.box [aZ b_.bQ,aU b_.bB,iV b_.aQ.bO,bf b_.aQ.aD,dx b_.bg,bU b_.cB])),(2,some (.row 6 g1.2.2.2.length (bR wu bq g1.2.2.2))),(3,some (.box [.eH 4 0 g14.2.2.length false,.eH 5 0 g15.2.2.length false,.sl 0 0 true fG,.sl 0 0 true fG,iV v46.1,.sl 0 0 true fG])),(4,some (.row 3 g14.2.2.length (bR yH dn g14.2.2))),(5,some (.row 4 g15.2.2.length (bR G5 dI g15.2.2)))],6⟩) (si hm (fun _ hm=>sq hm bZ fun v64 hm=>si hm (fun _ hm=>sq hm PY fun v65 hm=>sn hm fun _ hm=>lc [(5,some 125)] [] hm) fun _ hm=>lc [(5,none)] [] hm) fun c48 hm=>by
 refine ⟨(fun q0=>absurd q0 (vac c48)),?_⟩
 (conv=>whnf)
 refine aY hm fun h32 hm=>?_
 (conv=>whnf)
 exact ⟨(g14.1,g14.2.1,([]:List aW)),[(5,none)],[],hm,⟨rfl,⟨r4,r4,⟨rfl,rfl,rfl,rfl,nofun⟩,r2,r2,r4,trivial⟩,⟨⟨sf,r2,trivial⟩,⟨sr,sr,r2,sr,sr,sr,trivial⟩,⟨rfl,rfl,(fun _ _=>.refl _)⟩,⟨⟨rfl,rfl,rfl,rfl,nofun⟩,⟨rfl,rfl,rfl,rfl,rfl,rfl⟩,sr,sr,r2,sr,trivial⟩,⟨rfl,rfl,(fun _ _=>.refl _)⟩,rfl,trivial⟩⟩⟩) fun g15 hm=>ck [9,11,13,18,19] (ku b_ v1 g1 aj v46 g14 g15) r (fun g16=>⟨[(0,.ptr 0 0 0),(4,.ptr 1 0 0),(7,.eH 2 0 g1.2.2.2.length false),(8,iV v1.1),(9,iV g1.1),(10,.ptr 3 0 0)],[(0,some (.box [aC g16.1,iV g16.2.1])),(1,some (.box [aZ b_.bQ,aU b_.bB,iV b_.aQ.bO,bf b_.aQ.aD,dx b_.bg,bU b_.cB])),(2,some (.row 6 g1.2.2.2.length (bR wu bq g1.2.2.2))),(3,some (.box [.eH 4 0 g14.2.2.length false,.eH 5 0 g15.2.2.length false,gG g16.2.2,.sl 0 0 true fG,iV v46.1,.sl 0 0 true fG])),(4,some (.row 3 g14.2.2.length (bR yH dn g14.2.2))),(5,some (.row 4 g15.2.2.length (bR G5 dI g15.2.2)))],6⟩) (sq hm bZ fun v62 hm=>si hm (fun _ hm=>sq hm J4 fun v63 hm=>le hm) fun _ hm=>le hm) fun g16 hm=>sq hm tu fun v53 hm=>ck [9,11,13,18,19] (ko g1 aj v46 g14 g15 g16 v53) r (fun g18=>⟨[(0,.ptr 0 0 0),(4,.ptr 1 0 0),(7,.eH 2 0 g1.2.2.2.length false),(8,iV v1.1),(9,iV g1.1),(10,.ptr 3 0 0)],[(0,some (.box [aC g18.1,iV g18.2.1])),(1,some (.box [aZ b_.bQ,aU b_.bB,iV b_.aQ.bO,bf b_.aQ.aD,dx b_.bg,bU b_.cB])),(2,some (.row 6 g1.2.2.2.length (bR wu bq g1.2.2.2))),(3,some (.box [.eH 4 0 g14.2.2.length false,.eH 5 0 g15.2.2.length false,gG g16.2.2,aC v53.1,iV v46.1,aC g18.2.2])),(4,some (.row 3 g14.2.2.length (bR yH dn g14.2.2))),(5,some (.row 4 g15.2.2.length (bR G5 dI g15.2.2)))],6⟩) (sq hm bZ fun v58 hm=>si hm (fun _ hm=>ck [9,11,13,18,19] (kr g1 aj v46 g14 g15 g16 v53) r (fun g19=>⟨[(0,.ptr 0 0 0),(4,.ptr 1 0 0),(7,.eH 2 0 g1.2.2.2.length false),(8,iV v1.1),(9,iV g1.1),(10,.ptr 3 0 0),(11,iV g19.1)],[(0,some (.box [aC g19.2.1,iV g19.2.2])),(1,some (.box [aZ b_.bQ,aU b_.bB,iV b_.aQ.bO,bf b_.aQ.aD,dx b_.bg,bU b_.cB])),(2,some (.row 6 g1.2.2.2.length (bR wu bq g1.2.2.2))),(3,some (.box [.eH 4 0 g14.2.2.length false,.eH 5 0 g15.2.2.length false,gG g16.2.2,aC v53.1,iV v46.1,.sl 0 0 true fG])),(4,some (.row 3 g14.2.2.length (bR yH dn g14.2.2))),(5,some (.row 4 g15.2.2.length (bR G5 dI g15.2.2)))],6⟩) (sq hm bZ fun v61 hm=>si hm (fun _ hm=>le hm) fun _ hm=>le hm) fun g19 hm=>sq hm tu fun v60 hm=>le hm) fun _ hm=>le hm) fun g18 hm=>s2 hm fun _ _ hm=>lc [(2,some 30)] [] hm) fun _ hm=>si hm (fun _ hm=>sq hm bZ fun v68 hm=>si hm (fun _ hm=>sn hm fun _ hm=>R3 [9,11,13,18,19] hm (fun g20=>⟨[(7,.eH 1 0 g20.2.2.length false),(8,iV v1.1),(12,iV g20.1),(13,iV g20.2.1)],[(0,some (.box [aC v68.2.L,iV v68.2.At])),(1,some (.row 6 g20.2.2.length (bR wu bq g20.2.2)))],2⟩) [(1,some 2)] [] <|fun agb g20 hm=>si hm (fun _ hm=>s2 hm fun _ _ hm=>s2 hm fun _ _ hm=>s2 hm fun _ _ hm=>le hm) fun _ hm=>R3 [9,11,13,18,19] hm (fun g21=>⟨[(7,.eH 1 0 g21.2.length false),(8,iV v1.1),(126,iV (g20.2.2.length:Int)),(127,iV g21.1)],[(0,some (.box [aC v68.2.L,iV v68.2.At])),(1,some (.row 6 g21.2.length (bR wu bq g21.2)))],2⟩) [] [] <|fun Zm g21 hm=>si hm (fun _ hm=>s2 hm fun _ _ hm=>R3 [9,11,13,18,19] hm (fun g24=>⟨[(7,.eH 1 0 g21.2.length false),(8,iV v1.1),(14,iV g21.1),(15,.eH 2 0 g24.2.length false),(16,iV g24.1),(126,iV (g20.2.2.length:Int)),(127,iV g21.1)],[(0,some (.box [aC v68.2.L,iV v68.2.At])),(1,some (.row 6 g21.2.length (bR wu bq g21.2))),(2,some (.row 1 g24.2.length (bR iV 0 g24.2)))],3⟩) [(2,none)] [] <|fun aga g24 hm=>si hm (fun _ hm=>s2 hm fun _ _ hm=>s2 hm fun _ _ hm=>s2 hm fun _ _ hm=>lc [(2,some 123)] [] hm) fun _ hm=>s2 hm fun _ _ hm=>le hm) fun _ hm=>by cases hm;exact rt [1] []) fun _ hm=>by cases hm;exact rt [2] []) fun c52 hm=>by
 refine ⟨(fun q0=>absurd q0 (vac c52)),?_⟩
 (conv=>whnf)
 refine aY hm fun awE hm=>?_
 (conv=>whnf)
 have hm:r=(g1.2.2.2,(⟨g1.2.1,g1.2.2.1⟩:dz)):=hm
 subst hm
 refine ⟨[2],[],?_⟩
 (conv=>whnf)
 exact ⟨⟨rfl,trivial,⟨⟨sf,r2,trivial⟩,trivial⟩⟩,sf⟩
theorem ac5 {l_:(List Int)} {x_:Int} {r:Bool} (hm:Ym l_ x_ r):S 250 [aC l_,iV x_] [] (.bool r) [] :=sp Tryz.func250 rfl<|l0 hm (fun g1=>⟨[(0,aC l_),(1,iV x_),(5,iV g1)],[],0⟩) <|fun aj g1 hm=>si hm (fun _ hm=>sn hm fun _ hm=>si hm (fun _ hm=>by cases hm;exact re) fun _ hm=>sn hm fun _ hm=>le hm) fun _ hm=>by cases hm;exact re
theorem nA {l_:(List Int)} {vN:Int} {xO:Int} {r:Bool} (hm:lJ l_ vN xO r):S 232 [aC l_,iV vN,iV xO] [] (.bool r) [] :=sp Tryz.func232 rfl<|l0 hm (fun g1=>⟨[(0,aC l_),(1,iV vN),(2,iV xO),(9,aC l_),(10,iV (l_.length:Int)),(11,iV g1)],[],0⟩) <|fun aj g1 hm=>si hm (fun _ hm=>s2 hm fun _ _ hm=>sb hm fun v3 hv3 hm=>cl (fun q0=>((ac5 (hv3 q0)).le ⟨(.sl oz (fun _=>rfl) nofun (lN (f:=iV) (d:=0) (by first | omega | exact Nat.min_le_left _ _ | exact Nat.le_trans (Nat.min_le_left _ _) om | (simp; omega)))),.refl _,trivial⟩ trivial))<|si hm (fun _ hm=>by cases hm;exact re) fun _ hm=>sn hm fun _ hm=>le hm) fun _ hm=>by cases hm;exact re
theorem Ot {a_:(List Int)} {b_:(List Int)} {r:Bool} (hm:Hw a_ b_ r):S 233 [aC a_,aC b_] [] (.bool r) [] :=sp Tryz.func233 rfl<|si hm (fun _ hm=>by cases hm;exact re) fun _ hm=>l0 hm (fun g1=>⟨[(0,aC a_),(1,aC b_),(5,iV g1)],[],0⟩) <|fun aj g1 hm=>si hm (fun _ hm=>s2 hm fun _ _ hm=>si hm (fun _ hm=>by cases hm;exact re) fun _ hm=>sn hm fun _ hm=>le hm) fun _ hm=>by cases hm;exact re
theorem RO {c_:aI} {r:Bool} (hm:zw c_ r):S 208 [Mv c_] [] (.bool r) [] :=sp Tryz.func208 rfl<|si hm (fun _ hm=>s2 hm fun _ _ hm=>by cases hm;exact re) fun _ hm=>si hm (fun _ hm=>si hm (fun _ hm=>sb hm fun v1 hv1 hm=>cl (fun q0=>(nA (hv1 q0)))<|by cases hm;exact re) fun _ hm=>si hm (fun _ hm=>sn hm fun _ hm=>sb hm fun v2 hv2 hm=>cl (fun q0=>(nA (hv2 q0)))<|by cases hm;exact re) fun _ hm=>si hm (fun _ hm=>si hm (fun _ hm=>sb hm fun v3 hv3 hm=>cl (fun q0=>((Ot (hv3 q0)).le ⟨.refl _,(.sl rfl (fun _=>rfl) nofun (gM iV 0 [(0:Int),(1:Int)])),trivial⟩ trivial))<|by cases hm;exact re) fun c6 hm=>by
 refine ⟨.bool false,[],(fun q0=>absurd q0 (vac c6)),?_⟩
 (conv=>whnf)
 have hm:r=(((c_.aO.length:Int)==(1:Int))&&false):=hm
 subst hm
 refine ⟨[],[],?_⟩
 (conv=>whnf)
 exact ⟨⟨rfl,trivial,trivial⟩,rfl⟩) fun _ hm=>by cases hm;exact re) fun _ hm=>si hm (fun _ hm=>sb hm fun v4 hv4 hm=>cl (fun q0=>(nA (hv4 q0)))<|by cases hm;exact re) fun _ hm=>si hm (fun _ hm=>sn hm fun _ hm=>sb hm fun v5 hv5 hm=>cl (fun q0=>(nA (hv5 q0)))<|by cases hm;exact re) fun _ hm=>si hm (fun _ hm=>si hm (fun _ hm=>sb hm fun v6 hv6 hm=>cl (fun q0=>((Ot (hv6 q0)).le ⟨.refl _,(.sl rfl (fun _=>rfl) nofun (gM iV 0 [(0:Int),(1:Int)])),trivial⟩ trivial))<|by cases hm;exact re) fun c10 hm=>by
 refine ⟨.bool false,[],(fun q0=>absurd q0 (vac c10)),?_⟩
 (conv=>whnf)
 have hm:r=(((c_.aO.length:Int)==(1:Int))&&false):=hm
 subst hm
 refine ⟨[],[],?_⟩
 (conv=>whnf)
 exact ⟨⟨rfl,trivial,trivial⟩,rfl⟩) fun _ hm=>by cases hm;exact re
theorem RP {l_:(List aI)} {r:(List Int)} (hm:zx l_ r):S 209 [aZ l_] [] (aC r) [] :=spc [13] Tryz.func209 rfl<|R3 [13] hm (fun g1=>⟨[(3,.eH 0 0 g1.2.length false),(9,aZ l_),(10,iV (l_.length:Int)),(11,iV g1.1)],[(0,some (.row 1 g1.2.length (bR iV 0 g1.2)))],1⟩) [(0,none)] [] <|fun aj g1 hm=>si hm (fun _ hm=>sn hm fun _ hm=>R3 [13] hm (fun g6=>⟨[(3,.eH 0 0 g1.2.length false),(5,.ptr 1 0 0),(6,iV g6.1),(9,aZ l_),(10,iV (l_.length:Int)),(11,iV g1.1),(16,aC ((l_.getD g1.1.toNat aJ).aO)),(17,iV ((((l_.getD g1.1.toNat aJ).aO).length:Nat):Int)),(18,iV g6.2)],[(0,some (.row 1 g1.2.length (bR iV 0 g1.2))),(1,some (.box [iV ((l_.getD g1.1.toNat aJ).fZ),aC ((l_.getD g1.1.toNat aJ).aO),aC ((l_.getD g1.1.toNat aJ).aM),iV ((l_.getD g1.1.toNat aJ).Low),iV ((l_.getD g1.1.toNat aJ).fK)]))],2⟩) [(1,some 25)] [] <|fun jE g6 hm=>si hm (fun _ hm=>s2 hm fun _ _ hm=>sn hm fun _ hm=>le hm) fun _ hm=>ck [13] (mZ g1 aj) r (fun g7=>⟨[(3,.eH 0 0 g1.2.length false),(6,iV g7),(9,aZ l_),(10,iV (l_.length:Int)),(11,iV g1.1)],[(0,some (.row 1 g1.2.length (bR iV 0 g1.2)))],1⟩) (si hm (fun _ hm=>sn hm fun _ hm=>le hm) fun _ hm=>le hm) fun g7 hm=>s2 hm fun _ _ hm=>lc [(0,some 25)] [] hm) fun _ hm=>by cases hm;exact rt [0] []
theorem sI {l_:(List aI)} {r:Int} (hm:ru l_ r):S 159 [aZ l_] [] (iV r) [] :=sp Tryz.func159 rfl<|si hm (fun _ hm=>by cases hm;exact re) fun _ hm=>l0 hm (fun g1=>⟨[(0,aZ l_),(15,aZ l_),(16,iV (l_.length:Int)),(17,iV g1)],[],0⟩) <|fun aj g1 hm=>si hm (fun _ hm=>sn hm fun _ hm=>si hm (fun _ hm=>by cases hm;exact re) fun _ hm=>sn hm fun _ hm=>le hm) fun _ hm=>l0 hm (fun g2=>⟨[(0,aZ l_),(5,iV g2.1),(32,aZ l_),(33,iV (l_.length:Int)),(34,iV g2.2)],[],0⟩) <|fun dK g2 hm=>si hm (fun _ hm=>sn hm fun _ hm=>lf hm (fun g5=>⟨[(0,aZ l_),(5,iV g2.1),(6,iV g2.2),(7,.ptr 0 0 0),(32,aZ l_),(33,iV (l_.length:Int)),(34,iV g2.2),(40,aC ((l_.getD g2.2.toNat aJ).aO)),(41,iV ((((l_.getD g2.2.toNat aJ).aO).length:Nat):Int)),(42,iV g5)],[(0,some (.box [iV ((l_.getD g2.2.toNat aJ).fZ),aC ((l_.getD g2.2.toNat aJ).aO),aC ((l_.getD g2.2.toNat aJ).aM),iV ((l_.getD g2.2.toNat aJ).Low),iV ((l_.getD g2.2.toNat aJ).fK)]))],1⟩) [(0,some 32)] [] <|fun j5 g5 hm=>si hm (fun _ hm=>sn hm fun _ hm=>si hm (fun _ hm=>by cases hm;exact re) fun _ hm=>sn hm fun _ hm=>le hm) fun _ hm=>sq hm RO fun v3 hm=>si hm (fun _ hm=>by cases hm;exact re) fun _ hm=>s2 hm fun _ _ hm=>le hm) fun _ hm=>si hm (fun _ hm=>by cases hm;exact re) fun _ hm=>sq hm RP fun v4 hm=>l0 hm (fun g6=>⟨[(84,aC v4),(85,iV (v4.length:Int)),(86,iV g6)],[],0⟩) <|fun jE g6 hm=>si hm (fun _ hm=>sn hm fun _ hm=>si hm (fun _ hm=>by cases hm;exact re) fun _ hm=>sn hm fun _ hm=>le hm) fun _ hm=>by cases hm;exact re
theorem kN {x_:Int} {vN:Int} {xO:Int} {r:Bool} (hm:p8 x_ vN xO r):S 166 [iV x_,iV vN,iV xO] [] (.bool r) [] :=sp Tryz.func166 rfl<|by cases hm;exact re
theorem sJ {l_:(List ay)} {r:Int} (hm:rz l_ r):S 160 [aU l_] [] (iV r) [] :=sp Tryz.func160 rfl<|si hm (fun _ hm=>by cases hm;exact re) fun _ hm=>l0 hm (fun g1=>⟨[(0,aU l_),(12,aU l_),(13,iV (l_.length:Int)),(14,iV g1)],[],0⟩) <|fun aj g1 hm=>si hm (fun _ hm=>sn hm fun _ hm=>si hm (fun _ hm=>by cases hm;exact re) fun _ hm=>sn hm fun _ hm=>le hm) fun _ hm=>l0 hm (fun g2=>⟨[(23,aU l_),(24,iV (l_.length:Int)),(25,iV g2)],[],0⟩) <|fun dK g2 hm=>si hm (fun _ hm=>s2 hm fun _ _ hm=>sq hm kN fun v13 hm=>sb hm fun v14 aax hm=>cl (fun q0=>(kN (aax q0)))<|sb hm fun v15 Pt hm=>cl (fun q0=>(kN (Pt q0)))<|si hm (fun _ hm=>by cases hm;exact re) fun _ hm=>lf hm (fun g5=>⟨[(6,.ptr 0 0 0),(23,aU l_),(24,iV (l_.length:Int)),(25,iV g2),(65,aC ((l_.getD g2.toNat au).bJ)),(66,iV ((((l_.getD g2.toNat au).bJ).length:Nat):Int)),(67,iV g5)],[(0,some (.box [iV ((l_.getD g2.toNat au).aN),aC ((l_.getD g2.toNat au).bJ),iV ((l_.getD g2.toNat au).gB),iV ((l_.getD g2.toNat au).gY),.bool ((l_.getD g2.toNat au).fQ)]))],1⟩) [(0,some 32)] [] <|fun j5 g5 hm=>si hm (fun _ hm=>sn hm fun _ hm=>sq hm kN fun v18 hm=>s2 hm fun _ _ hm=>si hm (fun _ hm=>by cases hm;exact re) fun _ hm=>sn hm fun _ hm=>le hm) fun _ hm=>sn hm fun _ hm=>le hm) fun _ hm=>by cases hm;exact re
theorem uH {s_:ByteArray} {r:Bool} (hm:pq s_ r):S 150 [.str s_] [] (.bool r) [] :=sp Tryz.func150 rfl<|s2 hm fun _ _ hm=>si hm (fun _ hm=>by cases hm;exact re) fun _ hm=>l0 hm (fun g1=>⟨[(0,.str s_),(3,iV g1)],[],0⟩) <|fun aj g1 hm=>si hm (fun _ hm=>s2 hm fun _ _ hm=>s2 hm fun _ _ hm=>sn hm fun _ hm=>si hm (fun _ hm=>by cases hm;exact re) fun _ hm=>sn hm fun _ hm=>le hm) fun _ hm=>by cases hm;exact re
theorem VP {p_:bn} {i_:Int} {r:Int} (hm:vG p_ i_ r):S 104 [lT p_,iV i_] [] (iV r) [] :=sp Tryz.func104 rfl<|sn hm fun _ hm=>sq hm uH fun v1 hm=>si hm (fun _ hm=>by cases hm;exact re) fun _ hm=>lf hm (fun g1=>⟨[(1,iV i_),(2,.ptr 0 0 0),(5,.ptr 1 0 0),(6,iV g1)],[(0,some (.box [iV p_.bO,bf p_.aD])),(1,some (.box [.str ((p_.aD.getD i_.toNat aG).vU),aC ((p_.aD.getD i_.toNat aG).bO),gG ((p_.aD.getD i_.toNat aG).ak)]))],2⟩) [(1,some 56)] [] <|fun aj g1 hm=>si hm (fun _ hm=>sn hm fun _ hm=>si hm (fun _ hm=>by cases hm;exact re) fun _ hm=>sn hm fun _ hm=>le hm) fun _ hm=>si hm (fun _ hm=>by cases hm;exact re) fun _ hm=>si hm (fun _ hm=>by cases hm;exact re) fun _ hm=>l0 hm (fun g2=>⟨[(2,.ptr 0 0 0),(5,.ptr 1 0 0),(7,iV g2)],[(0,some (.box [iV p_.bO,bf p_.aD])),(1,some (.box [.str ((p_.aD.getD i_.toNat aG).vU),aC ((p_.aD.getD i_.toNat aG).bO),gG ((p_.aD.getD i_.toNat aG).ak)]))],2⟩) <|fun dK g2 hm=>si hm (fun _ hm=>s2 hm fun _ _ hm=>si hm (fun _ hm=>by cases hm;exact re) fun _ hm=>sn hm fun _ hm=>le hm) fun _ hm=>lf hm (fun g3=>⟨[(5,.ptr 0 0 0),(8,iV g3)],[(0,some (.box [.str ((p_.aD.getD i_.toNat aG).vU),aC ((p_.aD.getD i_.toNat aG).bO),gG ((p_.aD.getD i_.toNat aG).ak)]))],1⟩) [(0,some 1)] [] <|fun jB g3 hm=>si hm (fun _ hm=>s2 hm fun _ _ hm=>sn hm fun _ hm=>si hm (fun _ hm=>by cases hm;exact re) fun _ hm=>sn hm fun _ hm=>le hm) fun _ hm=>l0 hm (fun g4=>⟨[(5,.ptr 0 0 0),(9,iV g4)],[(0,some (.box [.str ((p_.aD.getD i_.toNat aG).vU),aC ((p_.aD.getD i_.toNat aG).bO),gG ((p_.aD.getD i_.toNat aG).ak)]))],1⟩) <|fun jm g4 hm=>si hm (fun _ hm=>sn hm fun _ hm=>sq hm uH fun v4 hm=>si hm (fun _ hm=>by cases hm;exact re) fun _ hm=>sn hm fun _ hm=>le hm) fun _ hm=>l0 hm (fun g5=>⟨[(5,.ptr 0 0 0),(10,iV g5)],[(0,some (.box [.str ((p_.aD.getD i_.toNat aG).vU),aC ((p_.aD.getD i_.toNat aG).bO),gG ((p_.aD.getD i_.toNat aG).ak)]))],1⟩) <|fun j5 g5 hm=>si hm (fun _ hm=>l0 hm (fun g8=>⟨[(5,.ptr 0 0 0),(10,iV g5),(11,iV g8)],[(0,some (.box [.str ((p_.aD.getD i_.toNat aG).vU),aC ((p_.aD.getD i_.toNat aG).bO),gG ((p_.aD.getD i_.toNat aG).ak)]))],1⟩) <|fun WO g8 hm=>si hm (fun _ hm=>s2 hm fun _ _ hm=>si hm (fun _ hm=>by cases hm;exact re) fun _ hm=>sn hm fun _ hm=>le hm) fun _ hm=>sn hm fun _ hm=>le hm) fun _ hm=>by cases hm;exact re
theorem za {p_:bn} {r:Int} (hm:oD p_ r):S 52 [lT p_] [] (iV r) [] :=sp Tryz.func52 rfl<|si hm (fun _ hm=>by cases hm;exact re) fun _ hm=>si hm (fun _ hm=>by cases hm;exact re) fun _ hm=>l0 hm (fun g1=>⟨[(1,.ptr 0 0 0),(3,iV g1)],[(0,some (.box [iV p_.bO,bf p_.aD]))],1⟩) <|fun aj g1 hm=>si hm (fun _ hm=>sq hm VP fun v3 hm=>si hm (fun _ hm=>by cases hm;exact re) fun _ hm=>sn hm fun _ hm=>le hm) fun _ hm=>by cases hm;exact re
theorem zh {l_:(List d9)} {r:Int} (hm:oF l_ r):S 77 [dx l_] [] (iV r) [] :=sp Tryz.func77 rfl<|si hm (fun _ hm=>by cases hm;exact re) fun _ hm=>l0 hm (fun g1=>⟨[(0,dx l_),(3,iV g1)],[],0⟩) <|fun aj g1 hm=>si hm (fun _ hm=>l0 hm (fun g6=>⟨[(0,dx l_),(3,iV g1),(4,iV g6)],[],0⟩) <|fun jE g6 hm=>sn hm fun _ hm=>si hm (fun _ hm=>s2 hm fun _ _ hm=>s2 hm fun _ _ hm=>si hm (fun _ hm=>by cases hm;exact re) fun _ hm=>sn hm fun _ hm=>le hm) fun _ hm=>l0 hm (fun g7=>⟨[(0,dx l_),(3,iV g1),(5,iV g7)],[],0⟩) <|fun mW g7 hm=>sn hm fun _ hm=>si hm (fun _ hm=>s2 hm fun _ _ hm=>s2 hm fun _ _ hm=>sn hm fun _ hm=>si hm (fun _ hm=>by cases hm;exact re) fun _ hm=>sn hm fun _ hm=>le hm) fun _ hm=>sn hm fun _ hm=>le hm) fun _ hm=>by cases hm;exact re
theorem zi {l_:(List dB)} {r:Int} (hm:oG l_ r):S 131 [bU l_] [] (iV r) [] :=sp Tryz.func131 rfl<|si hm (fun _ hm=>by cases hm;exact re) fun _ hm=>l0 hm (fun g1=>⟨[(0,bU l_),(3,iV g1)],[],0⟩) <|fun aj g1 hm=>si hm (fun _ hm=>s2 hm fun _ _ hm=>si hm (fun _ hm=>by cases hm;exact re) fun _ hm=>sn hm fun _ hm=>le hm) fun _ hm=>by cases hm;exact re
theorem VQ {b_:aR} {r:Int} (hm:Fg b_ r):S 111 [jy b_] [] (iV r) [] :=sp Tryz.func111 rfl<|sq hm sI fun v1 hm=>si hm (fun _ hm=>by cases hm;exact re) fun _ hm=>sq hm sJ fun v2 hm=>si hm (fun _ hm=>by cases hm;exact re) fun _ hm=>sq hm za fun v3 hm=>si hm (fun _ hm=>by cases hm;exact re) fun _ hm=>sq hm zh fun v4 hm=>si hm (fun _ hm=>by cases hm;exact re) fun _ hm=>sq hm zi fun v5 hm=>by cases hm;exact re
theorem XO {b_:aR} {l_:(List aK)} {x_:aK} {r:Int} (hm:Jt b_ l_ x_ r):S 112 [jy b_,dM l_,wu x_] [] (iV r) [] :=sp Tryz.func112 rfl<|si hm (fun _ hm=>by cases hm;exact re) fun _ hm=>lf hm (fun g1=>⟨[(1,dM l_),(3,.ptr 0 0 0),(5,.ptr 1 0 0),(35,fB x_.bY),(36,iV (x_.bY.length:Int)),(37,iV g1)],[(0,some (.box [aZ b_.bQ,aU b_.bB,iV b_.aQ.bO,bf b_.aQ.aD,dx b_.bg,bU b_.cB])),(1,some (.box [fB x_.bY,fJ x_.fD,gG x_.ak,aC x_.bg,iV x_.fP,aC x_.bT]))],2⟩) [(1,some 8)] [] <|fun aj g1 hm=>si hm (fun _ hm=>sn hm fun _ hm=>si hm (fun _ hm=>by cases hm;exact re) fun _ hm=>sn hm fun _ hm=>le hm) fun _ hm=>l0 hm (fun g2=>⟨[(1,dM l_),(3,.ptr 0 0 0),(5,.ptr 1 0 0),(71,fJ x_.fD),(72,iV (x_.fD.length:Int)),(73,iV g2)],[(0,some (.box [aZ b_.bQ,aU b_.bB,iV b_.aQ.bO,bf b_.aQ.aD,dx b_.bg,bU b_.cB])),(1,some (.box [fB x_.bY,fJ x_.fD,gG x_.ak,aC x_.bg,iV x_.fP,aC x_.bT]))],2⟩) <|fun dK g2 hm=>si hm (fun _ hm=>sn hm fun _ hm=>si hm (fun _ hm=>by cases hm;exact re) fun _ hm=>sn hm fun _ hm=>le hm) fun _ hm=>l0 hm (fun g3=>⟨[(1,dM l_),(3,.ptr 0 0 0),(5,.ptr 1 0 0),(117,gG x_.ak),(118,iV (x_.ak.length:Int)),(119,iV g3)],[(0,some (.box [aZ b_.bQ,aU b_.bB,iV b_.aQ.bO,bf b_.aQ.aD,dx b_.bg,bU b_.cB])),(1,some (.box [fB x_.bY,fJ x_.fD,gG x_.ak,aC x_.bg,iV x_.fP,aC x_.bT]))],2⟩) <|fun jB g3 hm=>si hm (fun _ hm=>sn hm fun _ hm=>sq hm uH fun v3 hm=>si hm (fun _ hm=>by cases hm;exact re) fun _ hm=>sn hm fun _ hm=>le hm) fun _ hm=>l0 hm (fun g4=>⟨[(1,dM l_),(3,.ptr 0 0 0),(5,.ptr 1 0 0),(128,aC x_.bg),(129,iV (x_.bg.length:Int)),(130,iV g4)],[(0,some (.box [aZ b_.bQ,aU b_.bB,iV b_.aQ.bO,bf b_.aQ.aD,dx b_.bg,bU b_.cB])),(1,some (.box [fB x_.bY,fJ x_.fD,gG x_.ak,aC x_.bg,iV x_.fP,aC x_.bT]))],2⟩) <|fun jm g4 hm=>si hm (fun _ hm=>sn hm fun _ hm=>si hm (fun _ hm=>by cases hm;exact re) fun _ hm=>sn hm fun _ hm=>le hm) fun _ hm=>si hm (fun _ hm=>by cases hm;exact re) fun _ hm=>lf hm (fun g5=>⟨[(1,dM l_),(5,.ptr 0 0 0),(156,aC x_.bT),(157,iV (x_.bT.length:Int)),(158,iV g5)],[(0,some (.box [fB x_.bY,fJ x_.fD,gG x_.ak,aC x_.bg,iV x_.fP,aC x_.bT]))],1⟩) [(0,some 1)] [] <|fun j5 g5 hm=>si hm (fun _ hm=>sn hm fun _ hm=>si hm (fun _ hm=>by cases hm;exact re) fun _ hm=>sn hm fun _ hm=>le hm) fun _ hm=>l0 hm (fun g6=>⟨[(5,.ptr 0 0 0),(17,iV g6)],[(0,some (.box [fB x_.bY,fJ x_.fD,gG x_.ak,aC x_.bg,iV x_.fP,aC x_.bT]))],1⟩) <|fun jE g6 hm=>si hm (fun _ hm=>s2 hm fun _ _ hm=>sn hm fun _ hm=>si hm (fun _ hm=>by cases hm;exact re) fun _ hm=>sn hm fun _ hm=>le hm) fun _ hm=>by cases hm;exact re
theorem uI {b_:aR} {l_:(List aK)} {r:Int} (hm:uR b_ l_ r):S 62 [jy b_,dM l_] [] (iV r) [] :=sp Tryz.func62 rfl<|sq hm VQ fun v1 hm=>si hm (fun _ hm=>by cases hm;exact re) fun _ hm=>si hm (fun _ hm=>by cases hm;exact re) fun _ hm=>l0 hm (fun g1=>⟨[(1,dM l_),(2,.ptr 0 0 0),(6,iV g1)],[(0,some (.box [aZ b_.bQ,aU b_.bB,iV b_.aQ.bO,bf b_.aQ.aD,dx b_.bg,bU b_.cB]))],1⟩) <|fun aj g1 hm=>si hm (fun _ hm=>sn hm fun _ hm=>sq hm XO fun v4 hm=>si hm (fun _ hm=>by cases hm;exact re) fun _ hm=>sn hm fun _ hm=>le hm) fun _ hm=>by cases hm;exact re
theorem pJ {l_:(List aK)} {ah:(List Int)} {r:Bool} (hm:nG l_ ah r):S 63 [dM l_,aC ah] [] (.bool r) [] :=sp Tryz.func63 rfl<|l0 hm (fun g1=>⟨[(0,dM l_),(1,aC ah),(5,iV g1)],[],0⟩) <|fun aj g1 hm=>si hm (fun _ hm=>s2 hm fun _ _ hm=>si hm (fun _ hm=>by cases hm;exact re) fun _ hm=>l0 hm (fun g4=>⟨[(0,dM l_),(1,aC ah),(5,iV g1),(6,iV g4)],[],0⟩) <|fun jm g4 hm=>si hm (fun _ hm=>s2 hm fun _ _ hm=>si hm (fun _ hm=>by cases hm;exact re) fun _ hm=>sn hm fun _ hm=>le hm) fun _ hm=>sn hm fun _ hm=>le hm) fun _ hm=>by cases hm;exact re
theorem Uj {l_:(List aK)} {ah:(List Int)} {r:(List bK)} (hm:SN l_ ah r):S 22 [dM l_,aC ah] [] (fB r) [] :=sp Tryz.func22 rfl<|lf hm (fun g1=>⟨[(0,dM l_),(5,.eH 0 0 g1.2.length false),(8,aC ah),(9,iV (ah.length:Int)),(10,iV g1.1)],[(0,some (.row 3 g1.2.length (bR yH dn g1.2)))],1⟩) [(0,none)] [] <|fun aj g1 hm=>si hm (fun _ hm=>sn hm fun _ hm=>si hm (fun _ hm=>s2 hm fun _ _ hm=>sn hm fun _ hm=>lc [(0,some 145)] [] hm) fun _ hm=>sn hm fun _ hm=>le hm) fun _ hm=>by cases hm;exact rt [0] []
theorem VR {l_:(List aK)} {ah:(List Int)} {r:(List aW)} (hm:WQ l_ ah r):S 24 [dM l_,aC ah] [] (fJ r) [] :=sp Tryz.func24 rfl<|lf hm (fun g1=>⟨[(0,dM l_),(5,.eH 0 0 g1.2.length false),(8,aC ah),(9,iV (ah.length:Int)),(10,iV g1.1)],[(0,some (.row 4 g1.2.length (bR G5 dI g1.2)))],1⟩) [(0,none)] [] <|fun aj g1 hm=>si hm (fun _ hm=>sn hm fun _ hm=>si hm (fun _ hm=>s2 hm fun _ _ hm=>sn hm fun _ hm=>lc [(0,some 145)] [] hm) fun _ hm=>sn hm fun _ hm=>le hm) fun _ hm=>by cases hm;exact rt [0] []
theorem Ao {l_:(List aK)} {ah:(List Int)} {r:Int} (hm:p9 l_ ah r):S 64 [dM l_,aC ah] [] (iV r) [] :=sp Tryz.func64 rfl<|l0 hm (fun g1=>⟨[(0,dM l_),(5,iV g1.1),(8,aC ah),(9,iV (ah.length:Int)),(10,iV g1.2)],[],0⟩) <|fun aj g1 hm=>si hm (fun _ hm=>sn hm fun _ hm=>si hm (fun _ hm=>s2 hm fun _ _ hm=>sn hm fun _ hm=>le hm) fun _ hm=>sn hm fun _ hm=>le hm) fun _ hm=>by cases hm;exact re
theorem FP {l_:(List aI)} {m_:(List bK)} {r:Bool} (hm:wQ l_ m_ r):S 161 [aZ l_,fB m_] [] (.bool r) [] :=sp Tryz.func161 rfl<|sq hm sI fun v1 hm=>si hm (fun _ hm=>by cases hm;exact re) fun _ hm=>l0 hm (fun g1=>⟨[(0,aZ l_),(15,fB m_),(16,iV (m_.length:Int)),(17,iV g1)],[],0⟩) <|fun aj g1 hm=>si hm (fun _ hm=>sn hm fun _ hm=>si hm (fun _ hm=>by cases hm;exact re) fun _ hm=>sn hm fun _ hm=>le hm) fun _ hm=>by cases hm;exact re
theorem VT {l_:(List aI)} {m_:(List bK)} {r:Int} (hm:Fh l_ m_ r):S 113 [aZ l_,fB m_] [] (iV r) [] :=sp Tryz.func113 rfl<|sq hm sI fun v1 hm=>si hm (fun _ hm=>by cases hm;exact re) fun _ hm=>sq hm FP fun v2 hm=>si hm (fun _ hm=>by cases hm;exact re) fun _ hm=>by cases hm;exact re
theorem Uk {c_:aI} {uo:Int} {r:Int} (hm:Cy c_ uo r):S 217 [Mv c_,iV uo] [] (iV r) [] :=sp Tryz.func217 rfl<|si hm (fun _ hm=>by cases hm;exact re) fun _ hm=>si hm (fun _ hm=>s2 hm fun _ _ hm=>by cases hm;exact re) fun _ hm=>sn hm fun _ hm=>by cases hm;exact re
theorem uX {a_:Int} {b_:Int} {r:Int} (hm:ql a_ b_ r):S 240 [iV a_,iV b_] [] (iV r) [] :=sp Tryz.func240 rfl<|l0 hm (fun g1=>⟨[(0,iV g1.1),(1,iV g1.2)],[],0⟩) <|fun aj g1 hm=>si hm (fun _ hm=>sn hm fun _ hm=>le hm) fun _ hm=>by cases hm;exact re
theorem sK {r_:bI} {r:Bool} (hm:rA r_ r):S 220 [pW r_] [] (.bool r) [] :=sp Tryz.func220 rfl<|sb hm fun v1 hv1 hm=>cl (fun q0=>(uX (hv1 q0)))<|by cases hm;exact re
theorem FQ {k_:Int} {r:Bool} (hm:wR k_ r):S 238 [iV k_] [] (.bool r) [] :=sp Tryz.func238 rfl<|by cases hm;exact re
theorem Ou {wE:Int} {wF:Int} {r:(bI×Int)} (hm:H6 wE wF r):S 239 [iV wE,iV wF] [] (.kH [pW r.1,iV r.2]) [] :=sp Tryz.func239 rfl<|si hm (fun _ hm=>by cases hm;exact re) fun _ hm=>sq hm uX fun v1 hm=>s2 hm fun _ _ hm=>sq hm sK fun v2 hm=>si hm (fun _ hm=>by cases hm;exact re) fun _ hm=>by cases hm;exact re
theorem XP {r_:bI} {k_:Int} {r:(bI×Int)} (hm:Ju r_ k_ r):S 218 [pW r_,iV k_] [] (.kH [pW r.1,iV r.2]) [] :=sp Tryz.func218 rfl<|sq hm sK fun v1 hm=>si hm (fun _ hm=>by cases hm;exact re) fun _ hm=>sq hm FQ fun v2 hm=>si hm (fun _ hm=>by cases hm;exact re) fun _ hm=>sn hm fun _ hm=>sq hm Ou fun v3 hm=>by cases hm;exact re
theorem VU {r_:bI} {k_:Int} {r:(bI×Int)} (hm:Fj r_ k_ r):S 219 [pW r_,iV k_] [] (.kH [pW r.1,iV r.2]) [] :=sp Tryz.func219 rfl<|sq hm sK fun v1 hm=>si hm (fun _ hm=>by cases hm;exact re) fun _ hm=>sq hm FQ fun v2 hm=>si hm (fun _ hm=>by cases hm;exact re) fun _ hm=>sq hm uX fun v3 hm=>s2 hm fun _ _ hm=>si hm (fun _ hm=>by cases hm;exact re) fun _ hm=>s2 hm fun _ _ hm=>sn hm fun _ hm=>sq hm Ou fun v4 hm=>by cases hm;exact re
theorem FR {l_:(List aI)} {s_:(List Int)} {r:((List bI)×(List Bool))} (hm:wS l_ s_ r):S 176 [aZ l_,aC s_] [] (.kH [qM r.1,aT r.2]) [] :=spc [10,21] Tryz.func176 rfl<|R3 [10,21] hm (fun g1=>⟨[(1,aC s_),(6,.eH 0 0 g1.2.1.length false),(7,.eH 1 0 g1.2.2.length false),(14,aZ l_),(15,iV (l_.length:Int)),(16,iV g1.1)],[(0,some (.row 2 g1.2.1.length (bR pW dV g1.2.1))),(1,some (.row 1 g1.2.2.length (bR AV.bool false g1.2.2)))],2⟩) [(0,none),(1,none)] [] <|fun aj g1 hm=>si hm (fun _ hm=>sn hm fun _ hm=>ck [10,21] (nW l_ s_ g1 aj) r (fun g6=>⟨[(1,aC s_),(6,.eH 0 0 g1.2.1.length false),(7,.eH 1 0 g1.2.2.length false),(8,iV g1.1),(9,.ptr 2 0 0),(10,.ptr 3 0 0),(11,.bool g6.1),(14,aZ l_),(15,iV (l_.length:Int)),(16,iV g1.1)],[(0,some (.row 2 g1.2.1.length (bR pW dV g1.2.1))),(1,some (.row 1 g1.2.2.length (bR AV.bool false g1.2.2))),(2,some (.box [iV ((l_.getD g1.1.toNat aJ).fZ),aC ((l_.getD g1.1.toNat aJ).aO),aC ((l_.getD g1.1.toNat aJ).aM),iV ((l_.getD g1.1.toNat aJ).Low),iV ((l_.getD g1.1.toNat aJ).fK)])),(3,some (.box [iV g6.2.1,iV g6.2.2]))],4⟩) (sn hm fun _ hm=>sq hm Uk fun v18 hm=>si hm (fun _ hm=>s2 hm fun _ _ hm=>lc [(2,some 34),(3,some 66)] [] hm) fun _ hm=>lc [(2,some 34),(3,some 66)] [] hm) fun g6 hm=>s2 hm fun _ _ hm=>ck [10,21] (jl g1 aj) r (fun g7=>⟨[(1,aC s_),(6,.eH 0 0 g1.2.1.length false),(7,.eH 1 0 g1.2.2.length false),(10,.ptr 2 0 0),(11,.bool g7.1),(14,aZ l_),(15,iV (l_.length:Int)),(16,iV g1.1)],[(0,some (.row 2 g1.2.1.length (bR pW dV g1.2.1))),(1,some (.row 1 g1.2.2.length (bR AV.bool false g1.2.2))),(2,some (.box [iV g7.2.1,iV g7.2.2]))],3⟩) (si hm (fun _ hm=>lc [(2,some 3)] [] hm) fun _ hm=>si hm (fun _ hm=>sq hm XP fun v16 hm=>lc [(2,some 3)] [] hm) fun _ hm=>si hm (fun _ hm=>sq hm VU fun v17 hm=>lc [(2,some 3)] [] hm) fun _ hm=>si hm (fun _ hm=>si hm (fun _ hm=>lc [(2,some 3)] [] hm) fun _ hm=>lc [(2,some 3)] [] hm) fun _ hm=>lc [(2,some 3)] [] hm) fun g7 hm=>s2 hm fun _ _ hm=>sn hm fun _ hm=>lc [(0,some 27),(1,some 59)] [] hm) fun _ hm=>by cases hm;exact rt [0,1] []
theorem xM {r_:bI} {Ch:Int} {nV:Int} {r:Bool} (hm:rY r_ Ch nV r):S 177 [pW r_,iV Ch,iV nV] [] (.bool r) [] :=sp Tryz.func177 rfl<|sq hm sK fun v1 hm=>si hm (fun _ hm=>by cases hm;exact re) fun _ hm=>s2 hm fun _ _ hm=>by cases hm;exact re
theorem Ov {l_:(List aI)} {r_:(List bI)} {qC:(List Bool)} {r:Bool} (hm:H7 l_ r_ qC r):S 178 [aZ l_,qM r_,aT qC] [] (.bool r) [] :=sp Tryz.func178 rfl<|l0 hm (fun g1=>⟨[(1,qM r_),(2,aT qC),(9,aZ l_),(10,iV (l_.length:Int)),(11,iV g1)],[],0⟩) <|fun aj g1 hm=>si hm (fun _ hm=>s2 hm fun _ _ hm=>sn hm fun _ hm=>sb hm fun v3 hv3 hm=>cl (fun q0=>(xM (hv3 q0)))<|si hm (fun _ hm=>by cases hm;exact re) fun _ hm=>sn hm fun _ hm=>le hm) fun _ hm=>by cases hm;exact re
theorem XQ {l_:(List aI)} {s_:(List Int)} {m_:(List bK)} {r:Bool} (hm:Jv l_ s_ m_ r):S 162 [aZ l_,aC s_,fB m_] [] (.bool r) [] :=sp Tryz.func162 rfl<|sq hm FR fun v1 hm=>l0 hm (fun g1=>⟨[(0,aZ l_),(7,qM v1.1),(8,aT v1.2),(17,fB m_),(18,iV (m_.length:Int)),(19,iV g1)],[],0⟩) <|fun aj g1 hm=>si hm (fun _ hm=>s2 hm fun _ _ hm=>sn hm fun _ hm=>sb hm fun v4 hv4 hm=>cl (fun q0=>(xM (hv4 q0)))<|si hm (fun _ hm=>by cases hm;exact re) fun _ hm=>sn hm fun _ hm=>le hm) fun _ hm=>sq hm Ov fun v5 hm=>by cases hm;exact re
theorem XR {l_:(List aI)} {s_:(List Int)} {r:((List Int)×Bool)} (hm:Jw l_ s_ r):S 163 [aZ l_,aC s_] [] (.kH [aC r.1,.bool r.2]) [] :=spc [6] Tryz.func163 rfl<|s2 hm fun _ _ hm=>R3 [6] hm (fun g1=>⟨[(0,aZ l_),(6,.eH 0 0 g1.2.length false),(7,iV g1.1)],[(0,some (.row 1 g1.2.length (bR iV 0 g1.2)))],1⟩) [(0,some 32)] [] <|fun aj g1 hm=>si hm (fun _ hm=>ck [6] (Gb l_ g1 aj) r (fun g4=>⟨[(0,aZ l_),(6,.eH 0 0 g4.length false),(7,iV g1.1)],[(0,some (.row 1 g4.length (bR iV 0 g4)))],1⟩) (s2 hm fun _ _ hm=>sn hm fun _ hm=>le hm) fun g4 hm=>s2 hm fun _ _ hm=>si hm (fun _ hm=>by cases hm;exact rt [0] []) fun _ hm=>s2 hm fun _ _ hm=>le hm) fun _ hm=>by cases hm;exact re
theorem Z0 {l_:(List aI)} {m_:(List bK)} {r:(List (List Int))} (hm:OW l_ m_ r):S 114 [aZ l_,fB m_] [] (yI r) [] :=spc [4,6] Tryz.func114 rfl<|sn hm fun _ hm=>R3 [4,6] hm (fun g1=>⟨[(0,aZ l_),(1,fB m_),(5,.eH 0 0 g1.2.2.length false),(6,aC g1.1),(7,.bool g1.2.1)],[(0,some (.row 1 g1.2.2.length (bR aC [] g1.2.2)))],1⟩) [(0,none)] [32] <|fun aj g1 hm=>ck [4,6] (Jy l_ m_ g1 aj) r (fun g6=>⟨[(0,aZ l_),(1,fB m_),(5,.eH 0 0 g1.2.2.length false),(6,aC g1.1)],[(0,some (.row 1 g1.2.2.length (bR aC [] g1.2.2)))],1⟩) (si hm (fun _ hm=>le hm) fun _ hm=>by cases hm;exact rt [0] []) fun g6 hm=>ck [4,6] (wT l_ g1 aj) r (fun g7=>⟨[(0,aZ l_),(1,fB m_),(5,.eH 0 0 g7.length false),(6,aC g1.1)],[(0,some (.row 1 g7.length (bR aC [] g7)))],1⟩) (sq hm XQ fun v9 hm=>si hm (fun _ hm=>sn hm fun _ hm=>lc [(0,some 57)] [] hm) fun _ hm=>le hm) fun g7 hm=>sq hm XR fun v8 hm=>le hm
theorem II {l_:(List aI)} {m_:(List bK)} {r:((List Int)×Int)} (hm:zZ l_ m_ r):S 65 [aZ l_,fB m_] [] (.kH [aC r.1,iV r.2]) [] :=sp Tryz.func65 rfl<|sq hm VT fun v1 hm=>si hm (fun _ hm=>by cases hm;exact re) fun _ hm=>sq hm Z0 fun v2 hm=>si hm (fun _ hm=>by cases hm;exact re) fun _ hm=>sn hm fun _ hm=>by cases hm;exact re
theorem IJ {l_:(List ay)} {d_:(List aW)} {r:Bool} (hm:z8 l_ d_ r):S 164 [aU l_,fJ d_] [] (.bool r) [] :=sp Tryz.func164 rfl<|sq hm sJ fun v1 hm=>si hm (fun _ hm=>by cases hm;exact re) fun _ hm=>l0 hm (fun g1=>⟨[(0,aU l_),(15,fJ d_),(16,iV (d_.length:Int)),(17,iV g1)],[],0⟩) <|fun aj g1 hm=>si hm (fun _ hm=>s2 hm fun _ _ hm=>sq hm kN fun v8 hm=>sb hm fun v9 hv9 hm=>cl (fun q0=>(kN (hv9 q0)))<|sb hm fun v10 EC hm=>cl (fun q0=>(kN (EC q0)))<|si hm (fun _ hm=>by cases hm;exact re) fun _ hm=>sn hm fun _ hm=>le hm) fun _ hm=>by cases hm;exact re
theorem VW {l_:(List ay)} {d_:(List aW)} {r:Int} (hm:Fp l_ d_ r):S 115 [aU l_,fJ d_] [] (iV r) [] :=sp Tryz.func115 rfl<|sq hm sJ fun v1 hm=>si hm (fun _ hm=>by cases hm;exact re) fun _ hm=>sq hm IJ fun v2 hm=>si hm (fun _ hm=>by cases hm;exact re) fun _ hm=>by cases hm;exact re
theorem Lf {l_:(List ay)} {d_:(List aW)} {r:(List Bool)} (hm:D5 l_ d_ r):S 116 [aU l_,fJ d_] [] (aT r) [] :=sp Tryz.func116 rfl<|s2 hm fun _ _ hm=>lf hm (fun g1=>⟨[(0,aU l_),(1,fJ d_),(5,.eH 0 0 g1.2.length false),(6,iV g1.1)],[(0,some (.row 1 g1.2.length (bR AV.bool false g1.2)))],1⟩) [(0,some 24)] [] <|fun aj g1 hm=>si hm (fun _ hm=>s2 hm fun _ _ hm=>sn hm fun _ hm=>l0 hm (fun g4=>⟨[(0,aU l_),(1,fJ d_),(5,.eH 0 0 g4.2.length false),(6,iV g1.1),(34,fJ d_),(35,iV (d_.length:Int)),(36,iV g4.1)],[(0,some (.row 1 g4.2.length (bR AV.bool false g4.2)))],1⟩) <|fun jm g4 hm=>si hm (fun _ hm=>s2 hm fun _ _ hm=>s2 hm fun _ _ hm=>le hm) fun _ hm=>s2 hm fun _ _ hm=>si hm (fun _ hm=>s2 hm fun _ _ hm=>le hm) fun _ hm=>sn hm fun _ hm=>le hm) fun _ hm=>by cases hm;exact rt [0] []
theorem VX {s_:ay} {v_:Int} {r:Int} (hm:Fq s_ v_ r):S 117 [Cb s_,iV v_] [] (iV r) [] :=sp Tryz.func117 rfl<|l0 hm (fun g1=>⟨[(1,iV v_),(8,aC s_.bJ),(9,iV (s_.bJ.length:Int)),(10,iV g1)],[],0⟩) <|fun aj g1 hm=>si hm (fun _ hm=>sn hm fun _ hm=>si hm (fun _ hm=>by cases hm;exact re) fun _ hm=>sn hm fun _ hm=>le hm) fun _ hm=>by cases hm;exact re
theorem sM {l_:(List ay)} {r_:cO} {k_:Int} {r:Int} (hm:rC l_ r_ k_ r):S 118 [aU l_,Ay r_,iV k_] [] (iV r) [] :=sp Tryz.func118 rfl<|s2 hm fun _ _ hm=>sn hm fun _ hm=>by cases hm;exact re
theorem VY {l_:(List ay)} {d_:(List aW)} {r:(List Int)} (hm:Fu l_ d_ r):S 165 [aU l_,fJ d_] [] (aC r) [] :=sp Tryz.func165 rfl<|s2 hm fun _ _ hm=>lf hm (fun g1=>⟨[(0,aU l_),(1,fJ d_),(5,.eH 0 0 g1.2.length false),(6,iV g1.1)],[(0,some (.row 1 g1.2.length (bR iV 0 g1.2)))],1⟩) [(0,some 24)] [] <|fun aj g1 hm=>si hm (fun _ hm=>l0 hm (fun g4=>⟨[(0,aU l_),(1,fJ d_),(5,.eH 0 0 g4.2.length false),(6,iV g1.1),(20,fJ d_),(21,iV (d_.length:Int)),(22,iV g4.1)],[(0,some (.row 1 g4.2.length (bR iV 0 g4.2)))],1⟩) <|fun jm g4 hm=>si hm (fun _ hm=>sn hm fun _ hm=>si hm (fun _ hm=>s2 hm fun _ _ hm=>s2 hm fun _ _ hm=>le hm) fun _ hm=>sn hm fun _ hm=>le hm) fun _ hm=>sn hm fun _ hm=>si hm (fun _ hm=>s2 hm fun _ _ hm=>s2 hm fun _ _ hm=>sn hm fun _ hm=>le hm) fun _ hm=>sn hm fun _ hm=>le hm) fun _ hm=>by cases hm;exact rt [0] []
theorem IK {l_:(List ay)} {r_:cO} {d_:(List aW)} {r:Bool} (hm:Aa l_ r_ d_ r):S 119 [aU l_,Ay r_,fJ d_] [] (.bool r) [] :=sp Tryz.func119 rfl<|sq hm Lf fun v1 hm=>sq hm VY fun v2 hm=>l0 hm (fun g1=>⟨[(0,aU l_),(2,fJ d_),(4,.ptr 0 0 0),(7,aT v1),(8,aC v2),(19,aU l_),(20,iV (l_.length:Int)),(21,iV g1)],[(0,some (.box [aT r_.On,aC r_.dP]))],1⟩) <|fun aj g1 hm=>si hm (fun _ hm=>s2 hm fun _ _ hm=>sn hm fun _ hm=>si hm (fun _ hm=>by cases hm;exact re) fun _ hm=>sn hm fun _ hm=>si hm (fun _ hm=>sn hm fun _ hm=>le hm) fun _ hm=>s2 hm fun _ _ hm=>sb hm fun v7 hv7 hm=>cl (fun q0 q1 q2=>(sM (hv7 q0 q1 q2)))<|sb hm fun v8 CU hm=>cl (fun q0 q1 q2=>(sM (CU q0 q1 q2)))<|sn hm fun _ hm=>si hm (fun _ hm=>by cases hm;exact re) fun _ hm=>sn hm fun _ hm=>le hm) fun _ hm=>l0 hm (fun g2=>⟨[(0,aU l_),(4,.ptr 0 0 0),(81,fJ d_),(82,iV (d_.length:Int)),(83,iV g2)],[(0,some (.box [aT r_.On,aC r_.dP]))],1⟩) <|fun dK g2 hm=>si hm (fun _ hm=>sn hm fun _ hm=>sq hm sM fun v13 hm=>sq hm kN fun v14 hm=>si hm (fun _ hm=>by cases hm;exact re) fun _ hm=>sn hm fun _ hm=>le hm) fun _ hm=>by cases hm;exact re
theorem IL {l_:(List ay)} {d_:(List aW)} {r:(cO×Int)} (hm:Ac l_ d_ r):S 66 [aU l_,fJ d_] [] (.kH [Ay r.1,iV r.2]) [] :=spc [17] Tryz.func66 rfl<|sq hm VW fun v1 hm=>si hm (fun _ hm=>by cases hm;exact re) fun _ hm=>sq hm Lf fun v2 hm=>s2 hm fun _ _ hm=>R3 [17] hm (fun g1=>⟨[(0,aU l_),(1,fJ d_),(4,.ptr 0 0 0),(7,aT v2),(8,.ptr 1 0 0),(9,.eH 2 0 g1.2.1.length false),(32,fJ d_),(33,iV (d_.length:Int)),(34,iV g1.1)],[(0,some (.box [.sl 0 0 true fG,.sl 0 0 true fG])),(1,some (.box [aT v2,.eH 3 0 g1.2.2.length false])),(2,some (.row 1 g1.2.1.length (bR iV 0 g1.2.1))),(3,some (.row 1 g1.2.2.length (bR iV 0 g1.2.2)))],4⟩) [(1,some 136),(2,some 168),(3,some 120)] [] <|fun aj g1 hm=>si hm (fun _ hm=>s2 hm fun _ _ hm=>s2 hm fun _ _ hm=>le hm) fun _ hm=>sn hm fun _ hm=>R3 [17] hm (fun g2=>⟨[(0,aU l_),(1,fJ d_),(4,.ptr 0 0 0),(7,aT v2),(8,.ptr 1 0 0),(9,.eH 2 0 g2.2.1.length false),(12,iV g2.1)],[(0,some (.box [.sl 0 0 true fG,.sl 0 0 true fG])),(1,some (.box [aT v2,.eH 3 0 g2.2.2.length false])),(2,some (.row 1 g2.2.1.length (bR iV 0 g2.2.1))),(3,some (.row 1 g2.2.2.length (bR iV 0 g2.2.2)))],4⟩) [] [] <|fun dK g2 hm=>si hm (fun _ hm=>sn hm fun _ hm=>si hm (fun _ hm=>sn hm fun _ hm=>le hm) fun _ hm=>ck [17] (A9 l_ v2 g2 dK) r (fun g5=>⟨[(0,aU l_),(1,fJ d_),(4,.ptr 0 0 0),(7,aT v2),(8,.ptr 1 0 0),(9,.eH 2 0 g2.2.1.length false),(12,iV g2.1)],[(0,some (.box [.sl 0 0 true fG,.sl 0 0 true fG])),(1,some (.box [aT v2,.eH 3 0 g5.length false])),(2,some (.row 1 g2.2.1.length (bR iV 0 g2.2.1))),(3,some (.row 1 g5.length (bR iV 0 g5)))],4⟩) (s2 hm fun _ _ hm=>sq hm VX fun v11 hm=>sn hm fun _ hm=>le hm) fun g5 hm=>sn hm fun _ hm=>si hm (fun _ hm=>by cases hm;exact re) fun _ hm=>sn hm fun _ hm=>si hm (fun _ hm=>sn hm fun _ hm=>sq hm sM fun v10 hm=>s2 hm fun _ _ hm=>s2 hm fun _ _ hm=>le hm) fun _ hm=>sn hm fun _ hm=>le hm) fun _ hm=>sq hm IK fun v12 hm=>si hm (fun _ hm=>by cases hm;exact re) fun _ hm=>by cases hm;exact rt [3] []
end Go.Proofs.YtccjmcmolnbiiaaGreatDoor
namespace Go.Proofs.YtccjmcmolnbiiaaGreatDoor
open Go.Ab
theorem ozz {p:Prop} (h:p:=by first | omega | (simp [iR]; done) | (simp [iR,Sg]; done) | (simp [iR]; omega) | (simp [iR,Sg]; omega)):p:=h
end Go.Proofs.YtccjmcmolnbiiaaGreatDoor
namespace Go.Proofs.YtccjmcmolnbiiaaGreatDoor
open Go.Ab
set_option maxRecDepth 100000
set_option maxHeartbeats 20000000
theorem FT {l_:(List d9)} {fC:(List Int)} {r:((List Bool)×Int)} (hm:wU l_ fC r):S 40 [dx l_,aC fC] [] (.kH [aT r.1,iV r.2]) [] :=sp Tryz.func40 rfl<|sq hm zh fun v1 hm=>si hm (fun _ hm=>by cases hm;exact re) fun _ hm=>sn hm fun _ hm=>lf hm (fun g1=>⟨[(0,dx l_),(1,aC fC),(6,.eH 0 0 g1.2.length false),(7,iV g1.1)],[(0,some (.row 1 g1.2.length (bR AV.bool false g1.2)))],1⟩) [(0,some 56)] [] <|fun aj g1 hm=>si hm (fun _ hm=>s2 hm fun _ _ hm=>si hm (fun _ hm=>by cases hm;exact re) fun _ hm=>s2 hm fun _ _ hm=>sn hm fun _ hm=>le hm) fun _ hm=>sn hm fun _ hm=>l0 hm (fun g2=>⟨[(0,dx l_),(6,.eH 0 0 g2.2.length false),(8,iV g2.1)],[(0,some (.row 1 g2.2.length (bR AV.bool false g2.2)))],1⟩) <|fun dK g2 hm=>si hm (fun _ hm=>l0 hm (fun g5=>⟨[(0,dx l_),(6,.eH 0 0 g5.2.length false),(8,iV g2.1),(9,iV g5.1)],[(0,some (.row 1 g5.2.length (bR AV.bool false g5.2)))],1⟩) <|fun j5 g5 hm=>s2 hm fun _ _ hm=>si hm (fun _ hm=>s2 hm fun _ _ hm=>s2 hm fun _ _ hm=>le hm) fun _ hm=>sn hm fun _ hm=>le hm) fun _ hm=>by cases hm;exact rt [0] []
theorem Z4 {l_:(List dB)} {eX:(List Int)} {r:Int} (hm:OX l_ eX r):S 78 [bU l_,aC eX] [] (iV r) [] :=sp Tryz.func78 rfl<|sq hm zi fun v1 hm=>si hm (fun _ hm=>by cases hm;exact re) fun _ hm=>l0 hm (fun g1=>⟨[(0,bU l_),(1,aC eX),(5,iV g1)],[],0⟩) <|fun aj g1 hm=>si hm (fun _ hm=>s2 hm fun _ _ hm=>si hm (fun _ hm=>by cases hm;exact re) fun _ hm=>sn hm fun _ hm=>le hm) fun _ hm=>by cases hm;exact re
theorem QG {l_:(List dB)} {eX:(List Int)} {r:((List Bool)×Int)} (hm:Nk l_ eX r):S 41 [bU l_,aC eX] [] (.kH [aT r.1,iV r.2]) [] :=spc [13] Tryz.func41 rfl<|sq hm Z4 fun v1 hm=>si hm (fun _ hm=>by cases hm;exact re) fun _ hm=>sn hm fun _ hm=>R3 [13] hm (fun g1=>⟨[(0,bU l_),(1,aC eX),(7,.eH 0 0 g1.2.length false),(8,iV g1.1)],[(0,some (.row 1 g1.2.length (bR AV.bool false g1.2)))],1⟩) [(0,some 80)] [] <|fun aj g1 hm=>si hm (fun _ hm=>s2 hm fun _ _ hm=>sn hm fun _ hm=>le hm) fun _ hm=>sn hm fun _ hm=>R3 [13] hm (fun g2=>⟨[(0,bU l_),(7,.eH 0 0 g2.2.length false),(9,iV g2.1)],[(0,some (.row 1 g2.2.length (bR AV.bool false g2.2)))],1⟩) [] [] <|fun dK g2 hm=>si hm (fun _ hm=>ck [13] (Jz l_ g2 dK) r (fun g5=>⟨[(0,bU l_),(7,.eH 0 0 g5.length false),(9,iV g2.1)],[(0,some (.row 1 g5.length (bR AV.bool false g5)))],1⟩) (s2 hm fun _ _ hm=>sn hm fun _ hm=>le hm) fun g5 hm=>s2 hm fun _ _ hm=>si hm (fun _ hm=>s2 hm fun _ _ hm=>sn hm fun _ hm=>le hm) fun _ hm=>sn hm fun _ hm=>le hm) fun _ hm=>by cases hm;exact rt [0] []
theorem Gw {l_:(List Int)} {x_:Int} {r:Bool} (hm:Ad l_ x_ r):S 72 [aC l_,iV x_] [] (.bool r) [] :=sp Tryz.func72 rfl<|l0 hm (fun g1=>⟨[(0,aC l_),(1,iV x_),(5,iV g1)],[],0⟩) <|fun aj g1 hm=>si hm (fun _ hm=>sn hm fun _ hm=>si hm (fun _ hm=>by cases hm;exact re) fun _ hm=>sn hm fun _ hm=>le hm) fun _ hm=>by cases hm;exact re
theorem Z5 {l_:(List aS)} {ah:(List Int)} {r:(List aS)} (hm:OY l_ ah r):S 67 [dO l_,aC ah] [] (.eH 0 0 r.length false) [.row 3 r.length (bR qz bH r)] :=sp Tryz.func67 rfl<|lf hm (fun g1=>⟨[(1,aC ah),(5,.eH 0 0 g1.2.length false),(8,dO l_),(9,iV (l_.length:Int)),(10,iV g1.1)],[(0,some (.row 3 g1.2.length (bR qz bH g1.2)))],1⟩) [(0,none)] [] <|fun aj g1 hm=>si hm (fun _ hm=>sn hm fun _ hm=>sq hm Gw fun v3 hm=>si hm (fun _ hm=>s2 hm fun _ _ hm=>lc [(0,some 97)] [] hm) fun _ hm=>sn hm fun _ hm=>le hm) fun _ hm=>by cases hm;exact re
theorem VZ {b_:aR} {l_:(List aK)} {ah:(List Int)} {g_:bL} {r:((List Int)×(List Bool)×(List Int)×(List Bool)×(List Bool)×Int×Int×(List aS))} (hm:Fv b_ l_ ah g_ r):S 27 [jy b_,dM l_,aC ah,lU g_] [] (.kH [.agg [aC r.1,aT r.2.1,aC r.2.2.1,.eH 0 0 r.2.2.2.2.2.2.2.length false,aT r.2.2.2.1,aT r.2.2.2.2.1],iV r.2.2.2.2.2.1,iV r.2.2.2.2.2.2.1]) [.row 3 r.2.2.2.2.2.2.2.length (bR qz bH r.2.2.2.2.2.2.2)] :=sp Tryz.func27 rfl<|sq hm uI fun v1 hm=>si hm (fun _ hm=>by cases hm;exact rt [] [(0,none)]) fun _ hm=>sq hm pJ fun v2 hm=>si hm (fun _ hm=>by cases hm;exact rt [] [(0,none)]) fun _ hm=>sq hm Uj fun v3 hm=>sq hm VR fun v4 hm=>sb hm fun v5 hv5 hm=>cl (fun q0=>(Ao (hv5 q0)))<|si hm (fun _ hm=>by cases hm;exact rt [] [(0,none)]) fun _ hm=>sq hm II fun v6 hm=>si hm (fun _ hm=>by cases hm;exact rt [] [(0,none)]) fun _ hm=>sq hm IL fun v7 hm=>si hm (fun _ hm=>by cases hm;exact rt [] [(0,none)]) fun _ hm=>lf hm (fun g1=>⟨[(1,dM l_),(2,aC ah),(4,.ptr 0 0 0),(7,.ptr 1 0 0),(8,.ptr 2 0 0),(14,aC v6.1),(16,.ptr 3 0 0),(17,.eH 4 0 g1.2.1.length false),(18,.eH 5 0 g1.2.2.length false),(78,aC ah),(79,iV (ah.length:Int)),(80,iV g1.1)],[(0,some (.box [aZ b_.bQ,aU b_.bB,iV b_.aQ.bO,bf b_.aQ.aD,dx b_.bg,bU b_.cB])),(1,some (.box [aC g_.dD,aT g_.eZ.On,aC g_.eZ.dP,dO g_.dZ,aT g_.eu,aT g_.fA])),(2,some (.box [.sl 0 0 true fG,.sl 0 0 true fG,.sl 0 0 true fG,.sl 0 0 true fG,.sl 0 0 true fG,.sl 0 0 true fG])),(3,some (.box [aT v7.1.On,aC v7.1.dP])),(4,some (.row 1 g1.2.1.length (bR iV 0 g1.2.1))),(5,some (.row 1 g1.2.2.length (bR iV 0 g1.2.2)))],6⟩) [(1,some 8),(2,some 16),(3,some 440),(4,none),(5,none)] [] <|fun aj g1 hm=>si hm (fun _ hm=>s2 hm fun _ _ hm=>s2 hm fun _ _ hm=>si hm (fun _ hm=>s2 hm fun _ _ hm=>sn hm fun _ hm=>lc [(4,some 86),(5,some 206)] [] hm) fun _ hm=>sn hm fun _ hm=>lc [(4,some 86)] [] hm) fun _ hm=>sq hm FT fun v8 hm=>sq hm QG fun v9 hm=>sq hm Z5 fun v10 hm=>by cases hm;exact rt [] [(0,some 198)]
theorem Lg {b_:aR} {r:(bL×Int)} (hm:D6 b_ r):S 12 [jy b_] [] (.kH [lU r.1,iV r.2]) [] :=sp Tryz.func12 rfl<|sb hm fun v1 hv1 hm=>cl ((VZ hv1).le ⟨.refl _,(.sl rfl (fun h=>absurd rfl h) nofun (fun _ h=>absurd h (Nat.not_lt_zero _))),(.sl rfl (fun h=>absurd rfl h) nofun (fun _ h=>absurd h (Nat.not_lt_zero _))),(Le.QS ⟨(.sl rfl (fun h=>absurd rfl h) nofun (fun _ h=>absurd h (Nat.not_lt_zero _))),(.sl rfl (fun h=>absurd rfl h) nofun (fun _ h=>absurd h (Nat.not_lt_zero _))),(.sl rfl (fun h=>absurd rfl h) nofun (fun _ h=>absurd h (Nat.not_lt_zero _))),(.sl rfl (fun h=>absurd rfl h) nofun (fun _ h=>absurd h (Nat.not_lt_zero _))),(.sl rfl (fun h=>absurd rfl h) nofun (fun _ h=>absurd h (Nat.not_lt_zero _))),(.sl rfl (fun h=>absurd rfl h) nofun (fun _ h=>absurd h (Nat.not_lt_zero _))),trivial⟩),trivial⟩ trivial)<|by cases hm;exact rt [40] []
theorem Ul {b_:aR} {l_:(List aK)} {g_:bL} {r:Bool} (hm:Cz b_ l_ g_ r):S 121 [jy b_,dM l_,lU g_] [] (.bool r) [] :=sp Tryz.func121 rfl<|si hm (fun _ hm=>by cases hm;exact re) fun _ hm=>lf hm (fun g1=>⟨[(1,dM l_),(3,.ptr 0 0 0),(5,.ptr 1 0 0),(7,iV g1)],[(0,some (.box [aZ b_.bQ,aU b_.bB,iV b_.aQ.bO,bf b_.aQ.aD,dx b_.bg,bU b_.cB])),(1,some (.box [aC g_.dD,aT g_.eZ.On,aC g_.eZ.dP,dO g_.dZ,aT g_.eu,aT g_.fA]))],2⟩) [(1,some 8)] [] <|fun aj g1 hm=>si hm (fun _ hm=>s2 hm fun _ _ hm=>sn hm fun _ hm=>si hm (fun _ hm=>by cases hm;exact re) fun _ hm=>sn hm fun _ hm=>le hm) fun _ hm=>lf hm (fun g2=>⟨[(1,dM l_),(5,.ptr 0 0 0),(8,iV g2)],[(0,some (.box [aC g_.dD,aT g_.eZ.On,aC g_.eZ.dP,dO g_.dZ,aT g_.eu,aT g_.fA]))],1⟩) [(0,some 1)] [] <|fun dK g2 hm=>si hm (fun _ hm=>s2 hm fun _ _ hm=>si hm (fun _ hm=>by cases hm;exact re) fun _ hm=>sn hm fun _ hm=>le hm) fun _ hm=>by cases hm;exact re
theorem RQ {l_:(List aI)} {s_:(List Int)} {r:Bool} (hm:zy l_ s_ r):S 175 [aZ l_,aC s_] [] (.bool r) [] :=sp Tryz.func175 rfl<|sq hm sI fun v1 hm=>si hm (fun _ hm=>by cases hm;exact re) fun _ hm=>l0 hm (fun g1=>⟨[(1,aC s_),(17,aZ l_),(18,iV (l_.length:Int)),(19,iV g1)],[],0⟩) <|fun aj g1 hm=>si hm (fun _ hm=>s2 hm fun _ _ hm=>sn hm fun _ hm=>si hm (fun _ hm=>by cases hm;exact re) fun _ hm=>sn hm fun _ hm=>le hm) fun _ hm=>by cases hm;exact re
theorem IQ {l_:(List aI)} {s_:(List Int)} {m_:(List bK)} {r:Bool} (hm:Ae l_ s_ m_ r):S 122 [aZ l_,aC s_,fB m_] [] (.bool r) [] :=sp Tryz.func122 rfl<|sq hm RQ fun v1 hm=>sb hm fun v2 hv2 hm=>cl (fun q0=>(FP (hv2 q0)))<|si hm (fun _ hm=>by cases hm;exact re) fun _ hm=>sq hm FR fun v3 hm=>l0 hm (fun g1=>⟨[(0,aZ l_),(7,qM v3.1),(8,aT v3.2),(27,fB m_),(28,iV (m_.length:Int)),(29,iV g1)],[],0⟩) <|fun aj g1 hm=>si hm (fun _ hm=>s2 hm fun _ _ hm=>sn hm fun _ hm=>sb hm fun v6 hv6 hm=>cl (fun q0=>(xM (hv6 q0)))<|si hm (fun _ hm=>by cases hm;exact re) fun _ hm=>sn hm fun _ hm=>le hm) fun _ hm=>sq hm Ov fun v7 hm=>by cases hm;exact re
theorem Um {b_:aR} {g_:bL} {x_:aK} {gN:Bool} {r:Bool} (hm:CB b_ g_ x_ gN r):S 123 [jy b_,lU g_,wu x_,.bool gN] [] (.bool r) [] :=spc [6] Tryz.func123 rfl<|R3 [6] hm (fun g1=>⟨[(3,.bool gN),(4,.ptr 0 0 0),(5,.ptr 1 0 0),(12,fB x_.bY),(13,iV (x_.bY.length:Int)),(14,iV g1)],[(0,some (.box [aZ b_.bQ,aU b_.bB,iV b_.aQ.bO,bf b_.aQ.aD,dx b_.bg,bU b_.cB])),(1,some (.box [aC g_.dD,aT g_.eZ.On,aC g_.eZ.dP,dO g_.dZ,aT g_.eu,aT g_.fA]))],2⟩) [(1,some 8)] [] <|fun aj g1 hm=>si hm (fun _ hm=>sn hm fun _ hm=>ck [6] (qb b_ g_ x_ g1 aj) r (fun g4=>⟨[(3,.bool gN),(4,.ptr 0 0 0),(5,.ptr 1 0 0),(10,.ptr 2 0 0),(12,fB x_.bY),(13,iV (x_.bY.length:Int)),(14,iV g1)],[(0,some (.box [aZ b_.bQ,aU b_.bB,iV b_.aQ.bO,bf b_.aQ.aD,dx b_.bg,bU b_.cB])),(1,some (.box [aC g_.dD,aT g_.eZ.On,aC g_.eZ.dP,dO g_.dZ,aT g_.eu,aT g_.fA])),(2,some (.box [iV ((x_.bY.getD g1.toNat dn).eU),iV g4,iV ((x_.bY.getD g1.toNat dn).fK)]))],3⟩) (si hm (fun _ hm=>lc [(2,some 26)] [] hm) fun _ hm=>lc [(2,some 26)] [] hm) fun g4 hm=>sb hm fun v3 hv3 hm=>cl ((IQ hv3).le ⟨.refl _,.refl _,(.sl rfl (fun _=>rfl) nofun (gM yH dn [(⟨(x_.bY.getD g1.toNat dn).eU,g4,(x_.bY.getD g1.toNat dn).fK⟩:bK)])),trivial⟩ trivial)<|si hm (fun _ hm=>by cases hm;exact re) fun _ hm=>sn hm fun _ hm=>le hm) fun _ hm=>by cases hm;exact re
theorem V3 {l_:(List ay)} {r_:cO} {r:Bool} (hm:Fw l_ r_ r):S 179 [aU l_,Ay r_] [] (.bool r) [] :=sp Tryz.func179 rfl<|sq hm sJ fun v1 hm=>si hm (fun _ hm=>by cases hm;exact re) fun _ hm=>l0 hm (fun g1=>⟨[(3,.ptr 0 0 0),(26,aU l_),(27,iV (l_.length:Int)),(28,iV g1)],[(0,some (.box [aT r_.On,aC r_.dP]))],1⟩) <|fun aj g1 hm=>si hm (fun _ hm=>s2 hm fun _ _ hm=>sn hm fun _ hm=>sq hm kN fun v4 hm=>si hm (fun _ hm=>by cases hm;exact re) fun _ hm=>sn hm fun _ hm=>le hm) fun _ hm=>by cases hm;exact re
theorem V4 {l_:(List ay)} {r_:cO} {d_:(List aW)} {r:Bool} (hm:Fx l_ r_ d_ r):S 124 [aU l_,Ay r_,fJ d_] [] (.bool r) [] :=sp Tryz.func124 rfl<|sq hm IJ fun v1 hm=>sb hm fun v2 hv2 hm=>cl (fun q0=>(V3 (hv2 q0)))<|sb hm fun v3 hv3 hm=>cl (fun q0=>(IK (hv3 q0)))<|by cases hm;exact re
theorem XT {l_:(List aS)} {r:(List nE)} (hm:JA l_ r):S 17 [dO l_] [] (.eH 0 0 r.length false) [.row 2 r.length (bR amv fV r)] :=sp Tryz.func17 rfl<|lf hm (fun g1=>⟨[(0,dO l_),(3,.eH 0 0 g1.2.length false),(4,iV g1.1)],[(0,some (.row 2 g1.2.length (bR amv fV g1.2)))],1⟩) [(0,none)] [] <|fun aj g1 hm=>si hm (fun _ hm=>s2 hm fun _ _ hm=>sn hm fun _ hm=>lc [(0,some 89)] [] hm) fun _ hm=>by cases hm;exact re
theorem Un {p_:bn} {l_:(List nE)} {r:((List Int)×Int)} (hm:CF p_ l_ r):S 16 [lT p_,Qc l_] [] (.kH [aC r.1,iV r.2]) [] :=sp Tryz.func16 rfl<|sq hm za fun v1 hm=>si hm (fun _ hm=>by cases hm;exact re) fun _ hm=>sn hm fun _ hm=>lf hm (fun g1=>⟨[(1,Qc l_),(2,.ptr 0 0 0),(6,.eH 1 0 g1.2.length false),(7,iV g1.1)],[(0,some (.box [iV p_.bO,bf p_.aD])),(1,some (.row 1 g1.2.length (bR iV 0 g1.2)))],2⟩) [(1,some 64)] [] <|fun aj g1 hm=>si hm (fun _ hm=>s2 hm fun _ _ hm=>le hm) fun _ hm=>l0 hm (fun g2=>⟨[(1,Qc l_),(2,.ptr 0 0 0),(6,.eH 1 0 g2.2.length false),(8,iV g2.1)],[(0,some (.box [iV p_.bO,bf p_.aD])),(1,some (.row 1 g2.2.length (bR iV 0 g2.2)))],2⟩) <|fun dK g2 hm=>si hm (fun _ hm=>s2 hm fun _ _ hm=>s2 hm fun _ _ hm=>si hm (fun _ hm=>by cases hm;exact re) fun _ hm=>l0 hm (fun g7=>⟨[(1,Qc l_),(2,.ptr 0 0 0),(6,.eH 1 0 g2.2.length false),(8,iV g2.1),(9,iV ((l_.getD g2.1.toNat fV).dF)),(10,iV g7)],[(0,some (.box [iV p_.bO,bf p_.aD])),(1,some (.row 1 g2.2.length (bR iV 0 g2.2)))],2⟩) <|fun mW g7 hm=>si hm (fun _ hm=>sn hm fun _ hm=>si hm (fun _ hm=>by cases hm;exact re) fun _ hm=>sn hm fun _ hm=>le hm) fun _ hm=>sn hm fun _ hm=>l0 hm (fun g8=>⟨[(1,Qc l_),(2,.ptr 0 0 0),(6,.eH 1 0 g8.2.length false),(8,iV g2.1),(9,iV ((l_.getD g2.1.toNat fV).dF)),(88,aC ((p_.aD.getD (((l_.getD g2.1.toNat fV).dF).toNat) aG).bO)),(89,iV ((((p_.aD.getD (((l_.getD g2.1.toNat fV).dF).toNat) aG).bO).length:Nat):Int)),(90,iV g8.1)],[(0,some (.box [iV p_.bO,bf p_.aD])),(1,some (.row 1 g8.2.length (bR iV 0 g8.2)))],2⟩) <|fun WO g8 hm=>si hm (fun _ hm=>s2 hm fun _ _ hm=>si hm (fun _ hm=>by cases hm;exact re) fun _ hm=>s2 hm fun _ _ hm=>le hm) fun _ hm=>sn hm fun _ hm=>le hm) fun _ hm=>by cases hm;exact rt [1] []
theorem Ow {b_:aR} {g_:bL} {x_:aK} {bN:Int} {r:Bool} (hm:uq b_ g_ x_ bN r):S 125 [jy b_,lU g_,wu x_,iV bN] [] (.bool r) [] :=sp Tryz.func125 rfl<|lf hm (fun g1=>⟨[(3,iV bN),(4,.ptr 0 0 0),(5,.ptr 1 0 0),(6,.ptr 2 0 0),(18,gG x_.ak),(19,iV (x_.ak.length:Int)),(20,iV g1)],[(0,some (.box [aZ b_.bQ,aU b_.bB,iV b_.aQ.bO,bf b_.aQ.aD,dx b_.bg,bU b_.cB])),(1,some (.box [aC g_.dD,aT g_.eZ.On,aC g_.eZ.dP,dO g_.dZ,aT g_.eu,aT g_.fA])),(2,some (.box [fB x_.bY,fJ x_.fD,gG x_.ak,aC x_.bg,iV x_.fP,aC x_.bT]))],3⟩) [(1,some 8),(2,some 16)] [] <|fun aj g1 hm=>si hm (fun _ hm=>sn hm fun _ hm=>l0 hm (fun g6=>⟨[(3,iV bN),(4,.ptr 0 0 0),(5,.ptr 1 0 0),(6,.ptr 2 0 0),(10,.str (x_.ak.getD g1.toNat ByteArray.empty)),(11,iV g6.1),(12,iV (0:Int)),(18,gG x_.ak),(19,iV (x_.ak.length:Int)),(20,iV g1),(25,gG x_.ak),(26,iV (x_.ak.length:Int)),(27,iV g6.2)],[(0,some (.box [aZ b_.bQ,aU b_.bB,iV b_.aQ.bO,bf b_.aQ.aD,dx b_.bg,bU b_.cB])),(1,some (.box [aC g_.dD,aT g_.eZ.On,aC g_.eZ.dP,dO g_.dZ,aT g_.eu,aT g_.fA])),(2,some (.box [fB x_.bY,fJ x_.fD,gG x_.ak,aC x_.bg,iV x_.fP,aC x_.bT]))],3⟩) <|fun jE g6 hm=>si hm (fun _ hm=>sn hm fun _ hm=>si hm (fun _ hm=>s2 hm fun _ _ hm=>le hm) fun _ hm=>sn hm fun _ hm=>le hm) fun _ hm=>l0 hm (fun g7=>⟨[(3,iV bN),(4,.ptr 0 0 0),(5,.ptr 1 0 0),(6,.ptr 2 0 0),(10,.str (x_.ak.getD g1.toNat ByteArray.empty)),(11,iV g6.1),(12,iV g7.1),(18,gG x_.ak),(19,iV (x_.ak.length:Int)),(20,iV g1),(38,dO g_.dZ),(39,iV (g_.dZ.length:Int)),(40,iV g7.2)],[(0,some (.box [aZ b_.bQ,aU b_.bB,iV b_.aQ.bO,bf b_.aQ.aD,dx b_.bg,bU b_.cB])),(1,some (.box [aC g_.dD,aT g_.eZ.On,aC g_.eZ.dP,dO g_.dZ,aT g_.eu,aT g_.fA])),(2,some (.box [fB x_.bY,fJ x_.fD,gG x_.ak,aC x_.bg,iV x_.fP,aC x_.bT]))],3⟩) <|fun mW g7 hm=>si hm (fun _ hm=>s2 hm fun _ _ hm=>sn hm fun _ hm=>si hm (fun _ hm=>s2 hm fun _ _ hm=>le hm) fun _ hm=>sn hm fun _ hm=>le hm) fun _ hm=>si hm (fun _ hm=>by cases hm;exact re) fun _ hm=>sn hm fun _ hm=>le hm) fun _ hm=>by cases hm;exact re
theorem Uo {l_:(List d9)} {dL:(List Bool)} {r:Bool} (hm:CG l_ dL r):S 126 [dx l_,aT dL] [] (.bool r) [] :=sp Tryz.func126 rfl<|sq hm zh fun v1 hm=>si hm (fun _ hm=>by cases hm;exact re) fun _ hm=>l0 hm (fun g1=>⟨[(0,dx l_),(1,aT dL),(5,iV g1)],[],0⟩) <|fun aj g1 hm=>si hm (fun _ hm=>l0 hm (fun g4=>⟨[(0,dx l_),(1,aT dL),(5,iV g1),(6,iV g4)],[],0⟩) <|fun jm g4 hm=>sn hm fun _ hm=>si hm (fun _ hm=>s2 hm fun _ _ hm=>s2 hm fun _ _ hm=>si hm (fun _ hm=>by cases hm;exact re) fun _ hm=>sn hm fun _ hm=>le hm) fun _ hm=>sn hm fun _ hm=>le hm) fun _ hm=>by cases hm;exact re
theorem V5 {l_:(List dB)} {qC:(List Bool)} {r:Bool} (hm:Fy l_ qC r):S 127 [bU l_,aT qC] [] (.bool r) [] :=sp Tryz.func127 rfl<|sq hm zi fun v1 hm=>si hm (fun _ hm=>by cases hm;exact re) fun _ hm=>l0 hm (fun g1=>⟨[(0,bU l_),(1,aT qC),(5,iV g1)],[],0⟩) <|fun aj g1 hm=>si hm (fun _ hm=>s2 hm fun _ _ hm=>s2 hm fun _ _ hm=>s2 hm fun _ _ hm=>si hm (fun _ hm=>by cases hm;exact re) fun _ hm=>sn hm fun _ hm=>le hm) fun _ hm=>by cases hm;exact re
theorem Uq {b_:aR} {l_:(List aK)} {ah:(List Int)} {g_:bL} {gN:Bool} {r:Int} (hm:CJ b_ l_ ah g_ gN r):S 69 [jy b_,dM l_,aC ah,lU g_,.bool gN] [] (iV r) [] :=sp Tryz.func69 rfl<|sq hm uI fun v1 hm=>sb hm fun v2 hv2 hm=>cl (fun q0=>(pJ (hv2 q0)))<|sb hm fun v3 hv3 hm=>cl (fun q0=>(Ul (hv3 q0)))<|si hm (fun _ hm=>by cases hm;exact re) fun _ hm=>sb hm fun v4 hv4 hm=>cl ((IQ hv4).le ⟨.refl _,.refl _,(.sl rfl (fun h=>absurd rfl h) nofun (fun _ h=>absurd h (Nat.not_lt_zero _))),trivial⟩ trivial)<|si hm (fun _ hm=>by cases hm;exact re) fun _ hm=>lf hm (fun g1=>⟨[(1,dM l_),(2,aC ah),(4,.bool gN),(5,.ptr 0 0 0),(8,.ptr 1 0 0),(11,.eH 2 0 g1.2.length false),(48,aC ah),(49,iV (ah.length:Int)),(50,iV g1.1)],[(0,some (.box [aZ b_.bQ,aU b_.bB,iV b_.aQ.bO,bf b_.aQ.aD,dx b_.bg,bU b_.cB])),(1,some (.box [aC g_.dD,aT g_.eZ.On,aC g_.eZ.dP,dO g_.dZ,aT g_.eu,aT g_.fA])),(2,some (.row 4 g1.2.length (bR G5 dI g1.2)))],3⟩) [(1,some 8),(2,none)] [] <|fun aj g1 hm=>si hm (fun _ hm=>s2 hm fun _ _ hm=>sq hm Um fun v7 hm=>si hm (fun _ hm=>by cases hm;exact re) fun _ hm=>s2 hm fun _ _ hm=>sn hm fun _ hm=>lc [(2,some 155)] [] hm) fun _ hm=>sq hm V4 fun v8 hm=>si hm (fun _ hm=>by cases hm;exact re) fun _ hm=>sq hm XT fun v9 hm=>sq hm Un fun v10 hm=>si hm (fun _ hm=>by cases hm;exact re) fun _ hm=>l0 hm (fun g2=>⟨[(1,dM l_),(2,aC ah),(5,.ptr 0 0 0),(8,.ptr 1 0 0),(89,aC ah),(90,iV (ah.length:Int)),(91,iV g2)],[(0,some (.box [aZ b_.bQ,aU b_.bB,iV b_.aQ.bO,bf b_.aQ.aD,dx b_.bg,bU b_.cB])),(1,some (.box [aC g_.dD,aT g_.eZ.On,aC g_.eZ.dP,dO g_.dZ,aT g_.eu,aT g_.fA]))],2⟩) <|fun dK g2 hm=>si hm (fun _ hm=>s2 hm fun _ _ hm=>sq hm Ow fun v13 hm=>si hm (fun _ hm=>by cases hm;exact re) fun _ hm=>sn hm fun _ hm=>le hm) fun _ hm=>sq hm Uo fun v14 hm=>si hm (fun _ hm=>by cases hm;exact re) fun _ hm=>l0 hm (fun g3=>⟨[(1,dM l_),(2,aC ah),(5,.ptr 0 0 0),(8,.ptr 1 0 0),(111,aC ah),(112,iV (ah.length:Int)),(113,iV g3)],[(0,some (.box [aZ b_.bQ,aU b_.bB,iV b_.aQ.bO,bf b_.aQ.aD,dx b_.bg,bU b_.cB])),(1,some (.box [aC g_.dD,aT g_.eZ.On,aC g_.eZ.dP,dO g_.dZ,aT g_.eu,aT g_.fA]))],2⟩) <|fun jB g3 hm=>si hm (fun _ hm=>s2 hm fun _ _ hm=>l0 hm (fun g6=>⟨[(1,dM l_),(2,aC ah),(5,.ptr 0 0 0),(8,.ptr 1 0 0),(111,aC ah),(112,iV (ah.length:Int)),(113,iV g3),(121,aC ((l_.getD ((ah.getD g3.toNat 0).toNat) bq).bg)),(122,iV ((((l_.getD ((ah.getD g3.toNat 0).toNat) bq).bg).length:Nat):Int)),(123,iV g6)],[(0,some (.box [aZ b_.bQ,aU b_.bB,iV b_.aQ.bO,bf b_.aQ.aD,dx b_.bg,bU b_.cB])),(1,some (.box [aC g_.dD,aT g_.eZ.On,aC g_.eZ.dP,dO g_.dZ,aT g_.eu,aT g_.fA]))],2⟩) <|fun jE g6 hm=>si hm (fun _ hm=>s2 hm fun _ _ hm=>si hm (fun _ hm=>by cases hm;exact re) fun _ hm=>sn hm fun _ hm=>le hm) fun _ hm=>sn hm fun _ hm=>le hm) fun _ hm=>sq hm V5 fun v15 hm=>si hm (fun _ hm=>by cases hm;exact re) fun _ hm=>lf hm (fun g7=>⟨[(1,dM l_),(8,.ptr 0 0 0),(141,aC ah),(142,iV (ah.length:Int)),(143,iV g7)],[(0,some (.box [aC g_.dD,aT g_.eZ.On,aC g_.eZ.dP,dO g_.dZ,aT g_.eu,aT g_.fA]))],1⟩) [(0,some 1)] [] <|fun mW g7 hm=>si hm (fun _ hm=>s2 hm fun _ _ hm=>sn hm fun _ hm=>si hm (fun _ hm=>by cases hm;exact re) fun _ hm=>sn hm fun _ hm=>le hm) fun _ hm=>by cases hm;exact re
theorem V6 {b_:aR} {l_:(List aK)} {ah:(List Int)} {g_:bL} {r:Bool} (hm:Nr b_ l_ ah g_ r):S 29 [jy b_,dM l_,aC ah,lU g_] [] (.bool r) [] :=sp Tryz.func29 rfl<|sq hm Uq fun v1 hm=>by cases hm;exact re
theorem Ur {b_:aR} {l_:(List aK)} {ah:(List Int)} {g_:bL} {bN:Int} {r:Int} (hm:CK b_ l_ ah g_ bN r):S 71 [jy b_,dM l_,aC ah,lU g_,iV bN] [] (iV r) [] :=sp Tryz.func71 rfl<|sq hm uI fun v1 hm=>si hm (fun _ hm=>by cases hm;exact re) fun _ hm=>sq hm pJ fun v2 hm=>si hm (fun _ hm=>by cases hm;exact re) fun _ hm=>sq hm V6 fun v3 hm=>si hm (fun _ hm=>by cases hm;exact re) fun _ hm=>si hm (fun _ hm=>by cases hm;exact re) fun _ hm=>by cases hm;exact re
theorem Ox {l_:(List aK)} {dH:(List Int)} {r:(List bK)} (hm:K4 l_ dH r):S 22 [dM l_,.eH 0 0 dH.length false] [.row 1 dH.length (bR iV 0 dH)] (fB r) [.row 1 dH.length (bR iV 0 dH)] :=sp Tryz.func22 rfl<|lf hm (fun g1=>⟨[(0,dM l_),(5,.eH 1 0 g1.2.length false),(8,.eH 0 0 dH.length false),(9,iV (dH.length:Int)),(10,iV g1.1)],[(0,some (.row 1 dH.length (bR iV 0 dH))),(1,some (.row 3 g1.2.length (bR yH dn g1.2)))],2⟩) [(1,none)] [] <|fun aj g1 hm=>si hm (fun _ hm=>sn hm fun _ hm=>si hm (fun _ hm=>s2 hm fun _ _ hm=>sn hm fun _ hm=>lc [(1,some 146)] [] hm) fun _ hm=>sn hm fun _ hm=>le hm) fun _ hm=>by cases hm;exact rt [1] []
theorem P5 {l_:(List aK)} {dH:(List Int)} {r:(List aW)} (hm:Ns l_ dH r):S 24 [dM l_,.eH 0 0 dH.length false] [.row 1 dH.length (bR iV 0 dH)] (fJ r) [.row 1 dH.length (bR iV 0 dH)] :=sp Tryz.func24 rfl<|lf hm (fun g1=>⟨[(0,dM l_),(5,.eH 1 0 g1.2.length false),(8,.eH 0 0 dH.length false),(9,iV (dH.length:Int)),(10,iV g1.1)],[(0,some (.row 1 dH.length (bR iV 0 dH))),(1,some (.row 4 g1.2.length (bR G5 dI g1.2)))],2⟩) [(1,none)] [] <|fun aj g1 hm=>si hm (fun _ hm=>sn hm fun _ hm=>si hm (fun _ hm=>s2 hm fun _ _ hm=>sn hm fun _ hm=>lc [(1,some 146)] [] hm) fun _ hm=>sn hm fun _ hm=>le hm) fun _ hm=>by cases hm;exact rt [1] []
theorem FU {l_:(List aS)} {dH:(List Int)} {r:(List aS)} (hm:wV l_ dH r):S 67 [dO l_,.eH 0 0 dH.length false] [.row 1 dH.length (bR iV 0 dH)] (.eH 1 0 r.length false) [.row 1 dH.length (bR iV 0 dH),.row 3 r.length (bR qz bH r)] :=sp Tryz.func67 rfl<|lf hm (fun g1=>⟨[(1,.eH 0 0 dH.length false),(5,.eH 1 0 g1.2.length false),(8,dO l_),(9,iV (l_.length:Int)),(10,iV g1.1)],[(0,some (.row 1 dH.length (bR iV 0 dH))),(1,some (.row 3 g1.2.length (bR qz bH g1.2)))],2⟩) [(1,none)] [] <|fun aj g1 hm=>si hm (fun _ hm=>sn hm fun _ hm=>sq hm Gw fun v3 hm=>si hm (fun _ hm=>s2 hm fun _ _ hm=>lc [(1,some 98)] [] hm) fun _ hm=>sn hm fun _ hm=>le hm) fun _ hm=>by cases hm;exact re
theorem P6 {b_:aR} {l_:(List aK)} {g_:bL} {dH:(List Int)} {r:((List Int)×(List Bool)×(List Int)×(List Bool)×(List Bool)×Int×Int×(List aS))} (hm:wW b_ l_ g_ dH r):S 27 [jy b_,dM l_,.eH 0 0 dH.length false,lU g_] [.row 1 dH.length (bR iV 0 dH)] (.kH [.agg [aC r.1,aT r.2.1,aC r.2.2.1,.eH 1 0 r.2.2.2.2.2.2.2.length false,aT r.2.2.2.1,aT r.2.2.2.2.1],iV r.2.2.2.2.2.1,iV r.2.2.2.2.2.2.1]) [.row 1 dH.length (bR iV 0 dH),.row 3 r.2.2.2.2.2.2.2.length (bR qz bH r.2.2.2.2.2.2.2)] :=sp Tryz.func27 rfl<|sq hm uI fun v1 hm=>si hm (fun _ hm=>by cases hm;exact rt [] [(1,none)]) fun _ hm=>sq hm pJ fun v2 hm=>si hm (fun _ hm=>by cases hm;exact rt [] [(1,none)]) fun _ hm=>sq hm Ox fun v3 hm=>sq hm P5 fun v4 hm=>sb hm fun v5 hv5 hm=>cl (fun q0=>(Ao (hv5 q0)))<|si hm (fun _ hm=>by cases hm;exact rt [] [(1,none)]) fun _ hm=>sq hm II fun v6 hm=>si hm (fun _ hm=>by cases hm;exact rt [] [(1,none)]) fun _ hm=>sq hm IL fun v7 hm=>si hm (fun _ hm=>by cases hm;exact rt [] [(1,none)]) fun _ hm=>lf hm (fun g1=>⟨[(1,dM l_),(2,.eH 0 0 dH.length false),(4,.ptr 1 0 0),(7,.ptr 2 0 0),(8,.ptr 3 0 0),(14,aC v6.1),(16,.ptr 4 0 0),(17,.eH 5 0 g1.2.1.length false),(18,.eH 6 0 g1.2.2.length false),(78,.eH 0 0 dH.length false),(79,iV (dH.length:Int)),(80,iV g1.1)],[(0,some (.row 1 dH.length (bR iV 0 dH))),(1,some (.box [aZ b_.bQ,aU b_.bB,iV b_.aQ.bO,bf b_.aQ.aD,dx b_.bg,bU b_.cB])),(2,some (.box [aC g_.dD,aT g_.eZ.On,aC g_.eZ.dP,dO g_.dZ,aT g_.eu,aT g_.fA])),(3,some (.box [.sl 0 0 true fG,.sl 0 0 true fG,.sl 0 0 true fG,.sl 0 0 true fG,.sl 0 0 true fG,.sl 0 0 true fG])),(4,some (.box [aT v7.1.On,aC v7.1.dP])),(5,some (.row 1 g1.2.1.length (bR iV 0 g1.2.1))),(6,some (.row 1 g1.2.2.length (bR iV 0 g1.2.2)))],7⟩) [(2,some 9),(3,some 17),(4,some 441),(5,none),(6,none)] [] <|fun aj g1 hm=>si hm (fun _ hm=>s2 hm fun _ _ hm=>s2 hm fun _ _ hm=>si hm (fun _ hm=>s2 hm fun _ _ hm=>sn hm fun _ hm=>lc [(5,some 87),(6,some 207)] [] hm) fun _ hm=>sn hm fun _ hm=>lc [(5,some 87)] [] hm) fun _ hm=>sq hm FT fun v8 hm=>sq hm QG fun v9 hm=>sq hm FU fun v10 hm=>by cases hm;exact rt [] [(1,some 199)]
theorem V7 {b_:aR} {l_:(List aS)} {r:((List ByteArray)×(List Int))} (hm:Fz b_ l_ r):S 73 [jy b_,dO l_] [] (.kH [.eH 0 0 r.1.length false,.eH 1 0 r.2.length false]) [.row 1 r.1.length (bR AV.str ByteArray.empty r.1),.row 1 r.2.length (bR iV 0 r.2)] :=sp Tryz.func73 rfl<|lf hm (fun g1=>⟨[(2,.ptr 0 0 0),(6,.eH 1 0 g1.2.1.length false),(7,.eH 2 0 g1.2.2.length false),(10,dO l_),(11,iV (l_.length:Int)),(12,iV g1.1)],[(0,some (.box [aZ b_.bQ,aU b_.bB,iV b_.aQ.bO,bf b_.aQ.aD,dx b_.bg,bU b_.cB])),(1,some (.row 1 g1.2.1.length (bR AV.str ByteArray.empty g1.2.1))),(2,some (.row 1 g1.2.2.length (bR iV 0 g1.2.2)))],3⟩) [(1,none),(2,none)] [] <|fun aj g1 hm=>si hm (fun _ hm=>s2 hm fun _ _ hm=>s2 hm fun _ _ hm=>s2 hm fun _ _ hm=>lc [(1,some 171),(2,some 227)] [] hm) fun _ hm=>by cases hm;exact rt [] [(0,some 1),(1,some 2)]
theorem V8 {p_:bn} {l_:(List ByteArray)} {r:Bool} (hm:FB p_ l_ r):S 180 [lT p_,gG l_] [] (.bool r) [] :=sp Tryz.func180 rfl<|sq hm za fun v1 hm=>si hm (fun _ hm=>by cases hm;exact re) fun _ hm=>l0 hm (fun g1=>⟨[(1,gG l_),(5,iV g1)],[],0⟩) <|fun aj g1 hm=>si hm (fun _ hm=>sn hm fun _ hm=>sq hm uH fun v4 hm=>si hm (fun _ hm=>by cases hm;exact re) fun _ hm=>sn hm fun _ hm=>le hm) fun _ hm=>by cases hm;exact re
theorem Gx {g_:cK} {eY:ByteArray} {r:Int} (hm:Af g_ eY r):S 14 [nT g_,.str eY] [] (iV r) [] :=sp Tryz.func14 rfl<|l0 hm (fun g1=>⟨[(1,.str eY),(2,.ptr 0 0 0),(5,iV g1)],[(0,some (.box [.str g_.vU,aC g_.bO,gG g_.ak]))],1⟩) <|fun aj g1 hm=>si hm (fun _ hm=>sn hm fun _ hm=>si hm (fun _ hm=>by cases hm;exact re) fun _ hm=>sn hm fun _ hm=>le hm) fun _ hm=>by cases hm;exact re
theorem V9 {a_:(List Int)} {b_:(List Int)} {r:Bool} (hm:vH a_ b_ r):S 221 [aC a_,aC b_] [] (.bool r) [] :=sp Tryz.func221 rfl<|l0 hm (fun g1=>⟨[(0,aC a_),(1,aC b_),(5,iV g1.1),(6,iV g1.2)],[],0⟩) <|fun aj g1 hm=>si hm (fun _ hm=>s2 hm fun _ _ hm=>si hm (fun _ hm=>by cases hm;exact re) fun _ hm=>s2 hm fun _ _ hm=>si hm (fun _ hm=>sn hm fun _ hm=>le hm) fun _ hm=>sn hm fun _ hm=>le hm) fun _ hm=>by cases hm;exact re
theorem Lh {p_:bn} {dN:(List Int)} {g_:Int} {r:Bool} (hm:uS p_ dN g_ r):S 183 [lT p_,aC dN,iV g_] [] (.bool r) [] :=sp Tryz.func183 rfl<|l0 hm (fun g1=>⟨[(1,aC dN),(2,iV g_),(3,.ptr 0 0 0),(7,iV g1)],[(0,some (.box [iV p_.bO,bf p_.aD]))],1⟩) <|fun aj g1 hm=>si hm (fun _ hm=>s2 hm fun _ _ hm=>s2 hm fun _ _ hm=>sb hm fun v3 hv3 hm=>cl (fun q0=>(V9 (hv3 q0)))<|si hm (fun _ hm=>by cases hm;exact re) fun _ hm=>sn hm fun _ hm=>le hm) fun _ hm=>by cases hm;exact re
theorem XU {p_:bn} {l_:(List ByteArray)} {dN:(List Int)} {r:Bool} (hm:JB p_ l_ dN r):S 181 [lT p_,gG l_,aC dN] [] (.bool r) [] :=sp Tryz.func181 rfl<|si hm (fun _ hm=>by cases hm;exact re) fun _ hm=>l0 hm (fun g1=>⟨[(1,gG l_),(2,aC dN),(3,.ptr 0 0 0),(7,iV g1)],[(0,some (.box [iV p_.bO,bf p_.aD]))],1⟩) <|fun aj g1 hm=>si hm (fun _ hm=>s2 hm fun _ _ hm=>sn hm fun _ hm=>sb hm fun v5 hv5 hm=>cl (fun q0=>(Gx (hv5 q0)))<|sn hm fun _ hm=>sb hm fun v6 hv6 hm=>cl (fun q0=>((Lh (hv6 q0)).le ⟨.refl _,(.sl ozz (fun _=>rfl) nofun (lN (f:=iV) (d:=0) (by first | omega | exact Nat.min_le_left _ _ | exact Nat.le_trans (Nat.min_le_left _ _) om | (simp; omega)))),.refl _,trivial⟩ trivial))<|si hm (fun _ hm=>by cases hm;exact re) fun _ hm=>sn hm fun _ hm=>le hm) fun _ hm=>by cases hm;exact re
theorem Z6 {p_:bn} {l_:(List ByteArray)} {fH:(List Int)} {r:Int} (hm:OZ p_ l_ fH r):S 128 [lT p_,gG l_,aC fH] [] (iV r) [] :=sp Tryz.func128 rfl<|sq hm V8 fun v1 hm=>si hm (fun _ hm=>by cases hm;exact re) fun _ hm=>sq hm XU fun v2 hm=>si hm (fun _ hm=>by cases hm;exact re) fun _ hm=>by cases hm;exact re
theorem Us {p_:bn} {eY:ByteArray} {r:(List Int)} (hm:CO p_ eY r):S 182 [lT p_,.str eY] [] (aC r) [] :=sp Tryz.func182 rfl<|lf hm (fun g1=>⟨[(1,.str eY),(2,.ptr 0 0 0),(5,.eH 1 0 g1.2.length false),(9,iV (p_.aD.length:Int)),(10,iV g1.1)],[(0,some (.box [iV p_.bO,bf p_.aD])),(1,some (.row 1 g1.2.length (bR iV 0 g1.2)))],2⟩) [(1,none)] [] <|fun aj g1 hm=>si hm (fun _ hm=>sn hm fun _ hm=>sq hm Gx fun v3 hm=>si hm (fun _ hm=>s2 hm fun _ _ hm=>lc [(1,some 114)] [] hm) fun _ hm=>sn hm fun _ hm=>le hm) fun _ hm=>by cases hm;exact rt [1] []
theorem XV:∀(n:Nat) (iM:(bn×(List ByteArray)×(List Int))) (r:((List Int)×Bool)),itM nX n iM r→S 129 [lT iM.1,gG iM.2.1,aC iM.2.2] [] (.kH [aC r.1,.bool r.2]) [] :=by
 intro n
 induction n with
 | zero=>intro iM r hm; exact hm.elim
 | succ n ih=>
   intro iM r hm
   have hm:nX (itM nX n) iM r:=hm
   generalize itM nX n=AP at hm ih
   refine nD (ct:=[]) iT Tryz.func129 rfl rfl (Nat.le_of_ble_eq_true rfl) dk (Nat.le_of_ble_eq_true rfl) ?_
   (conv=>whnf)
   refine iU hm (fun c1 hm=>?_) (fun c1 hm=>?_)
   · (conv=>whnf)
     refine aY hm fun h1 hm=>?_
     (conv=>whnf)
     have hm:r=(iM.2.2,true):=hm
     subst hm
     refine ⟨[72],[],?_⟩
     (conv=>whnf)
     exact ⟨⟨rfl,trivial,trivial⟩,(by (conv=>whnf); exact ⟨(by (conv=>whnf); exact sf),(by (conv=>whnf); exact ⟨(by first | ((conv=>whnf); exact rfl) | exact rfl),trivial⟩)⟩)⟩
   · (conv=>whnf)
     refine aY hm fun h2 hm=>?_
     (conv=>whnf)
     refine iI hm fun v1 hv1 hm=>?_
     refine ⟨_,_,(Us hv1),?_⟩
     (conv=>whnf)
     refine u7 (ct:=[]) iT dk hm (fun g1=>⟨[(1,gG iM.2.1),(2,aC iM.2.2),(3,.ptr 0 0 0),(8,aC v1),(9,iV g1)],[(0,some (.box [iV iM.1.bO,bf iM.1.aD]))],1⟩) [] [] ⟨rfl,⟨sr,sr,r4,sr,r2,trivial⟩,⟨⟨r2,sr,trivial⟩,trivial⟩⟩ ?_
     intro aj g1 hm
     (conv=>whnf)
     refine iU hm (fun c8 hm=>?_) (fun c8 hm=>?_)
     · (conv=>whnf)
       refine aY hm fun h15 hm=>?_
       (conv=>whnf)
       refine iI hm fun v6 hv6 hm=>?_
       refine ⟨_,_,(Lh hv6),?_⟩
       (conv=>whnf)
       refine iU hm (fun c9 hm=>?_) (fun c9 hm=>?_)
       · (conv=>whnf)
         refine aY hm fun h16 hm=>?_
         (conv=>whnf)
         exact ⟨(g1+(1:Int)),[],[],hm,⟨rfl,⟨sr,sr,r4,sr,r2,trivial⟩,⟨⟨r2,sr,trivial⟩,trivial⟩⟩⟩
       · (conv=>whnf)
         refine aY hm fun h17 hm=>?_
         (conv=>whnf)
         refine aY hm fun h18 hm=>?_
         (conv=>whnf)
         refine aY hm fun h19 hm=>?_
         (conv=>whnf)
         refine iI hm fun v7 hv7 hm=>?_
         refine ⟨_,_,((ih _ _ hv7).le ⟨.refl _,.refl _,(.sl ozz (fun _=>rfl) nofun (j4 rfl (fun _ _=>.refl _) rfl (gM iV 0 [(v1.getD g1.toNat 0)]))),trivial⟩ trivial),?_⟩
         (conv=>whnf)
         refine iU hm (fun c10 hm=>?_) (fun c10 hm=>?_)
         · (conv=>whnf)
           have hm:r=(v7.1,true):=hm
           subst hm
           refine ⟨[],[],?_⟩
           (conv=>whnf)
           exact ⟨⟨rfl,trivial,trivial⟩,⟨sf,rfl,trivial⟩⟩
         · (conv=>whnf)
           refine aY hm fun h20 hm=>?_
           (conv=>whnf)
           exact ⟨(g1+(1:Int)),[],[],hm,⟨rfl,⟨sr,sr,r4,sr,r2,trivial⟩,⟨⟨r2,sr,trivial⟩,trivial⟩⟩⟩
     · (conv=>whnf)
       have hm:r=(([]:List Int),false):=hm
       subst hm
       refine ⟨[],[],?_⟩
       (conv=>whnf)
       exact ⟨⟨rfl,trivial,trivial⟩,⟨⟨rfl,(fun h=>absurd rfl h),nofun,(fun _ h=>absurd h (Nat.not_lt_zero _))⟩,rfl,trivial⟩⟩
theorem Ut {p_:bn} {l_:(List ByteArray)} {dN:(List Int)} {r:((List Int)×Bool)} (hm:CP p_ l_ dN r):S 129 [lT p_,gG l_,aC dN] [] (.kH [aC r.1,.bool r.2]) [] :=by
 obtain ⟨n,hm⟩:=hm
 exact XV n (p_,l_,dN) r hm
theorem Uu {p_:bn} {l_:(List ByteArray)} {fH:(List Int)} {r:((List Int)×Int)} (hm:CQ p_ l_ fH r):S 74 [lT p_,gG l_,aC fH] [] (.kH [aC r.1,iV r.2]) [] :=sp Tryz.func74 rfl<|sq hm Z6 fun v1 hm=>si hm (fun _ hm=>by cases hm;exact re) fun _ hm=>sq hm Ut fun v2 hm=>si hm (fun _ hm=>by cases hm;exact re) fun _ hm=>by cases hm;exact re
theorem Oy {b_:aR} {l_:(List aK)} {g_:bL} {bN:Int} {dH:(List Int)} {r:(bL×Int×Int)} (hm:uw b_ l_ g_ bN dH r):S 31 [jy b_,dM l_,.eH 0 0 dH.length false,lU g_,iV bN] [.row 1 dH.length (bR iV 0 dH)] (.kH [lU r.1,iV r.2.1,iV r.2.2]) [.row 1 dH.length (bR iV 0 dH)] :=spc [8,12] Tryz.func31 rfl<|sq hm Ur fun v1 hm=>si hm (fun _ hm=>by cases hm;exact re) fun _ hm=>sq hm Gw fun v2 hm=>si hm (fun _ hm=>by cases hm;exact re) fun _ hm=>s2 hm fun _ _ hm=>ck [8,12] (uT b_ l_ bN) r (fun g1=>⟨[(1,dM l_),(4,iV bN),(5,.ptr 1 0 0),(10,.ptr 2 0 0),(14,.eH 3 0 g1.1.length false),(15,.ptr 4 0 0)],[(0,some (.row 1 dH.length (bR iV 0 dH))),(1,some (.box [aZ b_.bQ,aU b_.bB,iV b_.aQ.bO,bf b_.aQ.aD,dx b_.bg,bU b_.cB])),(2,some (.box [.sl 0 0 true fG,.sl 0 0 true fG,.sl 0 0 true fG,.sl 0 0 true fG,.sl 0 0 true fG,.sl 0 0 true fG])),(3,some (.row 1 g1.1.length (bR iV 0 g1.1))),(4,some (.box [.sl 0 0 true fG,.sl 0 0 true fG,.sl 0 0 true fG,dO g1.2,.sl 0 0 true fG,.sl 0 0 true fG]))],5⟩) (sq hm FU fun v11 hm=>lc [(2,some 17),(3,some 169),(4,some 225)] [209] hm) fun g1 hm=>sb hm fun v4 hv4 hm=>cl ((P6 hv4).le ⟨.refl _,.refl _,.refl _,(Le.QS ⟨(.sl rfl (fun h=>absurd rfl h) nofun (fun _ h=>absurd h (Nat.not_lt_zero _))),(.sl rfl (fun h=>absurd rfl h) nofun (fun _ h=>absurd h (Nat.not_lt_zero _))),(.sl rfl (fun h=>absurd rfl h) nofun (fun _ h=>absurd h (Nat.not_lt_zero _))),(.refl _),(.sl rfl (fun h=>absurd rfl h) nofun (fun _ h=>absurd h (Nat.not_lt_zero _))),(.sl rfl (fun h=>absurd rfl h) nofun (fun _ h=>absurd h (Nat.not_lt_zero _))),trivial⟩),trivial⟩ ⟨kS _,trivial⟩)<|si hm (fun _ hm=>by cases hm;exact re) fun _ hm=>ck [8,12] (sV b_ l_ bN v4) r (fun g2=>⟨[(1,dM l_),(4,iV bN),(5,.ptr 1 0 0),(10,.ptr 2 0 0),(16,.ptr 3 0 0),(19,.eH 4 0 g2.2.length false),(20,aC g2.1)],[(0,some (.row 1 dH.length (bR iV 0 dH))),(1,some (.box [aZ b_.bQ,aU b_.bB,iV b_.aQ.bO,bf b_.aQ.aD,dx b_.bg,bU b_.cB])),(2,some (.box [.sl 0 0 true fG,.sl 0 0 true fG,.sl 0 0 true fG,.sl 0 0 true fG,.sl 0 0 true fG,.sl 0 0 true fG])),(3,some (.box [aC v4.1,aT v4.2.1,aC v4.2.2.1,.eH 5 0 v4.2.2.2.2.2.2.2.length false,aT v4.2.2.2.1,aT v4.2.2.2.2.1])),(4,some (.row 1 g2.2.length (bR AV.str ByteArray.empty g2.2))),(5,some (.row 3 v4.2.2.2.2.2.2.2.length (bR qz bH v4.2.2.2.2.2.2.2)))],6⟩) (sq hm V7 fun v10 hm=>lc [(3,some 77),(4,some 149),(5,some 37)] [150] hm) fun g2 hm=>s2 hm fun _ _ hm=>sb hm fun v6 hv6 hm=>cl ((Uu hv6).le ⟨.refl _,(.sl ozz (fun _=>rfl) nofun (j4 rfl (fun _ _=>.refl _) rfl (fun _ _=>.refl _))),.refl _,trivial⟩ trivial)<|si hm (fun _ hm=>by cases hm;exact re) fun _ hm=>sn hm fun _ hm=>R3 [8,12] hm (fun g3=>⟨[(4,iV bN),(5,.ptr 1 0 0),(10,.ptr 2 0 0),(16,.ptr 3 0 0),(20,aC g2.1),(21,aC v6.1),(91,gG ((l_.getD bN.toNat bq).ak)),(92,iV ((((l_.getD bN.toNat bq).ak).length:Nat):Int)),(93,iV g3.1)],[(0,some (.row 1 dH.length (bR iV 0 dH))),(1,some (.box [aZ b_.bQ,aU b_.bB,iV b_.aQ.bO,bf b_.aQ.aD,dx b_.bg,bU b_.cB])),(2,some (.box [.sl 0 0 true fG,.sl 0 0 true fG,.sl 0 0 true fG,.sl 0 0 true fG,.sl 0 0 true fG,.sl 0 0 true fG])),(3,some (.box [aC v4.1,aT v4.2.1,aC v4.2.2.1,.eH 4 0 g3.2.length false,aT v4.2.2.2.1,aT v4.2.2.2.2.1])),(4,some (.row 3 g3.2.length (bR qz bH g3.2)))],5⟩) [(4,some 5)] [] <|fun jB g3 hm=>si hm (fun _ hm=>s2 hm fun _ _ hm=>s2 hm fun _ _ hm=>sq hm Gx fun v9 hm=>s2 hm fun _ _ hm=>lc [(4,some 237)] [] hm) fun _ hm=>by cases hm;exact rt [4] []
theorem Wd {dH:dz} {r:(aR×(List aK)×(List Int)×bL×dz)} (hm:FC dH r):S 11 [.ptr 0 0 0] [.box [aC dH.L,iV dH.At]] (.kH [jy r.1,dM r.2.1,aC r.2.2.1,lU r.2.2.2.1]) [.box [aC r.2.2.2.2.L,iV r.2.2.2.2.At]] :=sp Tryz.func11 rfl<|sq hm Oo fun v1 hm=>sq hm J5 fun v2 hm=>sq hm Lg fun v3 hm=>lf hm (fun g1=>⟨[(0,.ptr 0 0 0),(2,.ptr 1 0 0),(5,.ptr 2 0 0),(6,.ptr 3 0 0),(7,dM v2.1),(8,.ptr 4 0 0),(9,iV v3.2),(10,.eH 5 0 g1.2.2.2.2.2.2.2.2.2.length false),(26,iV (v2.1.length:Int)),(27,iV g1.1)],[(0,some (.box [aC g1.2.1,iV g1.2.2.1])),(1,some (.box [.sl 0 0 true fG,.sl 0 0 true fG,iV (0:Int),.sl 0 0 true fG,.sl 0 0 true fG,.sl 0 0 true fG])),(2,some (.box [.sl 0 0 true fG,.sl 0 0 true fG,.sl 0 0 true fG,.sl 0 0 true fG,.sl 0 0 true fG,.sl 0 0 true fG])),(3,some (.box [aZ v1.1.bQ,aU v1.1.bB,iV v1.1.aQ.bO,bf v1.1.aQ.aD,dx v1.1.bg,bU v1.1.cB])),(4,some (.box [aC g1.2.2.2.1,aT g1.2.2.2.2.1,aC g1.2.2.2.2.2.1,dO g1.2.2.2.2.2.2.1,aT g1.2.2.2.2.2.2.2.1,aT g1.2.2.2.2.2.2.2.2.1])),(5,some (.row 1 g1.2.2.2.2.2.2.2.2.2.length (bR iV 0 g1.2.2.2.2.2.2.2.2.2)))],6⟩) [(2,some 25),(3,some 49),(4,some 137),(5,none)] [] <|fun aj g1 hm=>si hm (fun _ hm=>sq hm Oy fun v8 hm=>si hm (fun _ hm=>sq hm bZ fun v9 hm=>si hm (fun _ hm=>s2 hm fun _ _ hm=>lc [(5,some 262)] [] hm) fun _ hm=>sn hm fun _ hm=>le hm) fun c8 hm=>by
 refine ⟨(fun q0=>absurd q0 (vac c8)),?_⟩
 (conv=>whnf)
 refine aY hm fun h14 hm=>?_
 (conv=>whnf)
 refine aY hm fun h15 hm=>?_
 (conv=>whnf)
 exact ⟨((g1.1+(1:Int)),g1.2.1,g1.2.2.1,g1.2.2.2.1,g1.2.2.2.2.1,g1.2.2.2.2.2.1,g1.2.2.2.2.2.2.1,g1.2.2.2.2.2.2.2.1,g1.2.2.2.2.2.2.2.2.1,g1.2.2.2.2.2.2.2.2.2),[],[],hm,⟨rfl,⟨r4,r4,r4,r4,sr,r4,r2,⟨rfl,rfl,rfl,rfl,nofun⟩,r2,r2,trivial⟩,⟨⟨sf,r2,trivial⟩,⟨sr,sr,r2,sr,sr,sr,trivial⟩,⟨sr,sr,sr,sr,sr,sr,trivial⟩,⟨sr,sr,r2,sr,sr,sr,trivial⟩,⟨sf,sf,sf,sf,sf,sf,trivial⟩,⟨rfl,rfl,(fun _ _=>.refl _)⟩,trivial⟩⟩⟩) fun _ hm=>by cases hm;exact rt [5] []
theorem Li {a_:(List Int)} {b_:(List Int)} {r:Bool} (hm:Eb a_ b_ r):S 37 [aC a_,aC b_] [] (.bool r) [] :=sp Tryz.func37 rfl<|si hm (fun _ hm=>by cases hm;exact re) fun _ hm=>l0 hm (fun g1=>⟨[(0,aC a_),(1,aC b_),(5,iV g1)],[],0⟩) <|fun aj g1 hm=>si hm (fun _ hm=>s2 hm fun _ _ hm=>si hm (fun _ hm=>by cases hm;exact re) fun _ hm=>sn hm fun _ hm=>le hm) fun _ hm=>by cases hm;exact re
theorem zk {a_:(List Bool)} {b_:(List Bool)} {r:Bool} (hm:vI a_ b_ r):S 39 [aT a_,aT b_] [] (.bool r) [] :=sp Tryz.func39 rfl<|si hm (fun _ hm=>by cases hm;exact re) fun _ hm=>l0 hm (fun g1=>⟨[(0,aT a_),(1,aT b_),(5,iV g1)],[],0⟩) <|fun aj g1 hm=>si hm (fun _ hm=>s2 hm fun _ _ hm=>si hm (fun _ hm=>by cases hm;exact re) fun _ hm=>sn hm fun _ hm=>le hm) fun _ hm=>by cases hm;exact re
theorem Oz {a_:cO} {b_:cO} {r:Bool} (hm:uy a_ b_ r):S 38 [Ay a_,Ay b_] [] (.bool r) [] :=sp Tryz.func38 rfl<|sq hm zk fun v1 hm=>sb hm fun v2 hv2 hm=>cl (fun q0=>(Li (hv2 q0)))<|by cases hm;exact re
theorem zl {b_:aR} {l_:(List aK)} {ah:(List Int)} {g_:bL} {r:(bL×Int×Int)} (hm:vJ b_ l_ ah g_ r):S 26 [jy b_,dM l_,aC ah,lU g_] [] (.kH [lU r.1,iV r.2.1,iV r.2.2]) [] :=sp Tryz.func26 rfl<|sq hm Iw fun v1 hm=>si hm (fun _ hm=>by cases hm;exact re) fun _ hm=>sq hm sH fun v2 hm=>by cases hm;exact rt [136] []
theorem LV {t_:(List Int)} {r:Bool} (hm:yO t_ r):S 7 [aC t_] [] (.bool r) [] :=spc [14] Tryz.func7 rfl<|si hm (fun _ hm=>sq hm Bu fun v1 hm=>by cases hm;exact re) fun _ hm=>sq hm ZX fun v2 hm=>sq hm Wd fun v3 hm=>sq hm Lg fun v4 hm=>si hm (fun _ hm=>sq hm Bu fun v5 hm=>by cases hm;exact re) fun _ hm=>sn hm fun _ hm=>R3 [14] hm (fun g1=>⟨[(4,.ptr 0 0 0),(5,dM v3.2.1),(6,aC v3.2.2.1),(7,.ptr 1 0 0),(10,.eH 2 0 g1.2.length false),(11,iV g1.1)],[(0,some (.box [aZ v3.1.bQ,aU v3.1.bB,iV v3.1.aQ.bO,bf v3.1.aQ.aD,dx v3.1.bg,bU v3.1.cB])),(1,some (.box [aC v3.2.2.2.1.dD,aT v3.2.2.2.1.eZ.On,aC v3.2.2.2.1.eZ.dP,dO v3.2.2.2.1.dZ,aT v3.2.2.2.1.eu,aT v3.2.2.2.1.fA])),(2,some (.row 1 g1.2.length (bR iV 0 g1.2)))],3⟩) [(0,some 112),(1,some 120),(2,none)] [] <|fun aj g1 hm=>si hm (fun _ hm=>s2 hm fun _ _ hm=>sn hm fun _ hm=>lc [(2,some 67)] [] hm) fun _ hm=>ck [14] (rD v3) r (fun g2=>⟨[(4,.ptr 0 0 0),(5,dM v3.2.1),(6,aC v3.2.2.1),(7,.ptr 1 0 0),(10,aC g2.1),(12,.ptr 2 0 0),(14,iV g2.2.1)],[(0,some (.box [aZ v3.1.bQ,aU v3.1.bB,iV v3.1.aQ.bO,bf v3.1.aQ.aD,dx v3.1.bg,bU v3.1.cB])),(1,some (.box [aC v3.2.2.2.1.dD,aT v3.2.2.2.1.eZ.On,aC v3.2.2.2.1.eZ.dP,dO v3.2.2.2.1.dZ,aT v3.2.2.2.1.eu,aT v3.2.2.2.1.fA])),(2,some (.box [aC g2.2.2.1,aT g2.2.2.2.1,aC g2.2.2.2.2.1,dO g2.2.2.2.2.2.1,aT g2.2.2.2.2.2.2.1,aT g2.2.2.2.2.2.2.2]))],3⟩) (sq hm zl fun v17 hm=>lc [(2,some 91)] [2] hm) fun g2 hm=>sq hm zl fun v7 hm=>sb hm fun v8 CU hm=>cl (fun q0=>(Li (CU q0)))<|sb hm fun v9 hv9 hm=>cl (fun q0=>(Oz (hv9 q0)))<|sb hm fun v10 EC hm=>cl (fun q0=>(zk (EC q0)))<|sb hm fun v11 acX hm=>cl (fun q0=>(zk (acX q0)))<|sb hm fun v12 Vh hm=>cl (fun q0=>(y9 (Vh q0)))<|si hm (fun _ hm=>by cases hm;exact re) fun _ hm=>R3 [14] hm (fun g3=>⟨[(4,.ptr 0 0 0),(5,dM v3.2.1),(6,aC v3.2.2.1),(7,.ptr 1 0 0),(122,iV (v3.2.2.1.length:Int)),(123,iV g3)],[(0,some (.box [aZ v3.1.bQ,aU v3.1.bB,iV v3.1.aQ.bO,bf v3.1.aQ.aD,dx v3.1.bg,bU v3.1.cB])),(1,some (.box [aC v3.2.2.2.1.dD,aT v3.2.2.2.1.eZ.On,aC v3.2.2.2.1.eZ.dP,dO v3.2.2.2.1.dZ,aT v3.2.2.2.1.eu,aT v3.2.2.2.1.fA]))],2⟩) [] [] <|fun jB g3 hm=>si hm (fun _ hm=>sn hm fun _ hm=>sb hm fun v15 Pt hm=>cl ((zl Pt).le ⟨.refl _,.refl _,(.sl ozz (fun _=>rfl) nofun (lN (f:=iV) (d:=0) (by first | omega | exact Nat.min_le_left _ _ | exact Nat.le_trans (Nat.min_le_left _ _) om | (simp; omega)))),.refl _,trivial⟩ trivial)<|si hm (fun _ hm=>by cases hm;exact re) fun _ hm=>sn hm fun _ hm=>le hm) fun _ hm=>sq hm Bu fun v16 hm=>by cases hm;exact re
end Go.Proofs.YtccjmcmolnbiiaaGreatDoor
namespace Go.Proofs.YtccjmcmolnbiiaaGreatDoor
open Go.Ab
set_option maxRecDepth 100000
theorem Wh {l_:(List aI)} {s_:(List Int)} (h1:Good l_ s_):W (qX l_ s_) (fun r=>r=gD l_ s_):=by
 obtain ⟨q1,q2,q3,q4,q5⟩:=h1;unfold qX;refine wn ?_;refine bF (fun (g1:(Int×(List bI)))=>0≤g1.1∧g1.1≤l_.length∧g1.2=qx l_ s_ g1.1.toNat++List.replicate (l_.length - g1.1.toNat) dV) (fun (g1:(Int×(List bI)))=>(l_.length - g1.1).toNat) ?_ ?_
 ·intro aj g1 dQ bS;obtain ⟨dG,bE,bG⟩:=dQ;unfold E8;refine wi (fun c1=>?_) (fun c1=>?_)
  ·have hlt:g1.1.toNat<l_.length:=om; have hch:=q3 _ hlt; have hpar:=q5 _ hlt; have hpc:=q4 _ hlt; have hrl:=rE l_ s_ g1.1.toNat; have hgl:g1.2.length=l_.length:=(by rw [bG,List.length_append,hrl,List.length_replicate]; omega);refine wm ?_;refine wn ?_;refine aH (NJ ob ob ob ob) fun v7 hv7=>?_;subst v7;refine bV (fun c2=>?_) (fun c2=>?_)
   ·have jT:=c2;have c2:=nr c2;refine wm ?_;refine bS _ ?_ ?_
    ·(refine ⟨ob,ob,?_⟩; dsimp only; exact qm bG om (by unfold WS; rw [jT]; rfl))
    ·exact ob
   ·have jT:=c2;have c2:=nr c2;have hget:g1.2.getD (jZ (l_.getD g1.1.toNat aJ) (s_.getD g1.1.toNat 0)).toNat dV=(qx l_ s_ g1.1.toNat).getD (jZ (l_.getD g1.1.toNat aJ) (s_.getD g1.1.toNat 0)).toNat dV:=by rw [bG]; exact jr _ om
    refine wn ?_;refine bV (fun c3=>?_) (fun c3=>?_)
    ·have jI:=c3;have c3:=nr c3;refine wm ?_;refine bS _ ?_ ?_
     ·(refine ⟨ob,ob,?_⟩; dsimp only; exact qm bG om (by unfold WS; rw [jT,← hget,show (ni _||_)=true from jI]; rfl))
     ·exact ob
    ·have jI:=c3;have c3:=nr c3;refine bV (fun c4=>?_) (fun c4=>?_)
     ·have rZ:=c4;have c4:=nr c4;refine wn ?_;refine aH (WU) fun v8 CU=>?_;subst v8;refine wm ?_;refine bS _ ?_ ?_
      ·(refine ⟨ob,ob,?_⟩; dsimp only; exact qm bG om (by unfold WS; rw [jT,← hget,show (ni _||_)=false from jI,rZ]; rfl))
      ·exact ob
     ·have rZ:=c4;have c4:=nr c4;refine bV (fun c5=>?_) (fun c5=>?_)
      ·have CV:=c5;have c5:=nr c5;refine wn ?_;refine aH (Tf) fun v9 hv9=>?_;subst v9;refine wm ?_;refine bS _ ?_ ?_
       ·(refine ⟨ob,ob,?_⟩; dsimp only; exact qm bG om (by unfold WS; rw [jT,← hget,show (ni _||_)=false from jI,rZ,CV]; rfl))
       ·exact ob
      ·have CV:=c5;have c5:=nr c5;refine wm ?_;refine wn ?_;refine bS _ ?_ ?_
       ·(refine ⟨ob,ob,?_⟩; dsimp only; exact qm bG om (by unfold WS; rw [jT,← hget,show (ni _||_)=false from jI,rZ,CV]; rfl))
       ·exact ob
  ·refine av ?_;(rw [bG,show g1.1.toNat=l_.length by omega,Nat.sub_self]; simp [gD])
 ·(refine ⟨ob,ob,?_⟩; simp [qx])
theorem Wi {l_:(List aI)} {s_:(List Int)} (h1:l_.length≤2000000) (h2:s_.length≤2000000) (h3:aer l_):W (wM l_ s_) (fun r=>r=uU l_ s_):=by
 unfold wM;refine aH (Ca (tQ ob)) fun v1 hv1=>?_;subst v1;refine bV (fun c1=>?_) (fun c1=>?_)
 ·have fU:=c1;have c1:=nr c1;refine av ?_;(unfold uU; rw [fU]; rfl)
 ·have fU:=c1;have c1:=nr c1;have hck:eF l_=0:=by simpa using fU
  refine aH (Ba ob ob ob) fun v2 hv2=>?_;subst v2;refine bV (fun c2=>?_) (fun c2=>?_)
  ·have jT:=c2;have c2:=nr c2;refine av ?_;(unfold uU; rw [fU,jT]; rfl)
  ·have jT:=c2;have c2:=nr c2;have hgd:=O5 (uz hck) (show kD l_ s_=true by simpa using jT);refine aH (Wh ob) fun v3 hv3=>?_;subst v3;refine av ?_;(unfold uU; rw [fU,jT]; rfl)
theorem ao5 {x:Int} (h0:0≤x) (h1:x≤4000000):IntKind.i64.wrap (GD .u64 (IntKind.u64.wrap x) (1:Int))=x / 2:=by
 have e1:IntKind.u64.wrap x=x:=Sp.wrap_u64 ⟨om,om⟩;have e2:GD .u64 x 1=x / 2:=by
  unfold GD;rw [show (2:Int) ^ min (1:Int).toNat IntKind.u64.bits=2 from rfl];exact Int.fdiv_eq_ediv_of_nonneg _ om
 rw [e1,e2];exact wrap_i64 ⟨om,om⟩
theorem mul_one {n:Nat} (h:n≤16):zu (IntKind.u64.wrap ((1:Nat):Int)) (IntKind.u64.wrap ((n:Nat):Int)) ((0:Int),(n:Int)):=by
 have key:∀n:Nat,n<17→M.ex 100 (zu (IntKind.u64.wrap ((1:Nat):Int)) (IntKind.u64.wrap ((n:Nat):Int)))=some ((0:Int),(n:Int)):=by decide +kernel
 exact M.ake 100 _ _ (key n om)
theorem Gy {α β:Type} (f:α→β) (l:List α) (d:α) {i:Nat} (h:i<l.length):(l.take (i+1)).map f=(l.take i).map f++[f (l.getD i d)]:=by
 rw [List.take_add_one,List.map_append,List.getElem?_eq_getElem h,List.getD_eq_getElem?_getD,List.getElem?_eq_getElem h];rfl
def aqx (g:cK) (f:ByteArray):Int:=acu g.ak fun x=>f.toList==x.toList
def aqy (p:bn) (f:ByteArray) (n:Nat):List Int:=((List.range n).filter fun i=>decide (0≤aqx (p.aD.getD i aG) f)).map fun i=>((i:Nat):Int)
def GSz (p:bn):Prop:=∀g∈p.aD,g.bO.length≤2000000∧g.ak.length≤2000000
def orF (a:Int) (k:Int):Int:=orI .u64 a (Yr .u64 (1:Int) k)
def aqz (g:cK):Int:=g.bO.foldl orF 0
def ao6 (ms:List Int) (gs:List Int):Int:=gs.foldl (fun a g=>orI .u64 a (ms.getD g.toNat 0)) 0
structure PB (p:bn) (l:List ByteArray) (given:List Int) (x:eP):Prop where
 pa:Eh p 0
 ll:l.length≤10
 op:x.gU=l.map fun f=>aqy p f p.aD.length
 ms:x.wo=p.aD.map aqz
 gv:x.yG=given
 gl:given.length≤l.length
 tk:x.Dp=ao6 x.wo given
 gm:∀i:Nat,i<given.length→given.getD i 0∈x.gU.getD i []
def opA (x:eP) (ch:List Int) (n:Nat):List Int:=x.gU.getD (ch.getD n 0).toNat []
structure awG (x:eP) (ch:List Int) (taken:Int) (gs row:List Int):Prop where
 len:row.length=ch.length
 pre:row.take gs.length=gs
 mem:∀i:Nat,gs.length≤i→i<ch.length→row.getD i 0∈opA x ch i
 lst:gs.length+1=ch.length→∃j:Nat,j<(opA x ch gs.length).length∧(opA x ch gs.length).getD j 0=row.getD gs.length 0∧∀i:Nat,i<j→R5 .u64 taken (x.wo.getD ((opA x ch gs.length).getD i 0).toNat 0)≠0
 dj:∀i:Nat,gs.length≤i→i<ch.length→R5 .u64 (((row.drop gs.length).take (i - gs.length)).foldl (fun a g=>orI .u64 a (x.wo.getD g.toNat 0)) taken) (x.wo.getD (row.getD i 0).toNat 0)=0
structure avh (x:eP) (r:List Int):Prop where
 len:r.length=x.gU.length - x.yG.length
 at_:∀j:Nat,j<r.length→r.getD j 0=((x.yG.length+j:Nat):Int)
theorem IU {p:Prop} {c:Int} {A:Int→Prop} (hc:c≠0) (h:JQ p c A 0):¬p∧A 0:=by
 rcases h with ⟨_,h⟩ | h
 ·exact absurd h.symm hc
 ·exact h
theorem am4 {b:aR} {l:List aK} {ms:List Int} {g:bL} {bt:Bool} (h:aeY b l ms g bt 0):Eh b.aQ 0∧Rz b.aQ (g.dZ.map aS.mI):=by
 obtain ⟨_,h⟩:=IU (by decide) h;obtain ⟨_,h⟩:=IU (by decide) h;obtain ⟨_,h⟩:=IU (by decide) h;obtain ⟨_,h⟩:=IU (by decide) h;obtain ⟨_,h⟩:=IU (by decide) h;exact Classical.not_not.1 (IU (by decide) h).1
def IV (ms:List Int) (us:List aS):List aS:=us.filter fun u=>ms.contains u.iE
theorem zm {α:Type} (P:α→Bool) (l:List α) (d:α) {i:Nat} (h:i<l.length):(l.take (i+1)).filter P=(l.take i).filter P++(if P (l.getD i d) then [l.getD i d] else []):=by
 rw [List.take_add_one,List.filter_append,List.getElem?_eq_getElem h,List.getD_eq_getElem?_getD,List.getElem?_eq_getElem h];congr 1;simp only [Option.toList_some,Option.getD_some,List.filter_cons,List.filter_nil]
abbrev GA:=List Int×List Bool×List Int×List Bool×List Bool×Int×Int×List aS
structure awI (r:GA):Prop where
 a:r.1.length≤16
 b:r.2.1.length≤16
 c:r.2.2.1.length≤16
 d:r.2.2.2.1.length≤32
 e:r.2.2.2.2.1.length≤16
structure awJ (b:aR) (fns:List ByteArray) (dev:Int) (old:List aS) (new:List aS):Prop where
 pa:Eh b.aQ 0
 len:new.length=fns.length
 bd:fns.length≤10
 at_:∀i:Nat,i<new.length→(new.getD i bH).iE=dev∧0≤(new.getD i bH).mI.dF∧(new.getD i bH).mI.dF<b.aQ.aD.length∧(new.getD i bH).mI.gV=aqx (b.aQ.aD.getD (new.getD i bH).mI.dF.toNat aG) (fns.getD i ByteArray.empty)
 lst:fns.length=1→∀k∈aqy b.aQ (fns.getD 0 ByteArray.empty) b.aQ.aD.length,k<(new.getD 0 bH).mI.dF→
  ∃u∈old,∃x,x∈(b.aQ.aD.getD u.mI.dF.toNat aG).bO∧x∈(b.aQ.aD.getD k.toNat aG).bO
theorem jK {α:Type} (d:α) (a b:List α) (j:Nat):(a++b).getD (a.length+j) d=b.getD j d:=by
 rw [List.getD_eq_getElem?_getD,List.getElem?_append_right om,List.getD_eq_getElem?_getD,show a.length+j - a.length=j by omega]
theorem Sp.Pj {l:List ay} {d:List aW} (h:(Sp.iH l d).2=0):(Sp.iH l d).1.On.length=l.length∧(Sp.iH l d).1.dP.length=l.length:=by
 unfold Sp.iH at h ⊢;cases h1:Sp.pE l d != 0 with
 | true=>rw [h1] at h; simp at h1; exact absurd h h1
 | false=>
  rw [h1] at h;cases h2:decide (0≤(Sp.Io l d).2)||!Sp.fq l ⟨Sp.fF l d,(Sp.Io l d).1.lv⟩ d with
  | true=>rw [h2] at h; cases h
  | false=>
   simp only [Bool.or_eq_false_iff,Bool.not_eq_false'] at h2;have hm:=h2.2;unfold Sp.fq at hm;cases h3:!Sp.uV l ⟨Sp.fF l d,(Sp.Io l d).1.lv⟩||!Sp.ig l d with
   | true=>rw [h3] at hm; cases hm
   | false=>
    simp only [Bool.or_eq_false_iff,Bool.not_eq_false'] at h3;have:=(Sp.Db.1 h3.1).2;exact ⟨this.On,this.len⟩
theorem anJ {b:aR} (h:amx b):Gg b:=by
 obtain ⟨b1,b2,b3,b4,b5,b6,b7,b8,b9⟩:=h;exact ⟨om,fun i hi=>by have:=b2 _ (getD_in (i:=i) aJ hi); omega,om,fun g hg=>by have:=b6 g hg; omega,om,fun g hg=>by have:=b8 g hg; omega,om⟩
theorem ac6 {l_:(List dB)} {eX:(List Int)} (h1:eX.length≤100000000000):W (OX l_ eX) (fun r=>r=0→aiB l_∧∀x∈eX,0≤x∧x<l_.length):=by
 unfold OX;refine aH (aaN) fun v1 hv1=>?_;refine bV (fun c1=>?_) (fun c1=>?_)
 ·have fU:=c1;have c1:=nr c1;refine av ?_;exact ob
 ·have fU:=c1;have c1:=nr c1;refine bF (fun (g1:Int)=>0≤g1∧(∀j:Nat,(j:Int)<g1→0≤eX.getD j 0∧eX.getD j 0<l_.length)) (fun (g1:Int)=>(eX.length - g1).toNat) ?_ ?_
  ·intro aj g1 dQ bS;obtain ⟨dG,bE⟩:=dQ;unfold SV;refine wi (fun c2=>?_) (fun c2=>?_)
   ·refine wm ?_;refine wi (fun c3=>?_) (fun c3=>?_)
    ·refine av ?_;exact ob
    ·refine wn ?_;refine bS _ ?_ ?_
     ·(refine ⟨ob,dR bE dG om⟩)
     ·exact ob
   ·refine av ?_;(intro _; exact ⟨hv1 (by simpa using fU),jG 0 fun j hj=>bE j om⟩)
  ·(refine ⟨ob,fun j hj=>by (try dsimp only at hj); omega⟩)
theorem Lj {l_:(List d9)} {fC:(List Int)} (h1:∀g∈l_,g.dX.length≤2000000) (h2:fC.length≤100000000000) (h3:l_.length≤2000000):W (wU l_ fC) (fun r=>r.1.length≤l_.length):=by
 unfold wU;refine aH (aaM h1) fun v1 hv1=>?_;refine bV (fun c1=>?_) (fun c1=>?_)
 ·have fU:=c1;have c1:=nr c1;refine av ?_;exact ob
 ·have fU:=c1;have c1:=nr c1;obtain ⟨p1,p2⟩:=hv1 (by simpa using fU);refine wn ?_;refine bF (fun (g1:(Int×(List Bool)))=>0≤g1.1∧g1.2.length=l_.length) (fun (g1:(Int×(List Bool)))=>(fC.length - g1.1).toNat) ?_ ?_
  ·intro aj g1 dQ bS;obtain ⟨dG,bE⟩:=dQ;unfold KR;refine wi (fun c2=>?_) (fun c2=>?_)
   ·refine wm ?_;refine wi (fun c3=>?_) (fun c3=>?_)
    ·refine av ?_;exact ob
    ·refine wm ?_;refine wn ?_;refine bS _ ?_ ?_
     ·exact ob
     ·exact ob
   ·refine wn ?_;refine bF (fun (g2:(Int×(List Bool))) => -1≤g2.1∧g2.1<l_.length∧g2.2.length=l_.length) (fun (g2:(Int×(List Bool)))=>(g2.1+1).toNat) ?_ ?_
    ·intro dK g2 lZ oq;obtain ⟨oH,ji,oI⟩:=lZ;unfold H9;refine wi (fun c4=>?_) (fun c4=>?_)
     ·have hgl:=h1 _ (getD_in (i:=g2.1.toNat) dh om);refine bF (fun (g5:(Int×(List Bool)))=>0≤g5.1∧g5.2.length=l_.length) (fun (g5:(Int×(List Bool)))=>((l_.getD g2.1.toNat dh).dX.length - g5.1).toNat) ?_ ?_
      ·intro j5 g5 Tx Rx;obtain ⟨Qy,FE⟩:=Tx;unfold H8;refine wm ?_;refine bV (fun c5=>?_) (fun c5=>?_)
       ·have CV:=c5;have c5:=nr c5;simp only [Bool.and_eq_true,decide_eq_true_eq] at CV;have hx:=p2 g2.1.toNat om _ (getD_in (i:=g5.1.toNat) 0 om);refine wm ?_;refine wm ?_;refine Rx _ ?_ ?_
        ·exact ob
        ·exact ob
       ·have CV:=c5;have c5:=nr c5;refine wn ?_;refine oq _ ?_ ?_
        ·exact ob
        ·exact ob
      ·exact ob
     ·refine av ?_;exact ob
    ·exact ob
  ·(refine ⟨ob,by simp⟩)
theorem Xb {l_:(List dB)} {eX:(List Int)} (h1:eX.length≤100000000000) (h3:l_.length≤2000000):W (Nk l_ eX) (fun r=>r.1.length≤l_.length):=by
 unfold Nk;refine aH (ac6 ob) fun v1 hv1=>?_;refine bV (fun c1=>?_) (fun c1=>?_)
 ·have fU:=c1;have c1:=nr c1;refine av ?_;simp
 ·have fU:=c1;have c1:=nr c1;obtain ⟨⟨p1,p2⟩,p3⟩:=hv1 (by simpa using fU);refine wn ?_;refine bF (fun (g1:(Int×(List Bool)))=>0≤g1.1∧g1.2.length=l_.length) (fun (g1:(Int×(List Bool)))=>(eX.length - g1.1).toNat) ?_ ?_
  ·intro aj g1 dQ bS;obtain ⟨dG,bE⟩:=dQ;unfold WR;refine wi (fun c2=>?_) (fun c2=>?_)
   ·have hx:=p3 _ (getD_in (i:=g1.1.toNat) 0 om);refine wm ?_;refine wn ?_;refine bS _ ?_ ?_
    ·exact ob
    ·exact ob
   ·refine wn ?_;refine bF (fun (g2:(Int×(List Bool))) => -1≤g2.1∧g2.1<l_.length∧g2.2.length=l_.length) (fun (g2:(Int×(List Bool)))=>(g2.1+1).toNat) ?_ ?_
    ·intro dK g2 lZ oq;obtain ⟨oH,ji,oI⟩:=lZ;unfold SX;refine wi (fun c3=>?_) (fun c3=>?_)
     ·have hp:=p2 g2.1.toNat om;refine wm ?_;refine wn ?_;unfold Jz;refine wm ?_;refine wi (fun c4=>?_) (fun c4=>?_)
      ·refine wm ?_;refine wn ?_;refine oq _ ?_ ?_
       ·exact ob
       ·exact ob
      ·refine wn ?_;refine oq _ ?_ ?_
       ·exact ob
       ·exact ob
     ·refine av ?_;exact ob
    ·exact ob
  ·(refine ⟨ob,by simp⟩)
theorem agG {l_:List Int} {x_:Int} (h:l_.length≤2000000):W (Ad l_ x_) (fun r=>r=true→x_∈l_):=by
 unfold Ad;refine bF (fun g1:Int=>0≤g1) (fun g1=>(l_.length - g1).toNat) ?_ (Int.le_refl _);intro aj g1 a1 ih1;unfold Nl;refine bV (fun c=>?_) (fun c=>av nofun);have c:=nr c;refine wn ?_;refine bV (fun c2=>?_) (fun c2=>?_)
 ·have c2:=nr c2;exact av fun _=>by rw [← c2]; exact getD_in 0 om
 ·exact bC ob (ih1 _ om om)
theorem FV {l_:List aK} {ah:List Int} (h1:∀x∈l_,x.ak.length≤10) (h2:ah.length≤10000):W (p9 l_ ah) (fun _=>True):=by
 unfold p9;refine bF (fun g1:Int×Int=>0≤g1.2∧0≤g1.1∧g1.1≤10*g1.2) (fun g1=>(ah.length - g1.2).toNat) ?_ ob;intro aj g1 ⟨a1,a2,a3⟩ ih1;unfold DZ;refine bV (fun c=>?_) (fun c=>av trivial);have c:=nr c;refine wn ?_;refine bV (fun c2=>?_) (fun c2=>?_)
 ·have c2:=nr c2;have hx:=h1 _ (getD_in (i:=(ah.getD g1.2.toNat 0).toNat) bq om);refine wn ?_;refine bC (by unfold aF; omega) ?_;refine bC (by unfold aF; omega) ?_;exact ih1 _ ⟨by dsimp only; omega,by dsimp only; omega,by dsimp only; omega⟩ (by dsimp only; omega)
 ·refine bC (by unfold aF; omega) ?_;exact ih1 _ ⟨by dsimp only; omega,by dsimp only; omega,by dsimp only; omega⟩ (by dsimp only; omega)
structure Ga2 (r:GA):Prop where
 a:r.1.length≤2000000
 b:r.2.1.length≤2000000
 c:r.2.2.1.length≤2000000
 d:r.2.2.2.1.length≤2000000
 e:r.2.2.2.2.1.length≤2000000
theorem zJ (p e:Int):Ga2 ([],[],[],[],[],p,e,[]):=⟨by simp,by simp,by simp,by simp,by simp⟩
theorem ac7 {l:List aI}:∀ {s t:List Int},VS l s→VS l t→sZ l s=sZ l t→s=t:=by
 induction l with
 | nil=>
  intro s t hs ht _;rw [List.length_eq_zero_iff.1 hs.1,List.length_eq_zero_iff.1 ht.1]
 | cons c l ih=>
  intro s t hs ht e;obtain ⟨x,s,rfl,x0,x1,hs⟩:=TI hs;obtain ⟨y,t,rfl,y0,y1,ht⟩:=TI ht;have p1:=NZ hs;have p2:=NZ ht;rw [sZ,sZ] at e;have hd:x.toNat=y.toNat:=by
   rcases Nat.lt_trichotomy x.toNat y.toNat with q | q | q
   ·have:(x.toNat+1)*rJ l≤y.toNat*rJ l:=Nat.mul_le_mul_right _ om;rw [Nat.add_mul,Nat.one_mul] at this;omega
   ·exact q
   ·have:(y.toNat+1)*rJ l≤x.toNat*rJ l:=Nat.mul_le_mul_right _ om;rw [Nat.add_mul,Nat.one_mul] at this;omega
  rw [hd] at e;rw [show x=y by omega,ih hs ht om]
def aiO (l:List aI) (m:List bK) (s:List Int):Prop:=VS l s∧fq l s m=true∧∀t,VS l t→fq l t m=true→sZ l s≤sZ l t
theorem aiO.uniq {l:List aI} {m m':List bK} {s s':List Int} (h:aiO l m s) (h':aiO l m' s') (hm:∀t,fq l t m=fq l t m'):s=s':=
 ac7 h.1 h'.1 (Nat.le_antisymm (h.2.2 _ h'.1 (by rw [hm]; exact h'.2.1)) (h'.2.2 _ h.1 (by rw [← hm]; exact h.2.1)))
def bkB (rs:List bI) (b:jk):Bool:=bif (rs.getD b.Aw.toNat dV).jW==0 then !b.ahf else !nO (rs.getD b.Aw.toNat dV) b.flow b.ahe
def RV (l:List aI) (rs:List bI):Prop:=∀i:Nat,i<l.length→pz (rs.getD i dV)=true
theorem ae0 {r:bI} (hv:pz r=true):(r.jW==0)=ni r:=by
 cases h:ni r with
 | true=>
  unfold ni at h;simp only [Bool.and_eq_true] at h;exact h.1
 | false=>
  exact beq_eq_false_iff_ne.2 (abJ hv h)
theorem any_take_succ {α:Type} (P:α→Bool) (l:List α) (d:α) {i:Nat} (h:i<l.length):(l.take (i+1)).any P=((l.take i).any P||P (l.getD i d)):=by
 rw [List.take_add_one,List.any_append,List.getElem?_eq_getElem h,List.getD_eq_getElem?_getD,List.getElem?_eq_getElem h];simp
def ath (l:List aI) (m:List bK) (r:List jk):Prop:=∀rs,RV l rs→r.any (bkB rs)=(m.any (Rn rs)||!ownB l rs)
theorem aaZ {l_:List aI} {m_:List bK} (h1:l_.length≤2000000) (h2:m_.length≤2000000) (h3:∀x∈m_,0≤x.eU∧x.eU<l_.length):W (Jk l_ m_) (fun r=>r.length≤m_.length+l_.length∧(∀b∈r,0≤b.Aw∧b.Aw<l_.length)∧ath l_ m_ r):=by
 unfold Jk;refine bF (fun g1:Int×List jk=>0≤g1.1∧g1.1≤m_.length∧(g1.2.length:Int)≤g1.1∧(∀b∈g1.2,0≤b.Aw∧b.Aw<l_.length)∧∀rs,RV l_ rs→g1.2.any (bkB rs)=(m_.take g1.1.toNat).any (Rn rs)) (fun g1=>(m_.length - g1.1).toNat) ?_ ⟨ob,ob,ob,nofun,fun _ _=>rfl⟩;intro aj g1 ⟨a1,a2,a3,a4,a5⟩ ih1;unfold Qg;refine wi (fun c=>?_) (fun c=>?_)
 ·have hx:=h3 _ (getD_in (i:=g1.1.toNat) dn om);refine wm ?_;refine wn ?_;refine ih1 _ ⟨ob,ob,ob,fun b hb=>?_,fun rs hr=>?_⟩ ob
  ·rcases List.mem_append.1 hb with h | h
   ·exact a4 b h
   ·rw [List.mem_singleton] at h; subst h;exact hx
  ·dsimp only;rw [List.any_append,a5 rs hr,show (g1.1+1).toNat=g1.1.toNat+1 by omega,any_take_succ _ _ dn om];congr 1;rw [List.any_cons,List.any_nil,Bool.or_false];unfold bkB Rn;dsimp only;rw [ae0 (hr _ om)];cases ni (rs.getD (m_.getD g1.1.toNat dn).eU.toNat dV)<;>rfl
 ·refine bF (fun g2:Int×List jk=>0≤g2.1∧g2.1≤l_.length∧(g2.2.length:Int)≤m_.length+g2.1∧(∀b∈g2.2,0≤b.Aw∧b.Aw<l_.length)∧∀rs,RV l_ rs→g2.2.any (bkB rs)=(m_.any (Rn rs)||(List.range g2.1.toNat).any fun i=>acJ (rs.getD i dV) (l_.getD i aJ))) (fun g2=>(l_.length - g2.1).toNat) ?_ ⟨ob,ob,by dsimp only; omega,a4,fun rs hr=>?_⟩
  ·intro dK g2 ⟨b1,b2,b3,b4,b5⟩ ih2;unfold Qf;refine wi (fun c2=>?_) (fun c2=>?_)
   ·have e:(g2.1+1).toNat=g2.1.toNat+1:=by omega
    refine wn ?_;refine bV (fun c3=>?_) (fun c3=>?_)
    ·refine wm ?_;refine wn ?_;refine ih2 _ ⟨ob,ob,ob,fun b hb=>?_,fun rs hr=>?_⟩ ob
     ·rcases List.mem_append.1 hb with h | h
      ·exact b4 b h
      ·rw [List.mem_singleton] at h; subst h;exact ⟨by dsimp only; omega,by dsimp only; omega⟩
     ·dsimp only;rw [List.any_append,b5 rs hr,e,List.range_succ,List.any_append,Bool.or_assoc];congr 2;rw [List.any_cons,List.any_nil,Bool.or_false,List.any_cons,List.any_nil,Bool.or_false];unfold bkB acJ;dsimp only;rw [ae0 (hr _ om),c3];cases ni (rs.getD g2.1.toNat dV)<;>rfl
    ·refine wn ?_;refine ih2 _ ⟨ob,ob,ob,b4,fun rs hr=>?_⟩ ob;dsimp only;rw [b5 rs hr,e,List.range_succ,List.any_append,List.any_cons,List.any_nil,Bool.or_false,show acJ (rs.getD g2.1.toNat dV) (l_.getD g2.1.toNat aJ)=false by unfold acJ; rw [c3,Bool.and_false]; rfl,Bool.or_false]
   ·refine av ⟨om,b4,fun rs hr=>?_⟩;rw [b5 rs hr,show g2.1.toNat=l_.length by omega,List.any_eq_not_all_not (l:=List.range l_.length)];rfl
  ·dsimp only;rw [a5 rs hr,show g1.1.toNat=m_.length by omega,List.take_length];simp
theorem IW {b_:jk} {r_:bI}:W (mX b_ r_) (fun v=>v=bif r_.jW==0 then !b_.ahf else !nO r_ b_.flow b_.ahe):=by
 unfold mX;exact bV (fun c=>av (by rw [c]; rfl)) (fun c=>aH Gd fun v e=>av (by rw [c,e]; rfl))
theorem aqA {b k:Int} (h0:0≤k) (h1:k<64):orI .u64 b (Yr .u64 1 k)≠0:=by
 intro h;have hk:k.toNat<64:=by omega
 have hp:(2:Nat) ^ k.toNat<2 ^ 64:=Nat.pow_lt_pow_right om hk;have e:(1:Int)*2 ^ min k.toNat IntKind.u64.bits=((2 ^ k.toNat:Nat):Int):=by
  rw [show IntKind.u64.bits=64 from rfl,Nat.min_eq_left om,Int.one_mul];exact (Int.natCast_pow 2 k.toNat).symm
 have hw:=Sp.wrap_u64 (n:=((2 ^ k.toNat:Nat):Int)) ⟨Int.natCast_nonneg _,om⟩;have hs:(BitVec.ofInt 64 (Yr .u64 1 k)).getLsbD k.toNat=true:=by
  unfold Yr;rw [e,hw,BitVec.ofInt_natCast,BitVec.getLsbD_ofNat];simp [Nat.testBit_two_pow,hk]
 have hb:(BitVec.ofInt 64 b ||| BitVec.ofInt 64 (Yr .u64 1 k)).getLsbD k.toNat=true:=by
  rw [BitVec.getLsbD_or,hs,Bool.or_true]
 unfold orI at h;rw [show IntKind.u64.bits=64 from rfl] at h;have hl:=(BitVec.ofInt 64 b ||| BitVec.ofInt 64 (Yr .u64 1 k)).isLt;rw [Sp.wrap_u64 ⟨om,om⟩] at h;have hz:BitVec.ofInt 64 b ||| BitVec.ofInt 64 (Yr .u64 1 k)=0:=BitVec.eq_of_toNat_eq (by rw [show (0:BitVec 64).toNat=0 from rfl]; omega);rw [hz] at hb;simp at hb
theorem Uv {k:Int} {s o:List Int} (h:s.length≤2000000):W (wH k s o false) (fun r=>(k=0∧r=(false,s,true))∨(k≠0∧r=(true,o,false))):=by
 unfold wH;refine bV (fun c=>aH (Rv h) fun _ e=>av (.inl ⟨by simpa using c,by rw [e]; rfl⟩)) (fun c=>av (.inr ⟨by simpa using c,rfl⟩))
theorem agH {l:List aI} {s:List Int} {m:List bK} (h1:kY l m=true) (h2:VS l s):fq l s m=!(m.any (Rn (gD l s))||!ownB l (gD l s)):=by
 unfold fq;rw [h1,ac0 h2];cases ownB l (gD l s)<;>cases m.any (Rn (gD l s))<;>rfl
theorem XW {l_:List aI} {m_:List bK} (h0:kY l_ m_=true):W (Ci l_ m_ [] false) (fun r=>(r.2=true∧aiO l_ m_ r.1)∨(r.2=false∧∀t,VS l_ t→fq l_ t m_=false)):=by
 obtain ⟨h1,h2,_⟩:=xg h0;have h3:=ahp h0;have hf:=uz h1;have hlen:=hf.len;have hcb:∀i,i<l_.length→(l_.getD i aJ).aM.length≤8:=fun i hi=>(hf.big i hi).2;unfold Ci;refine aH (aaZ om om h3) fun v1 ⟨hv1,hv2,hv3⟩=>?_;refine wn ?_;refine bF (fun g1:List Int×Bool×List Int=>VS l_ g1.2.2∧g1.1=[]∧g1.2.1=false∧∀t,VS l_ t→sZ l_ t<sZ l_ g1.2.2→fq l_ t m_=false) (fun g1=>rJ l_ - sZ l_ g1.2.2) ?_ ⟨aho hf,rfl,rfl,fun t _ ht=>?_⟩
 ·intro aj g1 ⟨hvs,ho1,ho2,hlow⟩ ih1;obtain ⟨hsl,hsv⟩:=id hvs;have hpl:=NZ hvs;have hst:=ac0 hvs;unfold Kl;refine aH (Wi om om (fun i hi=>by have:=hcb i hi; omega)) fun v12 Vh=>?_;have hre:v12.1=gD l_ g1.2.2:=by
   rw [Vh]; unfold uU; rw [h1,hst]; rfl
  have hrl:v12.1.length=l_.length:=by
   rw [hre]; exact rE _ _ _
  have hrv:RV l_ (gD l_ g1.2.2):=fun i hi=>(O8 hf hst i hi).2.2.1;have hmt:=agH h0 hvs;rw [← hv3 _ hrv] at hmt;refine bF (fun g10:Int×Int=>0≤g10.2∧g10.2≤v1.length∧(g10.1=0↔(v1.take g10.2.toNat).any (bkB (gD l_ g1.2.2))=false)) (fun g10=>(v1.length - g10.2).toNat) ?_ ⟨ob,ob,by simp⟩;intro acs g10 ⟨a1,a2,a3⟩ aqB;unfold Kk;refine wi (fun c=>?_) (fun c=>?_)
  ·have hb:=hv2 _ (getD_in (i:=g10.2.toNat) wh om);have e:(g10.2+1).toNat=g10.2.toNat+1:=by omega
   have hts:=any_take_succ (bkB (gD l_ g1.2.2)) v1 wh (i:=g10.2.toNat) om;refine wm ?_;refine aH IW fun v15 Pt=>?_;rw [hre] at Pt;have Pt:v15=bkB (gD l_ g1.2.2) (v1.getD g10.2.toNat wh):=Pt;refine bV (fun c2=>?_) (fun c2=>?_)
   ·refine wm ?_;refine aqB _ ⟨ob,ob,?_⟩ ob;dsimp only;rw [e,hts,← Pt,c2,Bool.or_true];exact ⟨fun q=>absurd q (aqA a1 om),nofun⟩
   ·refine wn ?_;refine aqB _ ⟨ob,ob,?_⟩ ob;dsimp only;rw [e,hts,← Pt,c2,Bool.or_false];exact a3
  ·rw [show g10.2.toNat=v1.length by omega,List.take_length] at a3;rw [ho1,ho2];refine aH (Uv om) fun v16 agf=>?_;rcases agf with ⟨k0,rfl⟩ | ⟨k0,rfl⟩
   ·refine bV (fun c2=>av (.inl ⟨rfl,hvs,by rw [hmt,a3.1 k0]; rfl,fun t ht hm=>?_⟩)) (fun c2=>by cases c2);exact Nat.le_of_not_lt fun q=>by rw [hlow t ht q] at hm; cases hm
   have hno:fq l_ g1.2.2 m_=false:=by
    rw [hmt];cases q:v1.any (bkB (gD l_ g1.2.2)) with
    | true=>rfl
    | false=>exact absurd (a3.2 q) k0
   refine bV (fun c2=>by cases c2) (fun _=>?_);refine wn ?_;refine bF (fun g13:Int => -1≤g13∧g13<l_.length∧∀j:Nat,g13<(j:Int)→j<l_.length→g1.2.2.getD j 0+1=(l_.getD j aJ).aM.length) (fun g13=>(g13+1).toNat) ?_ ⟨ob,ob,fun j h1 h2=>by omega⟩;intro af8 g13 ⟨b1,b2,b3⟩ ati;unfold Hf;refine bC (fun e=>by have e:=nr e; omega) ?_;refine bC (fun e=>by have e:=nr e; omega) ?_;refine bC (fun e=>by have e:=nr e; have:=hcb g13.toNat om; exact ob) ?_;refine bV (fun c3=>?_) (fun c3=>?_)
   ·have c3:=nr c3;refine wn ?_;refine ati _ ⟨om,om,fun j h1 h2=>?_⟩ om;by_cases q:g13<(j:Int)
    ·exact b3 j q h2
    ·have e:j=g13.toNat:=by omega
     subst e; omega
   ·unfold yK;refine bV (fun c4=>?_) (fun c4=>?_)
    ·have c4:=nr c4;have hmx:=ahm hvs fun j hj=>b3 j om hj;refine av (.inr ⟨rfl,fun t ht=>?_⟩);have hpt:=NZ ht;by_cases q:sZ l_ t<sZ l_ g1.2.2
     ·exact hlow t ht q
     ·rw [ac7 ht hvs om]; exact hno
    have c4:=nr c4;have hg:=hsv g13.toNat om;have hc8:=hcb g13.toNat om;have hne:g1.2.2.getD g13.toNat 0+1<(l_.getD g13.toNat aJ).aM.length:=by
     rw [Bool.and_eq_false_iff] at c3;rcases c3 with c3 | c3
     ·have c3:=nr c3; omega
     ·have c3:=nr c3; omega
    refine wm ?_;refine wm ?_;refine wn ?_;have hset:(g1.2.2.set g13.toNat (g1.2.2.getD g13.toNat 0+1)).length=l_.length:=by rw [List.length_set,hsl]
    have hgd:∀j:Nat,j<l_.length→(Xk (g1.2.2.set g13.toNat (g1.2.2.getD g13.toNat 0+1)) (0+(g13+1).toNat) (List.replicate (g1.2.2.length - (g13+1).toNat) 0)).getD j 0=if g13.toNat<j then 0 else if j=g13.toNat then g1.2.2.getD g13.toNat 0+1 else g1.2.2.getD j 0:=fun j hj=>by
     rw [U9 0 om,List.length_replicate,Sp.gq,Sp.nu];by_cases q:g13.toNat<j
     ·rw [if_pos om,if_pos q]
     ·rw [if_neg om,if_neg q];by_cases q2:j=g13.toNat
      ·rw [if_pos ⟨q2,om⟩,if_pos q2]
      ·rw [if_neg (fun e=>q2 e.1),if_neg q2]
    have hn:=ahn hvs (k:=g13.toNat) (t:=Xk (g1.2.2.set g13.toNat (g1.2.2.getD g13.toNat 0+1)) (0+(g13+1).toNat) (List.replicate (g1.2.2.length - (g13+1).toNat) 0)) om (by rw [iR]; exact hset) (fun j hj=>by rw [hgd j om,if_neg om,if_neg om]) (by rw [hgd _ om,if_neg om,if_pos rfl]) (fun j h1 h2=>⟨by rw [hgd j h2,if_pos h1],b3 j om h2⟩) hne;have hp2:=NZ hn.1;refine ih1 _ ⟨hn.1,rfl,rfl,fun t ht hp=>?_⟩ (by dsimp only; omega);dsimp only at hp;rw [hn.2] at hp;by_cases q:sZ l_ t<sZ l_ g1.2.2
    ·exact hlow t ht q
    ·rw [ac7 ht hvs om]; exact hno
 ·dsimp only at ht;rw [aeW fun j _=>Sp.nu _ _ _] at ht;omega
theorem XY {l_:List aI} {m_:List bK} (h:kY l_ m_=true):W (Ce l_ m_) (fun r=>r=0):=by
 obtain ⟨h1,h2,_⟩:=xg h;have hl:=(uz h1).len;unfold Ce;refine aH (Ca (tQ om)) fun v1 hv1=>?_;subst v1;rw [h1];refine bV (fun c1=>by cases c1) (fun _=>?_);refine aH (NI om om) fun v2 hv2=>?_;subst v2;rw [h];exact bV (fun c=>by cases c) (fun _=>av rfl)
theorem XZ {l_:List aI} {m_:List bK} (h:kY l_ m_=true) (he:∃t,VS l_ t∧fq l_ t m_=true):W (Cj l_ m_) (fun r=>r.2=0∧aiO l_ m_ r.1):=by
 unfold Cj;refine aH (XY h) fun v1 hv1=>?_;subst v1;refine bV (fun c1=>by cases c1) (fun _=>?_);refine aH (XW h) fun v2 hv2=>?_;rcases hv2 with ⟨k,hs⟩ | ⟨k,hn⟩
 ·rw [k]; exact bV (fun c=>by cases c) (fun _=>av ⟨rfl,hs⟩)
 ·obtain ⟨t,ht,hm⟩:=he;rw [hn t ht] at hm; cases hm
def tvo (g:List fT):List Int:=g.map fT.mV
theorem Yp (g:List fT) (j:Nat):(g.getD j jL).mV=(tvo g).getD j 0:=by
 unfold tvo;rw [List.getD_eq_getElem?_getD,List.getD_eq_getElem?_getD,List.getElem?_map];cases g[j]? <;> rfl
theorem ahw (g:List fT) (j:Nat) (x:fT):tvo (g.set j x)=(tvo g).set j x.mV:=by
 unfold tvo;rw [List.map_set]
theorem ac8 (g:List fT):(tvo g).length=g.length:=List.length_map ..
theorem Wj {z:fT} (hz:z.mV=0) {n:Nat} (h:n≤16):W (lW [z] ((n:Nat):Int)) (fun r=>tvo r=List.replicate n 0):=by
 unfold lW;refine bC (by simp) ?_;unfold mK;refine aH (Ca (mul_one h)) fun v1 hv1=>?_;subst hv1;refine bC (by simp; omega) ?_;unfold mJ;have hw:IntKind.i64.wrap ((n:Nat):Int)=n:=wrap_i64 ⟨om,om⟩;dsimp only;rw [hw];have hm:Nat.min [z].length ((n:Int).toNat)=min 1 n:=by simp
 have aqC:∀(a b:List fT) (p:Nat),(∀j,(a.getD j jL).mV=0)→(∀j,(b.getD j jL).mV=0)→∀j,((Xk a p b).getD j jL).mV=0:=fun a b p ha hb j=>by
  by_cases q:j<a.length
  ·rw [U9 jL q];split
   ·exact hb _
   ·exact ha _
  ·rw [List.getD_eq_getElem?_getD,List.getElem?_eq_none (by rw [iR]; omega)]; rfl
 have htk:∀(a:List fT) (k:Nat),(∀j,(a.getD j jL).mV=0)→∀j,((a.take k).getD j jL).mV=0:=fun a k ha j=>by
  have:=ha j;rw [List.getD_eq_getElem?_getD] at this ⊢;rw [List.getElem?_take];split
  ·exact this
  ·rfl
 refine wn ?_;refine bF (fun g3:Int×List fT=>0≤g3.1∧g3.1≤n∧g3.2.length=n∧(0<n→0<g3.1)∧∀j,(g3.2.getD j jL).mV=0) (fun g3=>(n - g3.1).toNat) ?_ ⟨by dsimp only; omega,by dsimp only; rw [hm]; omega,by simp [iR],fun hn=>by dsimp only; rw [hm]; omega,aqC _ _ _ (fun j=>by rw [Sp.nu]; rfl) (htk _ _ fun j=>?_)⟩
 ·intro jB g3 ⟨a1,a2,a3,a4,a5⟩ ih;unfold sQ;refine bV (fun c=>?_) (fun c=>?_)
  ·have c:=nr c;have hmn:Nat.min g3.1.toNat (g3.2.length - g3.1.toNat)=min g3.1.toNat (g3.2.length - g3.1.toNat):=rfl;rw [hmn];refine bC om ?_;refine bC om ?_;refine bC (by unfold aF; omega) ?_;exact ih _ ⟨by dsimp only; omega,by dsimp only; omega,by dsimp only; rw [iR]; exact a3,fun _=>by dsimp only; omega,aqC _ _ _ a5 (htk _ _ a5)⟩ (by dsimp only; omega)
  ·refine av (Sp.xk 0 (by rw [ac8,List.length_replicate]; exact a3) fun j _=>?_);rw [← Yp,a5,Sp.nu]
 ·cases j with
  | zero=>exact hz
  | succ j=>rfl
theorem ae1 {a b:Int}:W (cmp_Less_int a b) (fun r=>r=decide (a<b)):=by
 unfold cmp_Less_int;refine aH (P:=fun v=>v=false) (av (bne_self_eq_false a)) fun v1 e=>?_;subst e;exact aH (qy (P:=fun _=>True) fun _=>av trivial) fun v2 _=>av rfl
theorem Eu {x_:List Int} {t_:Int} (h1:x_.length≤2000000) (ha:∀i j,i<j→j<x_.length→x_.getD i 0<x_.getD j 0):W (slices_BinarySearch_int x_ t_) (fun r=>r.1=Sp.lvN x_ t_):=by
 unfold slices_BinarySearch_int;refine bF (fun g3:Int×Int=>0≤g3.1∧g3.1≤g3.2∧g3.2≤x_.length∧(∀j:Nat,(j:Int)<g3.1→x_.getD j 0<t_)∧∀j:Nat,g3.2≤(j:Int)→j<x_.length→t_≤x_.getD j 0) (fun g3=>(g3.2 - g3.1).toNat) ?_ ⟨ob,ob,ob,fun j h=>by (try dsimp only at h); omega,fun j h q=>by (try dsimp only at h); omega⟩;intro jB g3 ⟨a1,a2,a3,a4,a5⟩ ih;unfold qU;have hm:=ao5 (x:=g3.1+g3.2) om om;refine wi (fun c=>?_) (fun c=>?_)
 ·refine wn ?_;refine bC om ?_;rw [hm];refine bC om ?_;refine aH ae1 fun v8 CU=>?_;subst CU;refine wi (fun c2=>?_) (fun c2=>?_)
  ·refine bC (by unfold aF; omega) ?_;refine ih _ ⟨by dsimp only; omega,by dsimp only; omega,by dsimp only; omega,fun j hj=>?_,a5⟩ (by dsimp only; omega);dsimp only at hj;by_cases q:(j:Int)=(g3.1+g3.2) / 2
   ·rw [← q] at c2; exact c2
   ·exact Int.lt_trans (ha j ((g3.1+g3.2) / 2).toNat om om) c2
  ·refine ih _ ⟨by dsimp only; omega,by dsimp only; omega,by dsimp only; omega,a4,fun j hj hl=>?_⟩ (by dsimp only; omega);dsimp only at hj;by_cases q:(j:Int)=(g3.1+g3.2) / 2
   ·rw [← q] at c2; exact c2
   ·have:=ha ((g3.1+g3.2) / 2).toNat j om hl;omega
 ·unfold l6;refine bC (fun e=>by have e:=nr e; omega) ?_;refine bC (fun e _=>by have e:=nr e; omega) ?_;refine aH (qy (P:=fun _=>True) fun _=>af5 (qy (P:=fun _=>True) fun _=>av trivial) fun _ _=>trivial) fun v4 _=>?_;refine aH (qy (P:=fun _=>True) fun _=>af5 (qy (P:=fun _=>True) fun _=>af5 (qy (P:=fun _=>True) fun _=>av trivial) fun _ _=>trivial) fun _ _=>trivial) fun v5 _=>?_;have:=Sp.agn (v:=t_) (l:=x_) (k:=g3.1.toNat) om (fun j hj=>a4 j om) (fun hl=>a5 _ om hl);exact av (by dsimp only; omega)
theorem X0 {s_:ay} {v_:Int} (h1:s_.bJ.length≤2000000) (ha:Sp.NM 0 s_.bJ=true):W (Jo s_ v_) (fun r=>r=((Sp.lvN s_.bJ v_:Int),decide ((Sp.lvN s_.bJ v_:Int)<s_.bJ.length))):=
 aH (Eu h1 (Sp.akO ha)) fun v hv=>av (by rw [hv])
open Sp in
theorem Uw {l_:List ay} {d_:List aW} (h:JG l_ d_):W (wJ l_ d_) (fun r=>r.2=((Io l_ d_).1.lv,(Io l_ d_).2)):=by
 obtain ⟨vl,vd,vs,va,vx⟩:=id h;have hul:=sj l_ d_;unfold wJ;refine aH (Wj rfl vl) fun v1 hv1=>?_;refine wn ?_;refine bF (fun g1:Int×List fT×List Int=>0≤g1.1∧g1.1≤d_.length∧tvo g1.2.1=Bd (xB l_.length d_ g1.1.toNat)∧g1.2.2=List.replicate l_.length 0) (fun g1=>(d_.length - g1.1).toNat) ?_ ⟨ob,ob,?_,rfl⟩
 ·intro aj g1 ⟨a1,a2,a3,a4⟩ ih;have hgl:g1.2.1.length=l_.length:=by rw [← ac8,a3,Tt,Pd]
  unfold EZ;refine wi (fun c=>?_) (fun c=>?_)
  ·have hx:=vx _ (Go.Proofs.YtccjmcmolnbiiaaGreatDoor.getD_in (i:=g1.1.toNat) dI om);have e:(g1.1+1).toNat=g1.1.toNat+1:=by omega
   refine wm ?_;rw [Yp,a3];refine bV (fun c2=>?_) (fun c2=>?_)
   ·have c2:=nr c2;refine wm ?_;refine ih _ ⟨ob,ob,?_,a4⟩ ob;dsimp only;rw [ahw,e,Ru,a3,if_pos c2]
   ·have c2:=nr c2;refine wn ?_;refine ih _ ⟨ob,ob,?_,a4⟩ ob;dsimp only;rw [e,Ru,a3,if_neg om,set_self]
  ·refine aH (Gf h) fun v2 hv2=>?_;subst hv2;refine aH mq fun v3 hv3=>?_;subst hv3;refine bC om ?_;refine akq (fun (k:Nat) (g:List fT×List Int)=>∃s:DS,tvo g.1=Bd s.a∧g.2=s.lv∧DOk v3 s∧Px v3 (fF v3 d_) (v3.length - k) s=Io v3 d_) ?_ ?_ ⟨ds0 v3 d_,by dsimp only; rw [a3,show g1.1.toNat=d_.length by omega]; rfl,a4,agp _ _,rfl⟩
   ·intro k2 dK g2 hk ⟨s,e1,e2,e3,e5⟩ ih2;have hal:g2.1.length=v3.length:=by rw [← ac8,e1,Tt,e3.al]
    have hll:g2.2.length=v3.length:=by rw [e2,e3.ll]
    unfold Du;have hi:v3.length - 1 - k2<v3.length:=by omega
    have hsi:=vs _ hi;have hk1:v3.length - k2=(v3.length - 1 - k2)+1:=by omega
    have hk2:v3.length - (k2+1)=v3.length - 1 - k2:=by omega
    rw [hk1,Px] at e5;generalize hii:v3.length - 1 - k2=i at *;rw [show ((i:Nat):Int).toNat=i from rfl];refine bC om ?_;refine bV (fun c2=>?_) (fun c2=>?_)
    ·rw [abG c2,aeS c2] at e5;exact ih2 _ ⟨s,e1,e2,e3,by rw [hk2]; exact e5⟩
    have hu:(fF v3 d_).getD i false=true:=by simpa using c2
    refine bC om ?_;rw [Yp,e1,Ee];refine aH (X0 om (va _ hi)) fun v6 hv6=>?_;subst hv6;dsimp only;rw [show lvN (v3.getD i au).bJ (s.a.getD i NK).xu=sW v3 i s from rfl];refine bV (fun c3=>?_) (fun c3=>?_)
    ·have hf:vK v3 (fF v3 d_) i s=true:=by unfold vK; rw [hu]; exact c3
     rw [hf] at e5;exact av (by dsimp only; rw [← e5]; dsimp only [cond_true]; rw [e2])
    have hf:vK v3 (fF v3 d_) i s=false:=by unfold vK; rw [hu]; exact c3
    rw [hf] at e5;have c3:=nr c3;have hlv:=acO (va _ hi) (sW v3 i s) om;refine bC om ?_;refine bC om ?_;rw [show ((sW v3 i s:Nat):Int).toNat=sW v3 i s from rfl,show (v3.getD i au).bJ.getD (sW v3 i s) 0+(v3.getD i au).gB=mh v3 i s from rfl];refine bC (by unfold aF mh; omega) ?_;refine bC (fun e=>by have e:=nr e; omega) ?_;have hok:=acP (u:=fF v3 d_) (i:=i) e3;have hdl:(Bc v3 (fF v3 d_) i s).lv=s.lv.set i (sW v3 i s:Int):=by unfold Bc; rw [hu]; rfl
    rw [Yp,e1];refine bV (fun c4=>?_) (fun c4=>?_)
    ·have rZ:=c4;have c4:=nr c4;refine bC om ?_;refine ih2 _ ⟨Bc v3 (fF v3 d_) i s,?_,by dsimp only; rw [hdl,e2],hok,by rw [hk2]; exact e5⟩;dsimp only;rw [ahw,e1,← aeR hu (decide_eq_true c4.1),if_pos c4.2]
    ·refine ih2 _ ⟨Bc v3 (fF v3 d_) i s,?_,by dsimp only; rw [hdl,e2],hok,by rw [hk2]; exact e5⟩;dsimp only;rw [e1];rw [Ee] at c4;unfold Bc;rw [hu,c4];rfl
   ·intro g2 ⟨s,e1,e2,e3,e5⟩;rw [Nat.sub_self,Px] at e5;unfold Dt;exact av (by dsimp only; rw [← e5,e2])
 ·dsimp only;rw [hv1];show _=Bd (List.replicate l_.length (⟨0,-1,-1⟩:Dem));unfold Bd;rw [List.map_replicate]
open Sp in
theorem X3 {l_:List ay} {d_:List aW} (h1:l_.length≤2000000) (h2:d_.length≤2000000):W (Co l_ d_) (fun r=>r=iH l_ d_):=by
 unfold Co;refine aH (P:=fun v=>v=pE l_ d_) ?_ fun v1 hv1=>?_
 ·unfold Jl;refine aH (xD h1) fun v1 hv1=>?_;subst hv1;refine bV (fun c1=>av (by unfold pE; rw [c1]; rfl)) (fun c1=>?_);refine aH (NS h1 h2) fun v2 hv2=>?_;subst hv2;exact bV (fun c2=>av (by unfold pE; rw [c1,c2]; rfl)) (fun c2=>av (by unfold pE; rw [c1,c2]; rfl))
 subst hv1;refine bV (fun c1=>av (by unfold iH; rw [c1]; rfl)) (fun c1=>?_);have hdr:=aeE (show pE l_ d_=0 by simpa using c1);have hv:=rG hdr;have hl:=hv.len;refine aH (Uw hv) fun v2 hv2=>?_;refine aH (Gf hv) fun v3 hv3=>?_;subst hv3;have hll:v2.2.1.length≤2000000:=by
  rw [hv2];have:=aiu (u:=fF l_ d_) (DOk l_) (fun i s _ h=>acP h) l_.length (ds0 l_ d_) (Nat.le_refl _) (agp _ _);have:=this.ll;unfold Io;dsimp only;omega
 refine aH (qy fun _=>NT h1 h2 hll) fun v4 hv4=>?_;rw [hv2] at hv4 ⊢;dsimp only at hv4 ⊢;cases q:decide ((0:Int)≤(Io l_ d_).2) with
 | true=>exact bV (fun _=>av (by unfold iH; rw [c1,q]; rfl)) (fun c=>by cases c)
 | false=>
  rw [hv4 q];exact bV (fun c=>av (by unfold iH; rw [c1,q,c]; rfl)) (fun c=>av (by unfold iH; rw [c1,q,c]; rfl))
end Go.Proofs.YtccjmcmolnbiiaaGreatDoor
namespace Go.Proofs.YtccjmcmolnbiiaaGreatDoor
open Go.Ab
set_option maxRecDepth 100000
def Low (C:List Bool→Prop) (ls:List Int) (s:List Bool):Prop:=∀t:List Bool,C t→(∀x∈ls,t.getD x.toNat false=true)→∀i:Nat,s.getD i false=true→t.getD i false=true
structure Lst (n:Nat) (C:List Bool→Prop) (ls:List Int) (s:List Bool):Prop where
 ln:s.length=n
 cl:C s
 mm:∀x∈ls,s.getD x.toNat false=true
 lo:Low C ls s
theorem Lst.uniq {n:Nat} {C:List Bool→Prop} {ls ls':List Int} {s s':List Bool} (h:Lst n C ls s) (h':Lst n C ls' s') (hm:∀x,x∈ls↔x∈ls'):s=s':=by
 refine Sp.xk false (by rw [h.ln,h'.ln]) fun k _=>Bool.eq_iff_iff.2 ⟨h.lo s' h'.cl (fun x hx=>h'.mm x ((hm x).1 hx)) k,h'.lo s h.cl (fun x hx=>h.mm x ((hm x).2 hx)) k⟩
theorem ahx {C:List Bool→Prop} {ls:List Int} {n:Nat}:Low C ls (List.replicate n false):=fun t _ _ i h=>by rw [Sp.nu] at h; cases h
theorem Ux {C:List Bool→Prop} {ls:List Int} {s:List Bool} {a:Nat} {b:Bool} (h:Low C ls s) (hb:b=true→∀t:List Bool,C t→(∀x∈ls,t.getD x.toNat false=true)→t.getD a false=true):Low C ls (s.set a b):=fun t h1 h2 i hi=>by
 by_cases e:i=a
 ·subst e;by_cases q:i<s.length
  ·rw [xH q] at hi; exact hb hi t h1 h2
  ·rw [List.set_eq_of_length_le om] at hi; exact h t h1 h2 i hi
 ·rw [uE e] at hi; exact h t h1 h2 i hi
theorem Xc {s:List Bool} {i j:Nat} {b:Bool} (hb:s.getD i false=true→b=true) (h:s.getD j false=true):(s.set i b).getD j false=true:=by
 by_cases e:j=i
 ·subst e;by_cases q:j<s.length
  ·rw [xH q]; exact hb h
  ·rw [List.set_eq_of_length_le om]; exact h
 ·rw [uE e]; exact h
theorem ao7 {a b:Bool} (h:a=true):(a||b)=true:=by rw [h]; rfl
theorem X4 {l_:List d9} {fC:List Int} (h1:aiA l_) (h2:∀g∈l_,g.dX.length≤2000000) (h3:fC.length≤100000000000) (h4:∀x∈fC,0≤x∧x<l_.length):W (Cq l_ fC) (Lst l_.length (agA l_) fC):=by
 obtain ⟨p1,p2⟩:=h1;unfold Cq;refine wn ?_;refine bF (fun g1:Int×List Bool=>0≤g1.1∧g1.2.length=l_.length∧(∀j:Nat,(j:Int)<g1.1→g1.2.getD (fC.getD j 0).toNat false=true)∧Low (agA l_) fC g1.2) (fun g1=>(fC.length - g1.1).toNat) ?_ ⟨ob,by simp,fun j hj=>by (try dsimp only at hj); omega,ahx⟩;intro aj g1 ⟨a1,a2,a3,a4⟩ ih1;unfold Kv;refine wi (fun c=>?_) (fun c=>?_)
 ·have hm:=getD_in (l:=fC) (i:=g1.1.toNat) 0 om;have hx:=h4 _ hm;refine wm ?_;refine wn ?_;refine ih1 _ ⟨ob,by dsimp only; rw [List.length_set]; exact a2,fun j hj=>amR ?_ om,Ux a4 fun _ t _ ht=>ht _ hm⟩ ob;by_cases q:(j:Int)<g1.1
  ·exact .inl (a3 j q)
  ·have e:j=g1.1.toNat:=by (try dsimp only at hj); omega
   subst e; exact .inr rfl
 ·have hmm:∀x∈fC,g1.2.getD x.toNat false=true:=jG 0 fun j hj=>a3 j om;refine wn ?_;refine bF (fun g2:Int×List Bool => -1≤g2.1∧g2.1<l_.length∧g2.2.length=l_.length∧(∀x∈fC,g2.2.getD x.toNat false=true)∧Low (agA l_) fC g2.2∧(∀i:Nat,g2.1<(i:Int)→(i:Int)<l_.length→g2.2.getD i false=true→∀x∈(l_.getD i dh).dX,g2.2.getD x.toNat false=true)) (fun g2=>(g2.1+1).toNat) ?_ ⟨ob,ob,a2,hmm,a4,fun i h1 h2=>by (try dsimp only at h1); omega⟩;intro dK g2 ⟨b1,b2,b3,b4,b5,b6⟩ ih2;unfold Ku;refine wi (fun c2=>?_) (fun c2=>?_)
  ·refine wn ?_;have hal:=h2 _ (getD_in (i:=g2.1.toNat) dh om);have haf:=p2 g2.1.toNat om;refine bF (fun g5:Int×List Bool=>0≤g5.1∧g5.2.length=l_.length∧(∀x∈fC,g5.2.getD x.toNat false=true)∧Low (agA l_) fC g5.2∧(∀i:Nat,g2.1<(i:Int)→(i:Int)<l_.length→g5.2.getD i false=true→∀x∈(l_.getD i dh).dX,g5.2.getD x.toNat false=true)∧(∀k:Nat,(k:Int)<g5.1→g5.2.getD g2.1.toNat false=true→g5.2.getD (((l_.getD g2.1.toNat dh).dX).getD k 0).toNat false=true)) (fun g5=>((l_.getD g2.1.toNat dh).dX.length - g5.1).toNat) ?_ ⟨ob,b3,b4,b5,b6,fun k hk=>by (try dsimp only at hk); omega⟩;intro j5 g5 ⟨d1,d2,d3,d4,d5,d6⟩ ih5;unfold Hq;refine wi (fun c3=>?_) (fun c3=>?_)
   ·have hxm:=getD_in (l:=(l_.getD g2.1.toNat dh).dX) (i:=g5.1.toNat) 0 om;have hx:=haf _ hxm;refine wm ?_;refine bC (fun _=>by omega) ?_;refine wm ?_;refine ih5 _ ⟨ob,by dsimp only; rw [List.length_set]; exact d2,fun x hx2=>Xc ao7 (d3 x hx2),Ux d4 fun hb t h1 h2=>?_,fun i h3 h4 h5 x hx2=>?_,fun k hk h5=>?_⟩ ob
    ·rcases Bool.or_eq_true_iff.1 hb with hb | hb
     ·exact d4 t h1 h2 _ hb
     ·exact h1 g2.1.toNat om (d4 t h1 h2 _ hb) _ hxm
    ·rw [uE om] at h5; exact Xc ao7 (d5 i h3 h4 h5 x hx2)
    ·rw [uE om] at h5;by_cases q:(k:Int)<g5.1
     ·exact Xc ao7 (d6 k q h5)
     ·have e:k=g5.1.toNat:=by (try dsimp only at hk); omega
      subst e; rw [xH om,h5,Bool.or_true]
   ·refine wn ?_;refine ih2 _ ⟨ob,ob,d2,d3,d4,fun i h3 h4 h5=>?_⟩ ob;by_cases q:g2.1<(i:Int)
    ·exact d5 i q h4 h5
    ·have e:i=g2.1.toNat:=by (try dsimp only at h3); omega
     subst e; exact jG 0 fun k hk=>d6 k om h5
  ·exact av ⟨b3,fun i hi=>b6 i om hi,b4,b5⟩
theorem X5 {l_:List d9} {fC:List Int} (h1:RsA l_ 0) (h2:∀g∈l_,g.dX.length≤2000000) (h3:fC.length≤100000000000) (h4:∀x∈fC,0≤x∧x<l_.length):W (Cr l_ fC) (fun r=>Lst l_.length (agA l_) fC r.1):=by
 unfold Cr;refine aH (Ei h2) fun v1 hv1=>?_;have e1:=RsA.fun _ _ hv1 h1;subst e1;refine bV (fun c1=>by cases c1) (fun _=>?_);refine bF (fun g1:Int=>0≤g1) (fun g1=>(fC.length - g1).toNat) ?_ (Int.le_refl _);intro aj g1 a1 ih1;unfold Kw;refine bV (fun c=>?_) (fun c=>?_)
 ·have c:=nr c;have hx:=h4 _ (getD_in (i:=g1.toNat) 0 om);refine wn ?_;refine bV (fun c2=>by have c2:=nr c2; omega) (fun c2=>?_);refine wn ?_;exact ih1 _ om om
 ·exact aH (X4 h1.ok h2 h3 h4) fun v2 hv2=>av hv2
theorem Uy {l_:List dB} {eX:List Int} (h1:DmA l_ 0) (h3:eX.length≤100000000000) (h4:∀x∈eX,0≤x∧x<l_.length):W (wL l_ eX) (fun r=>r=0):=by
 unfold wL;refine aH Bj fun v1 hv1=>?_;have e1:=DmA.fun _ _ hv1 h1;subst e1;refine bV (fun c1=>by cases c1) (fun _=>?_);refine bF (fun g1:Int=>0≤g1) (fun g1=>(eX.length - g1).toNat) ?_ (Int.le_refl _);intro aj g1 a1 ih1;unfold E5;refine bV (fun c=>?_) (fun c=>av rfl);have c:=nr c;have hx:=h4 _ (getD_in (i:=g1.toNat) 0 om);refine wn ?_;refine bV (fun c2=>by have c2:=nr c2; omega) (fun c2=>?_);refine wn ?_;exact ih1 _ om om
theorem alo {l:List dB} {s:List Bool} {g k:Nat} {b:Bool} (hg:g<s.length) (hb1:s.getD g false=true→b=true) (hb2:(l.getD g dS).fQ=true→b=true) (hn:¬ (b=true∧0≤(l.getD g dS).aN)) (h:k≠g→RgK l s k):RgK l (s.set g b) k:=by
 by_cases e:k=g
 ·subst e;refine ⟨fun h1=>by rw [xH hg]; exact hb2 h1,fun h1 h2=>?_⟩;rw [xH hg] at h1;exact absurd ⟨h1,h2⟩ hn
 ·obtain ⟨h1,h2⟩:=h e;refine ⟨fun q=>by rw [uE e]; exact h1 q,fun q1 q2=>?_⟩;rw [uE e] at q1;exact Xc hb1 (h2 q1 q2)
theorem am7 {l:List dB} {s:List Bool} {g k p:Nat} {b:Bool} (hg:g<s.length) (hp:p<g) (e:(l.getD g dS).aN.toNat=p) (hb1:s.getD g false=true→b=true) (hb:b=true) (hk:k≠p) (h:k≠g→RgK l s k):RgK l ((s.set g b).set p true) k:=by
 have hl:p<(s.set g b).length:=by rw [List.length_set]; omega
 by_cases q:k=g
 ·subst q;refine ⟨fun _=>by rw [uE hk,xH hg]; exact hb,fun _ _=>?_⟩;rw [e]; exact xH hl
 ·obtain ⟨h1,h2⟩:=h q;refine ⟨fun q1=>by rw [uE hk,uE q]; exact h1 q1,fun q1 q2=>?_⟩;rw [uE hk,uE q] at q1;exact Xc (fun _=>rfl) (Xc hb1 (h2 q1 q2))
theorem ac9 {l_:List dB} {eX:List Int} (h1:DmA l_ 0) (h3:eX.length≤2000000) (h4:∀x∈eX,0≤x∧x<l_.length):W (OQ l_ eX) (fun r=>Lst l_.length (ak9 l_) eX r.1):=by
 obtain ⟨p1,p2⟩:=h1.ok;unfold OQ;refine aH (Uy h1 om h4) fun v1 hv1=>?_;subst hv1;refine bV (fun c1=>by cases c1) (fun _=>?_);refine wm ?_;refine bF (fun g1:Int×List Bool => -1≤g1.1∧g1.1<l_.length∧g1.2.length=l_.length∧(∀x∈eX,g1.1<x→g1.2.getD x.toNat false=true)∧Low (ak9 l_) eX g1.2∧∀k:Nat,g1.1<(k:Int)→(k:Int)<l_.length→RgK l_ g1.2 k) (fun g1=>(g1.1+1).toNat) ?_ ⟨ob,ob,by simp,fun x hx q=>by have:=h4 x hx; (try dsimp only at q); omega,ahx,fun k h1 h2=>by (try dsimp only at h1); omega⟩;intro aj g1 ⟨a1,a2,a3,a4,a5,a6⟩ ih1;unfold SE;refine wi (fun c=>?_) (fun c=>?_)
 ·have hp:=p2 g1.1.toNat om;refine wn ?_;refine bC (fun _=>by omega) ?_;refine aH (qy fun _=>Ca (mE om)) fun v7 hv7=>?_;refine wn ?_;unfold Jq;generalize hb:((g1.2.getD g1.1.toNat false||(l_.getD g1.1.toNat dS).fQ)||v7)=b;have hb1:g1.2.getD g1.1.toNat false=true→b=true:=fun e=>by rw [← hb,e]; rfl
  have hb2:(l_.getD g1.1.toNat dS).fQ=true→b=true:=fun e=>by rw [← hb,e,Bool.or_true]; rfl
  have hb3:g1.1∈eX→b=true:=fun e=>by
   cases q:(g1.2.getD g1.1.toNat false||(l_.getD g1.1.toNat dS).fQ) with
   | true=>rw [← hb,q]; rfl
   | false=>rw [← hb,q,hv7 q,List.contains_iff_mem.2 e]; rfl
  have hb4:b=true→∀t:List Bool,ak9 l_ t→(∀x∈eX,t.getD x.toNat false=true)→t.getD g1.1.toNat false=true:=fun e t h1 h2=>by
   cases q:(g1.2.getD g1.1.toNat false||(l_.getD g1.1.toNat dS).fQ) with
   | true=>
    rcases Bool.or_eq_true_iff.1 q with q | q
    ·exact a5 t h1 h2 _ q
    ·exact h1.al _ om q
   | false=>
    rw [q,hv7 q] at hb;rw [← hb] at e;exact h2 _ (List.contains_iff_mem.1 e)
  have hsl:(g1.2.set g1.1.toNat b).length=l_.length:=by rw [List.length_set]; exact a3
  have hus:∀x∈eX,g1.1 - 1<x→(g1.2.set g1.1.toNat b).getD x.toNat false=true:=fun x hx q=>by
   by_cases e:x=g1.1
   ·subst e; rw [xH om]; exact hb3 hx
   ·exact Xc hb1 (a4 x hx om)
  refine bC om ?_;refine bC (fun _=>by omega) ?_;refine bV (fun c2=>?_) (fun c2=>?_)
  ·rw [xH om] at c2;have c2:=nr c2;refine wn ?_;refine bC om ?_;refine wn ?_;refine ih1 _ ⟨ob,ob,by dsimp only; rw [List.length_set]; exact hsl,fun x hx q=>Xc (fun _=>rfl) (hus x hx q),Ux (Ux a5 hb4) fun _ t h1 h2=>h1.pa _ om (hb4 c2.1 t h1 h2) c2.2,fun k h1 h2=>?_⟩ ob;exact am7 om om rfl hb1 c2.1 (by (try dsimp only at h1); omega) fun e=>a6 k (by (try dsimp only at h1); omega) h2
  ·rw [xH om] at c2;refine wn ?_;refine ih1 _ ⟨ob,ob,hsl,hus,Ux a5 hb4,fun k h1 h2=>?_⟩ ob;exact alo om hb1 hb2 (fun q=>by rw [q.1,decide_eq_true q.2] at c2; cases c2) fun e=>a6 k (by (try dsimp only at h1); omega) h2
 ·exact av ⟨a3,⟨fun i hi=>(a6 i om hi).1,fun i hi=>(a6 i om hi).2⟩,fun x hx=>a4 x hx (by have:=h4 x hx; omega),a5⟩
end Go.Proofs.YtccjmcmolnbiiaaGreatDoor

/- An abstract machine over the model's code, that it is sound; models of the functions and their proofs. -/
import Derived.Test.YtccjmcmolnbiiaaGreatDoorA8
import Derived.Test.YtccjmcmolnbiiaaGreatDoorA6
import Derived.Test.YtccjmcmolnbiiaaGreatDoorA7
set_option maxHeartbeats 4000000
set_option linter.unusedVariables false
set_option linter.unusedSimpArgs false
namespace Go.Proofs.YtccjmcmolnbiiaaGreatDoor
open Go.Ab
set_option maxRecDepth 100000
set_option maxHeartbeats 20000000
variable {dD:dJ}
theorem lI {wR:Int} {yS:Int} {r:Int×dJ} (hm:j4 wR yS dD r):S 54 [.ptr 0 0 0,iV wR,iV yS] [.box [aC dD.L,iV dD.At]] (iV r.1) [.box [aC r.2.L,iV r.2.At]] :=sp Tryz.func54 rfl<|s2 hm λ _ _ hm=>sq hm cB λ v1 hm=>sn hm λ _ hm=>by cases hm;exact re
theorem Jt {r:List ay×dJ} (hm:qg dD r):S 80 [.ptr 0 0 0] [.box [aC dD.L,iV dD.At]] (aV r.1) [.box [aC r.2.L,iV r.2.At]] :=spc [8] Tryz.func80 rfl<|sq hm cB λ v1 hm=>VQ [8] hm (λ g1=>⟨[(0,.ptr 0 0 0),(3,.eF 1 0 g1.2.2.2.length false),(4,iV g1.1)],[(0,some (.box [aC g1.2.1,iV g1.2.2.1])),(1,some (.row 5 g1.2.2.2.length (bP CX au g1.2.2.2)))],2⟩) [(1,none)] [] <|λ aj g1 hm=>si hm (λ _ hm=>sn hm λ _ hm=>sq hm lI λ v12 hm=>sb hm λ v13 Yq hm=>cl ((gV Yq).le ⟨.refl _,(.sl rfl (λ _=>rfl) nofun (gM iV 0 [(0:Int),(0:Int),(100:Int),(300:Int)])),trivial⟩ ⟨kZ _,trivial⟩)<|sb hm λ v14 UD hm=>cl ((gV UD).le ⟨.refl _,(.sl rfl (λ _=>rfl) nofun (gM iV 0 [(100:Int),(300:Int),(1000:Int)])),trivial⟩ ⟨kZ _,trivial⟩)<|sq hm cB λ v15 hm=>ck [8] (kD g1 aj v12 v14 v15) r (λ g4=>⟨[(0,.ptr 0 0 0),(3,.eF 1 0 g1.2.2.2.length false),(4,iV g1.1),(5,.ptr 2 0 0)],[(0,some (.box [aC v15.2.L,iV v15.2.At])),(1,some (.row 5 g1.2.2.2.length (bP CX au g1.2.2.2))),(2,some (.box [iV v12.1,.sl 0 0 true fJ,iV g4,iV v14.1,.bool (v15.1==(7:Int))]))],3⟩) (si hm (λ _ hm=>lc [(2,some 138)] [] hm) λ _ hm=>lc [(2,some 138)] [] hm) λ g4 hm=>sq hm cB λ v16 hm=>sn hm λ _ hm=>by
 rcases (by omega:v16.1=0∨v16.1=1∨v16.1=2∨v16.1=3∨v16.1=4) with e1 | e1 | e1 | e1 | e1
 ·rw [e1] at hm ⊢
  (conv=>whnf)
  refine aZ hm λ h27 hm=>?_
  (conv=>whnf)
  refine aZ hm λ h28 hm=>?_
  (conv=>whnf)
  exact ⟨((g1.1 - (1:Int)),v16.2.L,v16.2.At,(g1.2.2.2++([(⟨v12.1,([(1000:Int),(1200:Int)]:List Int),g4,v14.1,(v15.1==(7:Int))⟩:ay)]:List ay))),[(1,some 123)],[],hm,⟨rfl,⟨r4,⟨rfl,rfl,rfl,oz,nofun⟩,r2,trivial⟩,⟨⟨sf,r2,trivial⟩,⟨rfl,oz,(jQ rfl (λ _ _=>.refl _) rfl (xq (Le.Sl ⟨(.refl _),(.sl rfl (λ _=>rfl) nofun (gM iV 0 [(1000:Int),(1200:Int)])),(.refl _),(.refl _),(.refl _),trivial⟩) (λ _ h=>absurd h (Nat.not_lt_zero _))))⟩,trivial⟩⟩⟩
 ·rw [e1] at hm ⊢
  (conv=>whnf)
  refine aZ hm λ h29 hm=>?_
  (conv=>whnf)
  refine aZ hm λ h30 hm=>?_
  (conv=>whnf)
  exact ⟨((g1.1 - (1:Int)),v16.2.L,v16.2.At,(g1.2.2.2++([(⟨v12.1,([(1800:Int),(3300:Int)]:List Int),g4,v14.1,(v15.1==(7:Int))⟩:ay)]:List ay))),[(1,some 123)],[],hm,⟨rfl,⟨r4,⟨rfl,rfl,rfl,oz,nofun⟩,r2,trivial⟩,⟨⟨sf,r2,trivial⟩,⟨rfl,oz,(jQ rfl (λ _ _=>.refl _) rfl (xq (Le.Sl ⟨(.refl _),(.sl rfl (λ _=>rfl) nofun (gM iV 0 [(1800:Int),(3300:Int)])),(.refl _),(.refl _),(.refl _),trivial⟩) (λ _ h=>absurd h (Nat.not_lt_zero _))))⟩,trivial⟩⟩⟩
 ·rw [e1] at hm ⊢
  (conv=>whnf)
  refine aZ hm λ h31 hm=>?_
  (conv=>whnf)
  refine aZ hm λ h32 hm=>?_
  (conv=>whnf)
  exact ⟨((g1.1 - (1:Int)),v16.2.L,v16.2.At,(g1.2.2.2++([(⟨v12.1,([(1000:Int),(1800:Int),(3300:Int)]:List Int),g4,v14.1,(v15.1==(7:Int))⟩:ay)]:List ay))),[(1,some 123)],[],hm,⟨rfl,⟨r4,⟨rfl,rfl,rfl,oz,nofun⟩,r2,trivial⟩,⟨⟨sf,r2,trivial⟩,⟨rfl,oz,(jQ rfl (λ _ _=>.refl _) rfl (xq (Le.Sl ⟨(.refl _),(.sl rfl (λ _=>rfl) nofun (gM iV 0 [(1000:Int),(1800:Int),(3300:Int)])),(.refl _),(.refl _),(.refl _),trivial⟩) (λ _ h=>absurd h (Nat.not_lt_zero _))))⟩,trivial⟩⟩⟩
 ·rw [e1] at hm ⊢
  (conv=>whnf)
  refine aZ hm λ h33 hm=>?_
  (conv=>whnf)
  refine aZ hm λ h34 hm=>?_
  (conv=>whnf)
  exact ⟨((g1.1 - (1:Int)),v16.2.L,v16.2.At,(g1.2.2.2++([(⟨v12.1,([(3300:Int),(5000:Int)]:List Int),g4,v14.1,(v15.1==(7:Int))⟩:ay)]:List ay))),[(1,some 123)],[],hm,⟨rfl,⟨r4,⟨rfl,rfl,rfl,oz,nofun⟩,r2,trivial⟩,⟨⟨sf,r2,trivial⟩,⟨rfl,oz,(jQ rfl (λ _ _=>.refl _) rfl (xq (Le.Sl ⟨(.refl _),(.sl rfl (λ _=>rfl) nofun (gM iV 0 [(3300:Int),(5000:Int)])),(.refl _),(.refl _),(.refl _),trivial⟩) (λ _ h=>absurd h (Nat.not_lt_zero _))))⟩,trivial⟩⟩⟩
 ·rw [e1] at hm ⊢
  (conv=>whnf)
  refine aZ hm λ h35 hm=>?_
  (conv=>whnf)
  refine aZ hm λ h36 hm=>?_
  (conv=>whnf)
  exact ⟨((g1.1 - (1:Int)),v16.2.L,v16.2.At,(g1.2.2.2++([(⟨v12.1,([(900:Int)]:List Int),g4,v14.1,(v15.1==(7:Int))⟩:ay)]:List ay))),[(1,some 123)],[],hm,⟨rfl,⟨r4,⟨rfl,rfl,rfl,oz,nofun⟩,r2,trivial⟩,⟨⟨sf,r2,trivial⟩,⟨rfl,oz,(jQ rfl (λ _ _=>.refl _) rfl (xq (Le.Sl ⟨(.refl _),(.sl rfl (λ _=>rfl) nofun (gM iV 0 [(900:Int)])),(.refl _),(.refl _),(.refl _),trivial⟩) (λ _ h=>absurd h (Nat.not_lt_zero _))))⟩,trivial⟩⟩⟩) λ _ hm=>by cases hm;exact rt [1] []
theorem o8  {r:List ByteArray} (hm:pF r):S 132 [] [] (gG r) [] :=sp Tryz.func132 rfl<|by cases hm;exact rt [8] []
theorem M9 {r:bn×dJ} (hm:tF dD r):S 81 [.ptr 0 0 0] [.box [aC dD.L,iV dD.At]] (l9 r.1) [.box [aC r.2.L,iV r.2.At]] :=spc [13,17] Tryz.func81 rfl<|sq hm lI λ v1 hm=>sq hm cB λ v2 hm=>VQ [13,17] hm (λ g1=>⟨[(0,.ptr 0 0 0),(2,.ptr 1 0 0),(3,.ptr 2 0 0),(4,iV g1.1)],[(0,some (.box [aC g1.2.1,iV g1.2.2.1])),(1,some (.box [iV (0:Int),.sl 0 0 true fJ])),(2,some (.box [iV v1.1,.eF 3 0 g1.2.2.2.length false])),(3,some (.row 3 g1.2.2.2.length (bP oN aH g1.2.2.2)))],4⟩) [(2,some 33),(3,none)] [] <|λ aj g1 hm=>si hm (λ _ hm=>sn hm λ _ hm=>by
 refine ⟨(alo (es:=[.int .u8 (IntKind.u8.wrap ((97:Int)+(g1.2.2.2.length:Int)))]) rfl),?_⟩
 (conv=>whnf)
 refine aZ hm λ h74 hm=>?_
 (conv=>whnf)
 refine iq hm λ v35 apT hm=>?_
 refine ⟨_,_,(cB apT),?_⟩
 (conv=>whnf)
 refine wz (ct:=[13,17]) iX dk hm (λ g12=>⟨[(0,.ptr 0 0 0),(2,.ptr 1 0 0),(3,.ptr 2 0 0),(4,iV g1.1),(5,.ptr 3 0 0),(6,iV v35.1),(7,iV g12.1)],[(0,some (.box [aC g12.2.1,iV g12.2.2.1])),(1,some (.box [iV (0:Int),.sl 0 0 true fJ])),(2,some (.box [iV v1.1,.eF 4 0 g1.2.2.2.length false])),(3,some (.box [.str (({ data:=#[103] }:ByteArray)++(strOf ([(IntKind.u8.wrap ((97:Int)+(g1.2.2.2.length:Int)))]:List Int))),.eF 5 0 g12.2.2.2.length false,.sl 0 0 true fJ])),(4,some (.row 3 g1.2.2.2.length (bP oN aH g1.2.2.2))),(5,some (.row 1 g12.2.2.2.length (bP iV 0 g12.2.2.2)))],6⟩) [(3,some 92),(4,some 3),(5,none)] [] ⟨rfl,⟨r4,r4,r4,r2,r4,r2,r2,trivial⟩,⟨⟨sf,r2,trivial⟩,⟨r2,sr,trivial⟩,⟨r2,⟨rfl,rfl,rfl,rfl,nofun⟩,trivial⟩,⟨rfl,⟨rfl,rfl,rfl,rfl,rfl,rfl⟩,sr,trivial⟩,⟨rfl,rfl,(λ _ _=>.refl _)⟩,rfl,trivial⟩⟩ ?_
 intro ahk g12 hm
 (conv=>whnf)
 refine iY hm (λ c36 hm=>?_) (λ c36 hm=>?_)
 ·(conv=>whnf)
  refine iq hm λ v38 hv38 hm=>?_
  refine ⟨_,_,(lI hv38),?_⟩
  (conv=>whnf)
  refine aZ hm λ h83 hm=>?_
  (conv=>whnf)
  refine iY hm (λ c37 hm=>?_) (λ c37 hm=>?_)
  ·(conv=>whnf)
   refine aZ hm λ h84 hm=>?_
   (conv=>whnf)
   refine aZ hm λ h85 hm=>?_
   (conv=>whnf)
   exact ⟨((g12.1+(1:Int)),v38.2.L,v38.2.At,(g12.2.2.2++([g12.1]:List Int))),[(5,some 134)],[],hm,⟨rfl,⟨r4,r4,r4,r2,r4,r2,r2,trivial⟩,⟨⟨sf,r2,trivial⟩,⟨r2,sr,trivial⟩,⟨r2,⟨rfl,rfl,rfl,rfl,nofun⟩,trivial⟩,⟨rfl,⟨rfl,rfl,rfl,oz,nofun⟩,sr,trivial⟩,⟨rfl,rfl,(λ _ _=>.refl _)⟩,⟨rfl,oz,(jQ rfl (λ _ _=>.refl _) rfl (gM iV 0 [g12.1]))⟩,trivial⟩⟩⟩
  ·(conv=>whnf)
   refine aai (ct:=[13,17]) iX dk dk (lu g1 aj v38) r (λ g13=>⟨[(0,.ptr 0 0 0),(2,.ptr 1 0 0),(3,.ptr 2 0 0),(4,iV g1.1),(5,.ptr 3 0 0),(40,iV v38.1)],[(0,some (.box [aC v38.2.L,iV v38.2.At])),(1,some (.box [iV (0:Int),.sl 0 0 true fJ])),(2,some (.box [iV v1.1,.eF 4 0 g1.2.2.2.length false])),(3,some (.box [.str (({ data:=#[103] }:ByteArray)++(strOf ([(IntKind.u8.wrap ((97:Int)+(g1.2.2.2.length:Int)))]:List Int))),.eF 5 0 g13.length false,.sl 0 0 true fJ])),(4,some (.row 3 g1.2.2.2.length (bP oN aH g1.2.2.2))),(5,some (.row 1 g13.length (bP iV 0 g13)))],6⟩) ?_ (λ g13 hm=>?_)
   ·(conv=>whnf)
    refine iY hm (λ c41 hm=>?_) (λ c41 hm=>?_)
    ·(conv=>whnf)
     exact ⟨([v35.1]:List Int),[(5,some 142)],[],hm,⟨rfl,⟨r4,r4,r4,r2,r4,r2,trivial⟩,⟨⟨sr,r2,trivial⟩,⟨r2,sr,trivial⟩,⟨r2,⟨rfl,rfl,rfl,rfl,nofun⟩,trivial⟩,⟨rfl,⟨rfl,rfl,rfl,rfl,nofun⟩,sr,trivial⟩,⟨rfl,rfl,(λ _ _=>.refl _)⟩,⟨rfl,rfl,(gM iV 0 [v35.1])⟩,trivial⟩⟩⟩
    ·(conv=>whnf)
     exact ⟨g12.2.2.2,[],[],hm,⟨rfl,⟨r4,r4,r4,r2,r4,r2,trivial⟩,⟨⟨sr,r2,trivial⟩,⟨r2,sr,trivial⟩,⟨r2,⟨rfl,rfl,rfl,rfl,nofun⟩,trivial⟩,⟨rfl,⟨rfl,rfl,rfl,rfl,nofun⟩,sr,trivial⟩,⟨rfl,rfl,(λ _ _=>.refl _)⟩,⟨rfl,rfl,(λ _ _=>.refl _)⟩,trivial⟩⟩⟩
   ·(conv=>whnf)
    refine iq hm λ v39 hv39 hm=>?_
    refine ⟨_,_,(cB hv39),?_⟩
    (conv=>whnf)
    refine iq hm λ v40 alK hm=>?_
    refine ⟨_,_,(o8 alK),?_⟩
    (conv=>whnf)
    refine aZ hm λ h86 hm=>?_
    (conv=>whnf)
    refine aai (ct:=[13,17]) iX dk dk (ji g1 aj g13) r (λ g14=>⟨[(0,.ptr 0 0 0),(2,.ptr 1 0 0),(3,.ptr 2 0 0),(4,iV g1.1),(5,.ptr 3 0 0),(40,iV v38.1)],[(0,some (.box [aC g14.1,iV g14.2.1])),(1,some (.box [iV (0:Int),.sl 0 0 true fJ])),(2,some (.box [iV v1.1,.eF 4 0 g1.2.2.2.length false])),(3,some (.box [.str (({ data:=#[103] }:ByteArray)++(strOf ([(IntKind.u8.wrap ((97:Int)+(g1.2.2.2.length:Int)))]:List Int))),.eF 5 0 g13.length false,.eF 6 0 g14.2.2.length false])),(4,some (.row 3 g1.2.2.2.length (bP oN aH g1.2.2.2))),(5,some (.row 1 g13.length (bP iV 0 g13))),(6,some (.row 1 g14.2.2.length (bP AV.str ByteArray.empty g14.2.2)))],7⟩) ?_ (λ g14 hm=>?_)
    ·(conv=>whnf)
     refine iq hm λ v43 alL hm=>?_
     refine ⟨_,_,(cB alL),?_⟩
     (conv=>whnf)
     refine iY hm (λ c40 hm=>?_) (λ c40 hm=>?_)
     ·(conv=>whnf)
      refine iq hm λ v44 alM hm=>?_
      refine ⟨_,_,(o8 alM),?_⟩
      (conv=>whnf)
      refine aZ hm λ h93 hm=>?_
      (conv=>whnf)
      refine aZ hm λ h94 hm=>?_
      (conv=>whnf)
      refine aZ hm λ h95 hm=>?_
      (conv=>whnf)
      refine aZ hm λ h96 hm=>?_
      (conv=>whnf)
      exact ⟨(v43.2.L,v43.2.At,(([(v40.getD v39.1.toNat ByteArray.empty)]:List ByteArray)++([(v44.getD (((v39.1+(1:Int)).tmod (4:Int)).toNat) ByteArray.empty)]:List ByteArray))),[(6,some 182)],[],hm,⟨rfl,⟨r4,r4,r4,r2,r4,r2,trivial⟩,⟨⟨sf,r2,trivial⟩,⟨r2,sr,trivial⟩,⟨r2,⟨rfl,rfl,rfl,rfl,nofun⟩,trivial⟩,⟨rfl,⟨rfl,rfl,rfl,rfl,nofun⟩,⟨rfl,rfl,rfl,oz,nofun⟩,trivial⟩,⟨rfl,rfl,(λ _ _=>.refl _)⟩,⟨rfl,rfl,(λ _ _=>.refl _)⟩,⟨rfl,oz,(jQ rfl (gM AV.str ByteArray.empty [(v40.getD v39.1.toNat ByteArray.empty)]) rfl (gM AV.str ByteArray.empty [(v44.getD (((v39.1+(1:Int)).tmod (4:Int)).toNat) ByteArray.empty)]))⟩,trivial⟩⟩⟩
     ·(conv=>whnf)
      exact ⟨(v43.2.L,v43.2.At,([(v40.getD v39.1.toNat ByteArray.empty)]:List ByteArray)),[(6,some 62)],[],hm,⟨rfl,⟨r4,r4,r4,r2,r4,r2,trivial⟩,⟨⟨sf,r2,trivial⟩,⟨r2,sr,trivial⟩,⟨r2,⟨rfl,rfl,rfl,rfl,nofun⟩,trivial⟩,⟨rfl,⟨rfl,rfl,rfl,rfl,nofun⟩,⟨rfl,rfl,rfl,rfl,nofun⟩,trivial⟩,⟨rfl,rfl,(λ _ _=>.refl _)⟩,⟨rfl,rfl,(λ _ _=>.refl _)⟩,⟨rfl,rfl,(gM AV.str ByteArray.empty [(v40.getD v39.1.toNat ByteArray.empty)])⟩,trivial⟩⟩⟩
    ·(conv=>whnf)
     refine aZ hm λ h91 hm=>?_
     (conv=>whnf)
     refine aZ hm λ h92 hm=>?_
     (conv=>whnf)
     exact ⟨((g1.1 - (1:Int)),g14.1,g14.2.1,(g1.2.2.2++([(⟨(({ data:=#[103] }:ByteArray)++(strOf ([(IntKind.u8.wrap ((97:Int)+(g1.2.2.2.length:Int)))]:List Int))),g13,g14.2.2⟩:dh)]:List dh))),[(3,some 39)],[],hm,⟨rfl,⟨r4,r4,r4,r2,trivial⟩,⟨⟨sf,r2,trivial⟩,⟨r2,sr,trivial⟩,⟨r2,⟨rfl,rfl,rfl,oz,nofun⟩,trivial⟩,⟨rfl,oz,(jQ rfl (λ _ _=>.refl _) rfl (gM oN aH [(⟨(({ data:=#[103] }:ByteArray)++(strOf ([(IntKind.u8.wrap ((97:Int)+(g1.2.2.2.length:Int)))]:List Int))),g13,g14.2.2⟩:dh)]))⟩,trivial⟩⟩⟩
 ·(conv=>whnf)
  refine ⟨(λ q0=>absurd q0 (vac c36)),?_⟩
  (conv=>whnf)
  refine ⟨(λ q0=>absurd q0 (vac c36)),?_⟩
  (conv=>whnf)
  refine aZ hm λ h97 hm=>?_
  (conv=>whnf)
  refine aai (ct:=[13,17]) iX dk dk (jV g1 aj g12) r (λ g15=>⟨[(0,.ptr 0 0 0),(2,.ptr 1 0 0),(3,.ptr 2 0 0),(4,iV g1.1),(5,.ptr 3 0 0)],[(0,some (.box [aC g12.2.1,iV g12.2.2.1])),(1,some (.box [iV (0:Int),.sl 0 0 true fJ])),(2,some (.box [iV v1.1,.eF 4 0 g1.2.2.2.length false])),(3,some (.box [.str (({ data:=#[103] }:ByteArray)++(strOf ([(IntKind.u8.wrap ((97:Int)+(g1.2.2.2.length:Int)))]:List Int))),.eF 5 0 g15.length false,.sl 0 0 true fJ])),(4,some (.row 3 g1.2.2.2.length (bP oN aH g1.2.2.2))),(5,some (.row 1 g15.length (bP iV 0 g15)))],6⟩) ?_ (λ g15 hm=>?_)
  ·(conv=>whnf)
   refine iY hm (λ c45 hm=>?_) (λ c45 hm=>?_)
   ·(conv=>whnf)
    exact ⟨([v35.1]:List Int),[(5,some 142)],[],hm,⟨rfl,⟨r4,r4,r4,r2,r4,trivial⟩,⟨⟨sr,r2,trivial⟩,⟨r2,sr,trivial⟩,⟨r2,⟨rfl,rfl,rfl,rfl,nofun⟩,trivial⟩,⟨rfl,⟨rfl,rfl,rfl,rfl,nofun⟩,sr,trivial⟩,⟨rfl,rfl,(λ _ _=>.refl _)⟩,⟨rfl,rfl,(gM iV 0 [v35.1])⟩,trivial⟩⟩⟩
   ·(conv=>whnf)
    exact ⟨g12.2.2.2,[],[],hm,⟨rfl,⟨r4,r4,r4,r2,r4,trivial⟩,⟨⟨sr,r2,trivial⟩,⟨r2,sr,trivial⟩,⟨r2,⟨rfl,rfl,rfl,rfl,nofun⟩,trivial⟩,⟨rfl,⟨rfl,rfl,rfl,rfl,nofun⟩,sr,trivial⟩,⟨rfl,rfl,(λ _ _=>.refl _)⟩,⟨rfl,rfl,(λ _ _=>.refl _)⟩,trivial⟩⟩⟩
  ·(conv=>whnf)
   refine iq hm λ v45 alN hm=>?_
   refine ⟨_,_,(cB alN),?_⟩
   (conv=>whnf)
   refine iq hm λ v46 ahq hm=>?_
   refine ⟨_,_,(o8 ahq),?_⟩
   (conv=>whnf)
   refine aZ hm λ h98 hm=>?_
   (conv=>whnf)
   refine aai (ct:=[13,17]) iX dk dk (iP g1 aj g15) r (λ g16=>⟨[(0,.ptr 0 0 0),(2,.ptr 1 0 0),(3,.ptr 2 0 0),(4,iV g1.1),(5,.ptr 3 0 0)],[(0,some (.box [aC g16.1,iV g16.2.1])),(1,some (.box [iV (0:Int),.sl 0 0 true fJ])),(2,some (.box [iV v1.1,.eF 4 0 g1.2.2.2.length false])),(3,some (.box [.str (({ data:=#[103] }:ByteArray)++(strOf ([(IntKind.u8.wrap ((97:Int)+(g1.2.2.2.length:Int)))]:List Int))),.eF 5 0 g15.length false,.eF 6 0 g16.2.2.length false])),(4,some (.row 3 g1.2.2.2.length (bP oN aH g1.2.2.2))),(5,some (.row 1 g15.length (bP iV 0 g15))),(6,some (.row 1 g16.2.2.length (bP AV.str ByteArray.empty g16.2.2)))],7⟩) ?_ (λ g16 hm=>?_)
   ·(conv=>whnf)
    refine iq hm λ v49 aho hm=>?_
    refine ⟨_,_,(cB aho),?_⟩
    (conv=>whnf)
    refine iY hm (λ c44 hm=>?_) (λ c44 hm=>?_)
    ·(conv=>whnf)
     refine iq hm λ v50 adF hm=>?_
     refine ⟨_,_,(o8 adF),?_⟩
     (conv=>whnf)
     refine aZ hm λ axS hm=>?_
     (conv=>whnf)
     refine aZ hm λ axT hm=>?_
     (conv=>whnf)
     refine aZ hm λ axU hm=>?_
     (conv=>whnf)
     refine aZ hm λ axV hm=>?_
     (conv=>whnf)
     exact ⟨(v49.2.L,v49.2.At,(([(v46.getD v45.1.toNat ByteArray.empty)]:List ByteArray)++([(v50.getD (((v45.1+(1:Int)).tmod (4:Int)).toNat) ByteArray.empty)]:List ByteArray))),[(6,some 182)],[],hm,⟨rfl,⟨r4,r4,r4,r2,r4,trivial⟩,⟨⟨sf,r2,trivial⟩,⟨r2,sr,trivial⟩,⟨r2,⟨rfl,rfl,rfl,rfl,nofun⟩,trivial⟩,⟨rfl,⟨rfl,rfl,rfl,rfl,nofun⟩,⟨rfl,rfl,rfl,oz,nofun⟩,trivial⟩,⟨rfl,rfl,(λ _ _=>.refl _)⟩,⟨rfl,rfl,(λ _ _=>.refl _)⟩,⟨rfl,oz,(jQ rfl (gM AV.str ByteArray.empty [(v46.getD v45.1.toNat ByteArray.empty)]) rfl (gM AV.str ByteArray.empty [(v50.getD (((v45.1+(1:Int)).tmod (4:Int)).toNat) ByteArray.empty)]))⟩,trivial⟩⟩⟩
    ·(conv=>whnf)
     exact ⟨(v49.2.L,v49.2.At,([(v46.getD v45.1.toNat ByteArray.empty)]:List ByteArray)),[(6,some 62)],[],hm,⟨rfl,⟨r4,r4,r4,r2,r4,trivial⟩,⟨⟨sf,r2,trivial⟩,⟨r2,sr,trivial⟩,⟨r2,⟨rfl,rfl,rfl,rfl,nofun⟩,trivial⟩,⟨rfl,⟨rfl,rfl,rfl,rfl,nofun⟩,⟨rfl,rfl,rfl,rfl,nofun⟩,trivial⟩,⟨rfl,rfl,(λ _ _=>.refl _)⟩,⟨rfl,rfl,(λ _ _=>.refl _)⟩,⟨rfl,rfl,(gM AV.str ByteArray.empty [(v46.getD v45.1.toNat ByteArray.empty)])⟩,trivial⟩⟩⟩
   ·(conv=>whnf)
    refine aZ hm λ axW hm=>?_
    (conv=>whnf)
    refine aZ hm λ axX hm=>?_
    (conv=>whnf)
    exact ⟨((g1.1 - (1:Int)),g16.1,g16.2.1,(g1.2.2.2++([(⟨(({ data:=#[103] }:ByteArray)++(strOf ([(IntKind.u8.wrap ((97:Int)+(g1.2.2.2.length:Int)))]:List Int))),g15,g16.2.2⟩:dh)]:List dh))),[(3,some 39)],[],hm,⟨rfl,⟨r4,r4,r4,r2,trivial⟩,⟨⟨sf,r2,trivial⟩,⟨r2,sr,trivial⟩,⟨r2,⟨rfl,rfl,rfl,oz,nofun⟩,trivial⟩,⟨rfl,oz,(jQ rfl (λ _ _=>.refl _) rfl (gM oN aH [(⟨(({ data:=#[103] }:ByteArray)++(strOf ([(IntKind.u8.wrap ((97:Int)+(g1.2.2.2.length:Int)))]:List Int))),g15,g16.2.2⟩:dh)]))⟩,trivial⟩⟩⟩) λ _ hm=>by cases hm;exact rt [3] []
variable {k_:Int}
theorem uE {n_:Int} {r:List Int×dJ} (hm:lC n_ k_ dD r):S 87 [.ptr 0 0 0,iV n_,iV k_] [.box [aC dD.L,iV dD.At]] (aC r.1) [.box [aC r.2.L,iV r.2.At]] :=sp Tryz.func87 rfl<|lf hm (λ g1=>⟨[(0,.ptr 0 0 0),(1,iV n_),(2,iV k_),(7,.eF 1 0 g1.2.2.2.length false),(8,iV g1.1)],[(0,some (.box [aC g1.2.1,iV g1.2.2.1])),(1,some (.row 1 g1.2.2.2.length (bP iV 0 g1.2.2.2)))],2⟩) [(1,none)] [] <|λ aj g1 hm=>si hm (λ _ hm=>sq hm cB λ v3 hm=>sn hm λ _ hm=>si hm (λ _ hm=>s2 hm λ _ _ hm=>lc [(1,some 98)] [] hm) λ _ hm=>sn hm λ _ hm=>le hm) λ _ hm=>by cases hm;exact rt [1] []
variable {jl:Int}
theorem Na {r:List eG×dJ} (hm:tH jl dD r):S 82 [.ptr 0 0 0,iV jl] [.box [aC dD.L,iV dD.At]] (dA r.1) [.box [aC r.2.L,iV r.2.At]] :=sp Tryz.func82 rfl<|sn hm λ _ hm=>sq hm cB λ v1 hm=>lf hm (λ g1=>⟨[(0,.ptr 0 0 0),(5,.eF 1 0 g1.2.2.2.length false),(6,iV g1.1)],[(0,some (.box [aC g1.2.1,iV g1.2.2.1])),(1,some (.row 1 g1.2.2.2.length (bP alv dz g1.2.2.2)))],2⟩) [(1,none)] [] <|λ aj g1 hm=>si hm (λ _ hm=>sq hm uE λ v4 hm=>s2 hm λ _ _ hm=>lc [(1,some 74)] [] hm) λ _ hm=>by cases hm;exact rt [1] []
theorem KJ {r:List dF×dJ} (hm:rC jl dD r):S 83 [.ptr 0 0 0,iV jl] [.box [aC dD.L,iV dD.At]] (bY r.1) [.box [aC r.2.L,iV r.2.At]] :=sp Tryz.func83 rfl<|sn hm λ _ hm=>sq hm cB λ v1 hm=>lf hm (λ g1=>⟨[(0,.ptr 0 0 0),(5,.eF 1 0 g1.2.2.2.length false),(6,iV g1.1)],[(0,some (.box [aC g1.2.1,iV g1.2.2.1])),(1,some (.row 2 g1.2.2.2.length (bP aiu dI g1.2.2.2)))],2⟩) [(1,none)] [] <|λ aj g1 hm=>si hm (λ _ hm=>sn hm λ _ hm=>sq hm lI λ v6 hm=>sq hm cB λ v7 hm=>s2 hm λ _ _ hm=>lc [(1,some 106)] [] hm) λ _ hm=>by cases hm;exact rt [1] []
theorem PI {r:aS×dJ} (hm:uZ dD r):S 42 [.ptr 0 0 0] [.box [aC dD.L,iV dD.At]] (jm r.1) [.box [aC r.2.L,iV r.2.At]] :=sp Tryz.func42 rfl<|sq hm M8 λ v1 hm=>sq hm Jt λ v2 hm=>sq hm M9 λ v3 hm=>sq hm Na λ v4 hm=>sq hm KJ λ v5 hm=>by cases hm;exact re
variable {b_:aS}
theorem PK {r:bN×dJ} (hm:u6 b_ dD r):S 84 [.ptr 0 0 0,jm b_] [.box [aC dD.L,iV dD.At]] (zC r.1) [.box [aC r.2.L,iV r.2.At]] :=sp Tryz.func84 rfl<|sq hm cB λ v1 hm=>sb hm λ v2 hv2 hm=>cl ((gV hv2).le ⟨.refl _,(.sl rfl (λ _=>rfl) nofun (gM iV 0 [(0:Int),(0:Int),(6:Int),(12:Int),(24:Int)])),trivial⟩ ⟨kZ _,trivial⟩)<|sb hm λ v3 hv3 hm=>cl ((gV hv3).le ⟨.refl _,(.sl rfl (λ _=>rfl) nofun (gM iV 0 [(24:Int),(48:Int),(100:Int),(300:Int)])),trivial⟩ ⟨kZ _,trivial⟩)<|by cases hm;exact re
theorem Rb {r:bf×dJ} (hm:xU b_ dD r):S 85 [.ptr 0 0 0,jm b_] [.box [aC dD.L,iV dD.At]] (Ic r.1) [.box [aC r.2.L,iV r.2.At]] :=sp Tryz.func85 rfl<|sq hm cB λ v1 hm=>sb hm λ v2 hv2 hm=>cl ((gV hv2).le ⟨.refl _,(.sl rfl (λ _=>rfl) nofun (gM iV 0 [(0:Int),(900:Int),(1000:Int),(1800:Int)])),trivial⟩ ⟨kZ _,trivial⟩)<|sb hm λ v3 hv3 hm=>cl ((gV hv3).le ⟨.refl _,(.sl rfl (λ _=>rfl) nofun (gM iV 0 [(1800:Int),(3300:Int),(5000:Int)])),trivial⟩ ⟨kZ _,trivial⟩)<|sb hm λ v4 hv4 hm=>cl ((gV hv4).le ⟨.refl _,(.sl rfl (λ _=>rfl) nofun (gM iV 0 [(0:Int),(10:Int),(50:Int),(200:Int)])),trivial⟩ ⟨kZ _,trivial⟩)<|by cases hm;exact re
theorem Rc {l_:List ByteArray} {r:ByteArray×dJ} (hm:xV l_ dD r):S 55 [.ptr 0 0 0,gG l_] [.box [aC dD.L,iV dD.At]] (.str r.1) [.box [aC r.2.L,iV r.2.At]] :=sp Tryz.func55 rfl<|sq hm cB λ v1 hm=>sn hm λ _ hm=>by cases hm;exact re
theorem KL {r:List ByteArray×dJ} (hm:rD jl dD r):S 86 [.ptr 0 0 0,iV jl] [.box [aC dD.L,iV dD.At]] (gG r.1) [.box [aC r.2.L,iV r.2.At]] :=sp Tryz.func86 rfl<|sn hm λ _ hm=>sq hm cB λ v1 hm=>lf hm (λ g1=>⟨[(0,.ptr 0 0 0),(5,.eF 1 0 g1.2.2.2.length false),(6,iV g1.1)],[(0,some (.box [aC g1.2.1,iV g1.2.2.1])),(1,some (.row 1 g1.2.2.2.length (bP AV.str ByteArray.empty g1.2.2.2)))],2⟩) [(1,none)] [] <|λ aj g1 hm=>si hm (λ _ hm=>sq hm o8 λ v6 hm=>sq hm Rc λ v7 hm=>s2 hm λ _ _ hm=>lc [(1,some 58)] [] hm) λ _ hm=>by cases hm;exact rt [1] []
theorem KM {r:List aJ×dJ} (hm:rE b_ jl dD r):S 43 [.ptr 0 0 0,jm b_,iV jl] [.box [aC dD.L,iV dD.At]] (dO r.1) [.box [aC r.2.L,iV r.2.At]] :=spc [9,11,13,18,19] Tryz.func43 rfl<|sn hm λ _ hm=>sq hm cB λ v1 hm=>VQ [9,11,13,18,19] hm (λ g1=>⟨[(0,.ptr 0 0 0),(4,.ptr 1 0 0),(7,.eF 2 0 g1.2.2.2.length false),(8,iV v1.1),(9,iV g1.1)],[(0,some (.box [aC g1.2.1,iV g1.2.2.1])),(1,some (.box [bA b_.bS,aV b_.bG,iV b_.aT.bQ,bD b_.aT.aD,dA b_.bq,bY b_.cO])),(2,some (.row 6 g1.2.2.2.length (bP xA bB g1.2.2.2)))],3⟩) [(2,none)] [] <|λ aj g1 hm=>si hm (λ _ hm=>sn hm λ _ hm=>sq hm lI λ v46 hm=>ck [9,11,13,18,19] (jI b_ v1 g1 aj v46) r (λ g14=>⟨[(0,.ptr 0 0 0),(4,.ptr 1 0 0),(7,.eF 2 0 g1.2.2.2.length false),(8,iV v1.1),(9,iV g1.1),(10,.ptr 3 0 0)],[(0,some (.box [aC g14.1,iV g14.2.1])),(1,some (.box [bA b_.bS,aV b_.bG,iV b_.aT.bQ,bD b_.aT.aD,dA b_.bq,bY b_.cO])),(2,some (.row 6 g1.2.2.2.length (bP xA bB g1.2.2.2))),(3,some (.box [.eF 4 0 g14.2.2.length false,.sl 0 0 true fJ,.sl 0 0 true fJ,.sl 0 0 true fJ,iV v46.1,.sl 0 0 true fJ])),(4,some (.row 3 g14.2.2.length (bP zC dx g14.2.2)))],5⟩) (si hm (λ _ hm=>sq hm cB λ v66 hm=>si hm (λ _ hm=>sq hm PK λ v67 hm=>sn hm λ _ hm=>lc [(3,some 83),(4,some 219)] [] hm) λ _ hm=>lc [(3,some 83),(4,none)] [] hm) λ c50 hm=>by
 refine ⟨(λ q0=>absurd q0 (vac c50)),?_⟩
 (conv=>whnf)
 refine aZ hm λ h34 hm=>?_
 (conv=>whnf)
 exact ⟨(v46.2.L,v46.2.At,([]:List bN)),[(3,some 83),(4,none)],[],hm,⟨rfl,⟨r4,r4,⟨rfl,rfl,rfl,rfl,nofun⟩,r2,r2,r4,trivial⟩,⟨⟨sf,r2,trivial⟩,⟨sr,sr,r2,sr,sr,sr,trivial⟩,⟨rfl,rfl,(λ _ _=>.refl _)⟩,⟨⟨rfl,rfl,rfl,rfl,rfl,rfl⟩,sr,sr,sr,r2,sr,trivial⟩,rfl,trivial⟩⟩⟩) λ g14 hm=>ck [9,11,13,18,19] (jA b_ v1 g1 aj v46 g14) r (λ g15=>⟨[(0,.ptr 0 0 0),(4,.ptr 1 0 0),(7,.eF 2 0 g1.2.2.2.length false),(8,iV v1.1),(9,iV g1.1),(10,.ptr 3 0 0)],[(0,some (.box [aC g15.1,iV g15.2.1])),(1,some (.box [bA b_.bS,aV b_.bG,iV b_.aT.bQ,bD b_.aT.aD,dA b_.bq,bY b_.cO])),(2,some (.row 6 g1.2.2.2.length (bP xA bB g1.2.2.2))),(3,some (.box [.eF 4 0 g14.2.2.length false,.eF 5 0 g15.2.2.length false,.sl 0 0 true fJ,.sl 0 0 true fJ,iV v46.1,.sl 0 0 true fJ])),(4,some (.row 3 g14.2.2.length (bP zC dx g14.2.2))),(5,some (.row 4 g15.2.2.length (bP Ic dH g15.2.2)))],6⟩) (si hm (λ _ hm=>sq hm cB λ v64 hm=>si hm (λ _ hm=>sq hm Rb λ v65 hm=>sn hm λ _ hm=>lc [(5,some 125)] [] hm) λ _ hm=>lc [(5,none)] [] hm) λ c48 hm=>by
 refine ⟨(λ q0=>absurd q0 (vac c48)),?_⟩
 (conv=>whnf)
 refine aZ hm λ h32 hm=>?_
 (conv=>whnf)
 exact ⟨(g14.1,g14.2.1,([]:List bf)),[(5,none)],[],hm,⟨rfl,⟨r4,r4,⟨rfl,rfl,rfl,rfl,nofun⟩,r2,r2,r4,trivial⟩,⟨⟨sf,r2,trivial⟩,⟨sr,sr,r2,sr,sr,sr,trivial⟩,⟨rfl,rfl,(λ _ _=>.refl _)⟩,⟨⟨rfl,rfl,rfl,rfl,nofun⟩,⟨rfl,rfl,rfl,rfl,rfl,rfl⟩,sr,sr,r2,sr,trivial⟩,⟨rfl,rfl,(λ _ _=>.refl _)⟩,rfl,trivial⟩⟩⟩) λ g15 hm=>ck [9,11,13,18,19] (kG b_ v1 g1 aj v46 g14 g15) r (λ g16=>⟨[(0,.ptr 0 0 0),(4,.ptr 1 0 0),(7,.eF 2 0 g1.2.2.2.length false),(8,iV v1.1),(9,iV g1.1),(10,.ptr 3 0 0)],[(0,some (.box [aC g16.1,iV g16.2.1])),(1,some (.box [bA b_.bS,aV b_.bG,iV b_.aT.bQ,bD b_.aT.aD,dA b_.bq,bY b_.cO])),(2,some (.row 6 g1.2.2.2.length (bP xA bB g1.2.2.2))),(3,some (.box [.eF 4 0 g14.2.2.length false,.eF 5 0 g15.2.2.length false,gG g16.2.2,.sl 0 0 true fJ,iV v46.1,.sl 0 0 true fJ])),(4,some (.row 3 g14.2.2.length (bP zC dx g14.2.2))),(5,some (.row 4 g15.2.2.length (bP Ic dH g15.2.2)))],6⟩) (sq hm cB λ v62 hm=>si hm (λ _ hm=>sq hm KL λ v63 hm=>le hm) λ _ hm=>le hm) λ g16 hm=>sq hm uE λ v53 hm=>ck [9,11,13,18,19] (kE g1 aj v46 g14 g15 g16 v53) r (λ g18=>⟨[(0,.ptr 0 0 0),(4,.ptr 1 0 0),(7,.eF 2 0 g1.2.2.2.length false),(8,iV v1.1),(9,iV g1.1),(10,.ptr 3 0 0)],[(0,some (.box [aC g18.1,iV g18.2.1])),(1,some (.box [bA b_.bS,aV b_.bG,iV b_.aT.bQ,bD b_.aT.aD,dA b_.bq,bY b_.cO])),(2,some (.row 6 g1.2.2.2.length (bP xA bB g1.2.2.2))),(3,some (.box [.eF 4 0 g14.2.2.length false,.eF 5 0 g15.2.2.length false,gG g16.2.2,aC v53.1,iV v46.1,aC g18.2.2])),(4,some (.row 3 g14.2.2.length (bP zC dx g14.2.2))),(5,some (.row 4 g15.2.2.length (bP Ic dH g15.2.2)))],6⟩) (sq hm cB λ v58 hm=>si hm (λ _ hm=>ck [9,11,13,18,19] (kF g1 aj v46 g14 g15 g16 v53) r (λ g19=>⟨[(0,.ptr 0 0 0),(4,.ptr 1 0 0),(7,.eF 2 0 g1.2.2.2.length false),(8,iV v1.1),(9,iV g1.1),(10,.ptr 3 0 0),(11,iV g19.1)],[(0,some (.box [aC g19.2.1,iV g19.2.2])),(1,some (.box [bA b_.bS,aV b_.bG,iV b_.aT.bQ,bD b_.aT.aD,dA b_.bq,bY b_.cO])),(2,some (.row 6 g1.2.2.2.length (bP xA bB g1.2.2.2))),(3,some (.box [.eF 4 0 g14.2.2.length false,.eF 5 0 g15.2.2.length false,gG g16.2.2,aC v53.1,iV v46.1,.sl 0 0 true fJ])),(4,some (.row 3 g14.2.2.length (bP zC dx g14.2.2))),(5,some (.row 4 g15.2.2.length (bP Ic dH g15.2.2)))],6⟩) (sq hm cB λ v61 hm=>si hm (λ _ hm=>le hm) λ _ hm=>le hm) λ g19 hm=>sq hm uE λ v60 hm=>le hm) λ _ hm=>le hm) λ g18 hm=>s2 hm λ _ _ hm=>lc [(2,some 30)] [] hm) λ _ hm=>si hm (λ _ hm=>sq hm cB λ v68 hm=>si hm (λ _ hm=>sn hm λ _ hm=>VQ [9,11,13,18,19] hm (λ g20=>⟨[(7,.eF 1 0 g20.2.2.length false),(8,iV v1.1),(12,iV g20.1),(13,iV g20.2.1)],[(0,some (.box [aC v68.2.L,iV v68.2.At])),(1,some (.row 6 g20.2.2.length (bP xA bB g20.2.2)))],2⟩) [(1,some 2)] [] <|λ ahm g20 hm=>si hm (λ _ hm=>s2 hm λ _ _ hm=>s2 hm λ _ _ hm=>s2 hm λ _ _ hm=>le hm) λ _ hm=>VQ [9,11,13,18,19] hm (λ g21=>⟨[(7,.eF 1 0 g21.2.length false),(8,iV v1.1),(126,iV (g20.2.2.length:Int)),(127,iV g21.1)],[(0,some (.box [aC v68.2.L,iV v68.2.At])),(1,some (.row 6 g21.2.length (bP xA bB g21.2)))],2⟩) [] [] <|λ aaw g21 hm=>si hm (λ _ hm=>s2 hm λ _ _ hm=>VQ [9,11,13,18,19] hm (λ g24=>⟨[(7,.eF 1 0 g21.2.length false),(8,iV v1.1),(14,iV g21.1),(15,.eF 2 0 g24.2.length false),(16,iV g24.1),(126,iV (g20.2.2.length:Int)),(127,iV g21.1)],[(0,some (.box [aC v68.2.L,iV v68.2.At])),(1,some (.row 6 g21.2.length (bP xA bB g21.2))),(2,some (.row 1 g24.2.length (bP iV 0 g24.2)))],3⟩) [(2,none)] [] <|λ ahl g24 hm=>si hm (λ _ hm=>s2 hm λ _ _ hm=>s2 hm λ _ _ hm=>s2 hm λ _ _ hm=>lc [(2,some 123)] [] hm) λ _ hm=>s2 hm λ _ _ hm=>le hm) λ _ hm=>by cases hm;exact rt [1] []) λ _ hm=>by cases hm;exact rt [2] []) λ c52 hm=>by
 refine ⟨(λ q0=>absurd q0 (vac c52)),?_⟩
 (conv=>whnf)
 refine aZ hm λ ax1 hm=>?_
 (conv=>whnf)
 have hm:r=(g1.2.2.2,(⟨g1.2.1,g1.2.2.1⟩:dJ)):=hm
 subst hm
 refine ⟨[2],[],?_⟩
 (conv=>whnf)
 exact ⟨⟨rfl,trivial,⟨⟨sf,r2,trivial⟩,trivial⟩⟩,sf⟩
variable {r:Bool}
theorem aeb {l_:List Int} {x_:Int} (hm:Zm l_ x_ r):S 250 [aC l_,iV x_] [] (.bool r) [] :=sp Tryz.func250 rfl<|l0 hm (λ g1=>⟨[(0,aC l_),(1,iV x_),(5,iV g1)],[],0⟩) <|λ aj g1 hm=>si hm (λ _ hm=>sn hm λ _ hm=>si hm (λ _ hm=>by cases hm;exact re) λ _ hm=>sn hm λ _ hm=>le hm) λ _ hm=>by cases hm;exact re
theorem nU {l_:List Int} {wR:Int} {yS:Int} (hm:lX l_ wR yS r):S 232 [aC l_,iV wR,iV yS] [] (.bool r) [] :=sp Tryz.func232 rfl<|l0 hm (λ g1=>⟨[(0,aC l_),(1,iV wR),(2,iV yS),(9,aC l_),(10,iV (l_.length:Int)),(11,iV g1)],[],0⟩) <|λ aj g1 hm=>si hm (λ _ hm=>s2 hm λ _ _ hm=>sb hm λ v3 hv3 hm=>cl (λ q0=>((aeb (hv3 q0)).le ⟨(.sl oz (λ _=>rfl) nofun (jP (f:=iV) (d:=0) (by first | omega | exact Nat.min_le_left _ _ | exact Nat.le_trans (Nat.min_le_left _ _) om | (simp; omega)))),.refl _,trivial⟩ trivial))<|si hm (λ _ hm=>by cases hm;exact re) λ _ hm=>sn hm λ _ hm=>le hm) λ _ hm=>by cases hm;exact re
theorem PL {a_:List Int} {b_:List Int} (hm:Iw a_ b_ r):S 233 [aC a_,aC b_] [] (.bool r) [] :=sp Tryz.func233 rfl<|si hm (λ _ hm=>by cases hm;exact re) λ _ hm=>l0 hm (λ g1=>⟨[(0,aC a_),(1,aC b_),(5,iV g1)],[],0⟩) <|λ aj g1 hm=>si hm (λ _ hm=>s2 hm λ _ _ hm=>si hm (λ _ hm=>by cases hm;exact re) λ _ hm=>sn hm λ _ hm=>le hm) λ _ hm=>by cases hm;exact re
theorem TB {c_:aI} (hm:Ah c_ r):S 208 [NC c_] [] (.bool r) [] :=sp Tryz.func208 rfl<|si hm (λ _ hm=>s2 hm λ _ _ hm=>by cases hm;exact re) λ _ hm=>si hm (λ _ hm=>si hm (λ _ hm=>sb hm λ v1 hv1 hm=>cl (λ q0=>(nU (hv1 q0)))<|by cases hm;exact re) λ _ hm=>si hm (λ _ hm=>sn hm λ _ hm=>sb hm λ v2 hv2 hm=>cl (λ q0=>(nU (hv2 q0)))<|by cases hm;exact re) λ _ hm=>si hm (λ _ hm=>si hm (λ _ hm=>sb hm λ v3 hv3 hm=>cl (λ q0=>((PL (hv3 q0)).le ⟨.refl _,(.sl rfl (λ _=>rfl) nofun (gM iV 0 [(0:Int),(1:Int)])),trivial⟩ trivial))<|by cases hm;exact re) λ c6 hm=>by
 refine ⟨.bool false,[],(λ q0=>absurd q0 (vac c6)),?_⟩
 (conv=>whnf)
 have hm:r=(((c_.aP.length:Int)==(1:Int))&&false):=hm
 subst hm
 refine ⟨[],[],?_⟩
 (conv=>whnf)
 exact ⟨⟨rfl,trivial,trivial⟩,rfl⟩) λ _ hm=>by cases hm;exact re) λ _ hm=>si hm (λ _ hm=>sb hm λ v4 hv4 hm=>cl (λ q0=>(nU (hv4 q0)))<|by cases hm;exact re) λ _ hm=>si hm (λ _ hm=>sn hm λ _ hm=>sb hm λ v5 hv5 hm=>cl (λ q0=>(nU (hv5 q0)))<|by cases hm;exact re) λ _ hm=>si hm (λ _ hm=>si hm (λ _ hm=>sb hm λ v6 hv6 hm=>cl (λ q0=>((PL (hv6 q0)).le ⟨.refl _,(.sl rfl (λ _=>rfl) nofun (gM iV 0 [(0:Int),(1:Int)])),trivial⟩ trivial))<|by cases hm;exact re) λ c10 hm=>by
 refine ⟨.bool false,[],(λ q0=>absurd q0 (vac c10)),?_⟩
 (conv=>whnf)
 have hm:r=(((c_.aP.length:Int)==(1:Int))&&false):=hm
 subst hm
 refine ⟨[],[],?_⟩
 (conv=>whnf)
 exact ⟨⟨rfl,trivial,trivial⟩,rfl⟩) λ _ hm=>by cases hm;exact re
variable {l_:List aI}
theorem TF {r:List Int} (hm:Ai l_ r):S 209 [bA l_] [] (aC r) [] :=spc [13] Tryz.func209 rfl<|VQ [13] hm (λ g1=>⟨[(3,.eF 0 0 g1.2.length false),(9,bA l_),(10,iV (l_.length:Int)),(11,iV g1.1)],[(0,some (.row 1 g1.2.length (bP iV 0 g1.2)))],1⟩) [(0,none)] [] <|λ aj g1 hm=>si hm (λ _ hm=>sn hm λ _ hm=>VQ [13] hm (λ g6=>⟨[(3,.eF 0 0 g1.2.length false),(5,.ptr 1 0 0),(6,iV g6.1),(9,bA l_),(10,iV (l_.length:Int)),(11,iV g1.1),(16,aC ((l_.getD g1.1.toNat aK).aP)),(17,iV ((((l_.getD g1.1.toNat aK).aP).length:Nat):Int)),(18,iV g6.2)],[(0,some (.row 1 g1.2.length (bP iV 0 g1.2))),(1,some (.box [iV ((l_.getD g1.1.toNat aK).gq),aC ((l_.getD g1.1.toNat aK).aP),aC ((l_.getD g1.1.toNat aK).aN),iV ((l_.getD g1.1.toNat aK).Low),iV ((l_.getD g1.1.toNat aK).fP)]))],2⟩) [(1,some 25)] [] <|λ jH g6 hm=>si hm (λ _ hm=>s2 hm λ _ _ hm=>sn hm λ _ hm=>le hm) λ _ hm=>ck [13] (nP g1 aj) r (λ g7=>⟨[(3,.eF 0 0 g1.2.length false),(6,iV g7),(9,bA l_),(10,iV (l_.length:Int)),(11,iV g1.1)],[(0,some (.row 1 g1.2.length (bP iV 0 g1.2)))],1⟩) (si hm (λ _ hm=>sn hm λ _ hm=>le hm) λ _ hm=>le hm) λ g7 hm=>s2 hm λ _ _ hm=>lc [(0,some 25)] [] hm) λ _ hm=>by cases hm;exact rt [0] []
theorem tX {r:Int} (hm:sG l_ r):S 159 [bA l_] [] (iV r) [] :=sp Tryz.func159 rfl<|si hm (λ _ hm=>by cases hm;exact re) λ _ hm=>l0 hm (λ g1=>⟨[(0,bA l_),(15,bA l_),(16,iV (l_.length:Int)),(17,iV g1)],[],0⟩) <|λ aj g1 hm=>si hm (λ _ hm=>sn hm λ _ hm=>si hm (λ _ hm=>by cases hm;exact re) λ _ hm=>sn hm λ _ hm=>le hm) λ _ hm=>l0 hm (λ g2=>⟨[(0,bA l_),(5,iV g2.1),(32,bA l_),(33,iV (l_.length:Int)),(34,iV g2.2)],[],0⟩) <|λ dK g2 hm=>si hm (λ _ hm=>sn hm λ _ hm=>lf hm (λ g5=>⟨[(0,bA l_),(5,iV g2.1),(6,iV g2.2),(7,.ptr 0 0 0),(32,bA l_),(33,iV (l_.length:Int)),(34,iV g2.2),(40,aC ((l_.getD g2.2.toNat aK).aP)),(41,iV ((((l_.getD g2.2.toNat aK).aP).length:Nat):Int)),(42,iV g5)],[(0,some (.box [iV ((l_.getD g2.2.toNat aK).gq),aC ((l_.getD g2.2.toNat aK).aP),aC ((l_.getD g2.2.toNat aK).aN),iV ((l_.getD g2.2.toNat aK).Low),iV ((l_.getD g2.2.toNat aK).fP)]))],1⟩) [(0,some 32)] [] <|λ ku g5 hm=>si hm (λ _ hm=>sn hm λ _ hm=>si hm (λ _ hm=>by cases hm;exact re) λ _ hm=>sn hm λ _ hm=>le hm) λ _ hm=>sq hm TB λ v3 hm=>si hm (λ _ hm=>by cases hm;exact re) λ _ hm=>s2 hm λ _ _ hm=>le hm) λ _ hm=>si hm (λ _ hm=>by cases hm;exact re) λ _ hm=>sq hm TF λ v4 hm=>l0 hm (λ g6=>⟨[(84,aC v4),(85,iV (v4.length:Int)),(86,iV g6)],[],0⟩) <|λ jH g6 hm=>si hm (λ _ hm=>sn hm λ _ hm=>si hm (λ _ hm=>by cases hm;exact re) λ _ hm=>sn hm λ _ hm=>le hm) λ _ hm=>by cases hm;exact re
theorem kV {x_:Int} {wR:Int} {yS:Int} (hm:qH x_ wR yS r):S 166 [iV x_,iV wR,iV yS] [] (.bool r) [] :=sp Tryz.func166 rfl<|by cases hm;exact re
theorem tY {l_:List ay} {r:Int} (hm:sH l_ r):S 160 [aV l_] [] (iV r) [] :=sp Tryz.func160 rfl<|si hm (λ _ hm=>by cases hm;exact re) λ _ hm=>l0 hm (λ g1=>⟨[(0,aV l_),(12,aV l_),(13,iV (l_.length:Int)),(14,iV g1)],[],0⟩) <|λ aj g1 hm=>si hm (λ _ hm=>sn hm λ _ hm=>si hm (λ _ hm=>by cases hm;exact re) λ _ hm=>sn hm λ _ hm=>le hm) λ _ hm=>l0 hm (λ g2=>⟨[(23,aV l_),(24,iV (l_.length:Int)),(25,iV g2)],[],0⟩) <|λ dK g2 hm=>si hm (λ _ hm=>s2 hm λ _ _ hm=>sq hm kV λ v13 hm=>sb hm λ v14 UD hm=>cl (λ q0=>(kV (UD q0)))<|sb hm λ v15 QN hm=>cl (λ q0=>(kV (QN q0)))<|si hm (λ _ hm=>by cases hm;exact re) λ _ hm=>lf hm (λ g5=>⟨[(6,.ptr 0 0 0),(23,aV l_),(24,iV (l_.length:Int)),(25,iV g2),(65,aC ((l_.getD g2.toNat au).bK)),(66,iV ((((l_.getD g2.toNat au).bK).length:Nat):Int)),(67,iV g5)],[(0,some (.box [iV ((l_.getD g2.toNat au).aM),aC ((l_.getD g2.toNat au).bK),iV ((l_.getD g2.toNat au).gB),iV ((l_.getD g2.toNat au).iy),.bool ((l_.getD g2.toNat au).fM)]))],1⟩) [(0,some 32)] [] <|λ ku g5 hm=>si hm (λ _ hm=>sn hm λ _ hm=>sq hm kV λ v18 hm=>s2 hm λ _ _ hm=>si hm (λ _ hm=>by cases hm;exact re) λ _ hm=>sn hm λ _ hm=>le hm) λ _ hm=>sn hm λ _ hm=>le hm) λ _ hm=>by cases hm;exact re
theorem vF {s_:ByteArray} (hm:vQ s_ r):S 150 [.str s_] [] (.bool r) [] :=sp Tryz.func150 rfl<|s2 hm λ _ _ hm=>si hm (λ _ hm=>by cases hm;exact re) λ _ hm=>l0 hm (λ g1=>⟨[(0,.str s_),(3,iV g1)],[],0⟩) <|λ aj g1 hm=>si hm (λ _ hm=>s2 hm λ _ _ hm=>s2 hm λ _ _ hm=>sn hm λ _ hm=>si hm (λ _ hm=>by cases hm;exact re) λ _ hm=>sn hm λ _ hm=>le hm) λ _ hm=>by cases hm;exact re
theorem Xb {p_:bn} {i_:Int} {r:Int} (hm:F3 p_ i_ r):S 104 [l9 p_,iV i_] [] (iV r) [] :=sp Tryz.func104 rfl<|sn hm λ _ hm=>sq hm vF λ v1 hm=>si hm (λ _ hm=>by cases hm;exact re) λ _ hm=>lf hm (λ g1=>⟨[(1,iV i_),(2,.ptr 0 0 0),(5,.ptr 1 0 0),(6,iV g1)],[(0,some (.box [iV p_.bQ,bD p_.aD])),(1,some (.box [.str ((p_.aD.getD i_.toNat aH).wY),aC ((p_.aD.getD i_.toNat aH).bQ),gG ((p_.aD.getD i_.toNat aH).ak)]))],2⟩) [(1,some 56)] [] <|λ aj g1 hm=>si hm (λ _ hm=>sn hm λ _ hm=>si hm (λ _ hm=>by cases hm;exact re) λ _ hm=>sn hm λ _ hm=>le hm) λ _ hm=>si hm (λ _ hm=>by cases hm;exact re) λ _ hm=>si hm (λ _ hm=>by cases hm;exact re) λ _ hm=>l0 hm (λ g2=>⟨[(2,.ptr 0 0 0),(5,.ptr 1 0 0),(7,iV g2)],[(0,some (.box [iV p_.bQ,bD p_.aD])),(1,some (.box [.str ((p_.aD.getD i_.toNat aH).wY),aC ((p_.aD.getD i_.toNat aH).bQ),gG ((p_.aD.getD i_.toNat aH).ak)]))],2⟩) <|λ dK g2 hm=>si hm (λ _ hm=>s2 hm λ _ _ hm=>si hm (λ _ hm=>by cases hm;exact re) λ _ hm=>sn hm λ _ hm=>le hm) λ _ hm=>lf hm (λ g3=>⟨[(5,.ptr 0 0 0),(8,iV g3)],[(0,some (.box [.str ((p_.aD.getD i_.toNat aH).wY),aC ((p_.aD.getD i_.toNat aH).bQ),gG ((p_.aD.getD i_.toNat aH).ak)]))],1⟩) [(0,some 1)] [] <|λ jZ g3 hm=>si hm (λ _ hm=>s2 hm λ _ _ hm=>sn hm λ _ hm=>si hm (λ _ hm=>by cases hm;exact re) λ _ hm=>sn hm λ _ hm=>le hm) λ _ hm=>l0 hm (λ g4=>⟨[(5,.ptr 0 0 0),(9,iV g4)],[(0,some (.box [.str ((p_.aD.getD i_.toNat aH).wY),aC ((p_.aD.getD i_.toNat aH).bQ),gG ((p_.aD.getD i_.toNat aH).ak)]))],1⟩) <|λ jq g4 hm=>si hm (λ _ hm=>sn hm λ _ hm=>sq hm vF λ v4 hm=>si hm (λ _ hm=>by cases hm;exact re) λ _ hm=>sn hm λ _ hm=>le hm) λ _ hm=>l0 hm (λ g5=>⟨[(5,.ptr 0 0 0),(10,iV g5)],[(0,some (.box [.str ((p_.aD.getD i_.toNat aH).wY),aC ((p_.aD.getD i_.toNat aH).bQ),gG ((p_.aD.getD i_.toNat aH).ak)]))],1⟩) <|λ ku g5 hm=>si hm (λ _ hm=>l0 hm (λ g8=>⟨[(5,.ptr 0 0 0),(10,iV g5),(11,iV g8)],[(0,some (.box [.str ((p_.aD.getD i_.toNat aH).wY),aC ((p_.aD.getD i_.toNat aH).bQ),gG ((p_.aD.getD i_.toNat aH).ak)]))],1⟩) <|λ aay g8 hm=>si hm (λ _ hm=>s2 hm λ _ _ hm=>si hm (λ _ hm=>by cases hm;exact re) λ _ hm=>sn hm λ _ hm=>le hm) λ _ hm=>sn hm λ _ hm=>le hm) λ _ hm=>by cases hm;exact re
theorem zW {p_:bn} {r:Int} (hm:wI p_ r):S 52 [l9 p_] [] (iV r) [] :=sp Tryz.func52 rfl<|si hm (λ _ hm=>by cases hm;exact re) λ _ hm=>si hm (λ _ hm=>by cases hm;exact re) λ _ hm=>l0 hm (λ g1=>⟨[(1,.ptr 0 0 0),(3,iV g1)],[(0,some (.box [iV p_.bQ,bD p_.aD]))],1⟩) <|λ aj g1 hm=>si hm (λ _ hm=>sq hm Xb λ v3 hm=>si hm (λ _ hm=>by cases hm;exact re) λ _ hm=>sn hm λ _ hm=>le hm) λ _ hm=>by cases hm;exact re
theorem zX {l_:List eG} {r:Int} (hm:wJ l_ r):S 77 [dA l_] [] (iV r) [] :=sp Tryz.func77 rfl<|si hm (λ _ hm=>by cases hm;exact re) λ _ hm=>l0 hm (λ g1=>⟨[(0,dA l_),(3,iV g1)],[],0⟩) <|λ aj g1 hm=>si hm (λ _ hm=>l0 hm (λ g6=>⟨[(0,dA l_),(3,iV g1),(4,iV g6)],[],0⟩) <|λ jH g6 hm=>sn hm λ _ hm=>si hm (λ _ hm=>s2 hm λ _ _ hm=>s2 hm λ _ _ hm=>si hm (λ _ hm=>by cases hm;exact re) λ _ hm=>sn hm λ _ hm=>le hm) λ _ hm=>l0 hm (λ g7=>⟨[(0,dA l_),(3,iV g1),(5,iV g7)],[],0⟩) <|λ oq g7 hm=>sn hm λ _ hm=>si hm (λ _ hm=>s2 hm λ _ _ hm=>s2 hm λ _ _ hm=>sn hm λ _ hm=>si hm (λ _ hm=>by cases hm;exact re) λ _ hm=>sn hm λ _ hm=>le hm) λ _ hm=>sn hm λ _ hm=>le hm) λ _ hm=>by cases hm;exact re
theorem zY {l_:List dF} {r:Int} (hm:wK l_ r):S 131 [bY l_] [] (iV r) [] :=sp Tryz.func131 rfl<|si hm (λ _ hm=>by cases hm;exact re) λ _ hm=>l0 hm (λ g1=>⟨[(0,bY l_),(3,iV g1)],[],0⟩) <|λ aj g1 hm=>si hm (λ _ hm=>s2 hm λ _ _ hm=>si hm (λ _ hm=>by cases hm;exact re) λ _ hm=>sn hm λ _ hm=>le hm) λ _ hm=>by cases hm;exact re
theorem Xc {r:Int} (hm:F4 b_ r):S 111 [jm b_] [] (iV r) [] :=sp Tryz.func111 rfl<|sq hm tX λ v1 hm=>si hm (λ _ hm=>by cases hm;exact re) λ _ hm=>sq hm tY λ v2 hm=>si hm (λ _ hm=>by cases hm;exact re) λ _ hm=>sq hm zW λ v3 hm=>si hm (λ _ hm=>by cases hm;exact re) λ _ hm=>sq hm zX λ v4 hm=>si hm (λ _ hm=>by cases hm;exact re) λ _ hm=>sq hm zY λ v5 hm=>by cases hm;exact re
theorem YP {l_:List aJ} {x_:aJ} {r:Int} (hm:Ka b_ l_ x_ r):S 112 [jm b_,dO l_,xA x_] [] (iV r) [] :=sp Tryz.func112 rfl<|si hm (λ _ hm=>by cases hm;exact re) λ _ hm=>lf hm (λ g1=>⟨[(1,dO l_),(3,.ptr 0 0 0),(5,.ptr 1 0 0),(35,fA x_.bU),(36,iV (x_.bU.length:Int)),(37,iV g1)],[(0,some (.box [bA b_.bS,aV b_.bG,iV b_.aT.bQ,bD b_.aT.aD,dA b_.bq,bY b_.cO])),(1,some (.box [fA x_.bU,fO x_.fF,gG x_.ak,aC x_.bq,iV x_.fT,aC x_.bT]))],2⟩) [(1,some 8)] [] <|λ aj g1 hm=>si hm (λ _ hm=>sn hm λ _ hm=>si hm (λ _ hm=>by cases hm;exact re) λ _ hm=>sn hm λ _ hm=>le hm) λ _ hm=>l0 hm (λ g2=>⟨[(1,dO l_),(3,.ptr 0 0 0),(5,.ptr 1 0 0),(71,fO x_.fF),(72,iV (x_.fF.length:Int)),(73,iV g2)],[(0,some (.box [bA b_.bS,aV b_.bG,iV b_.aT.bQ,bD b_.aT.aD,dA b_.bq,bY b_.cO])),(1,some (.box [fA x_.bU,fO x_.fF,gG x_.ak,aC x_.bq,iV x_.fT,aC x_.bT]))],2⟩) <|λ dK g2 hm=>si hm (λ _ hm=>sn hm λ _ hm=>si hm (λ _ hm=>by cases hm;exact re) λ _ hm=>sn hm λ _ hm=>le hm) λ _ hm=>l0 hm (λ g3=>⟨[(1,dO l_),(3,.ptr 0 0 0),(5,.ptr 1 0 0),(117,gG x_.ak),(118,iV (x_.ak.length:Int)),(119,iV g3)],[(0,some (.box [bA b_.bS,aV b_.bG,iV b_.aT.bQ,bD b_.aT.aD,dA b_.bq,bY b_.cO])),(1,some (.box [fA x_.bU,fO x_.fF,gG x_.ak,aC x_.bq,iV x_.fT,aC x_.bT]))],2⟩) <|λ jZ g3 hm=>si hm (λ _ hm=>sn hm λ _ hm=>sq hm vF λ v3 hm=>si hm (λ _ hm=>by cases hm;exact re) λ _ hm=>sn hm λ _ hm=>le hm) λ _ hm=>l0 hm (λ g4=>⟨[(1,dO l_),(3,.ptr 0 0 0),(5,.ptr 1 0 0),(128,aC x_.bq),(129,iV (x_.bq.length:Int)),(130,iV g4)],[(0,some (.box [bA b_.bS,aV b_.bG,iV b_.aT.bQ,bD b_.aT.aD,dA b_.bq,bY b_.cO])),(1,some (.box [fA x_.bU,fO x_.fF,gG x_.ak,aC x_.bq,iV x_.fT,aC x_.bT]))],2⟩) <|λ jq g4 hm=>si hm (λ _ hm=>sn hm λ _ hm=>si hm (λ _ hm=>by cases hm;exact re) λ _ hm=>sn hm λ _ hm=>le hm) λ _ hm=>si hm (λ _ hm=>by cases hm;exact re) λ _ hm=>lf hm (λ g5=>⟨[(1,dO l_),(5,.ptr 0 0 0),(156,aC x_.bT),(157,iV (x_.bT.length:Int)),(158,iV g5)],[(0,some (.box [fA x_.bU,fO x_.fF,gG x_.ak,aC x_.bq,iV x_.fT,aC x_.bT]))],1⟩) [(0,some 1)] [] <|λ ku g5 hm=>si hm (λ _ hm=>sn hm λ _ hm=>si hm (λ _ hm=>by cases hm;exact re) λ _ hm=>sn hm λ _ hm=>le hm) λ _ hm=>l0 hm (λ g6=>⟨[(5,.ptr 0 0 0),(17,iV g6)],[(0,some (.box [fA x_.bU,fO x_.fF,gG x_.ak,aC x_.bq,iV x_.fT,aC x_.bT]))],1⟩) <|λ jH g6 hm=>si hm (λ _ hm=>s2 hm λ _ _ hm=>sn hm λ _ hm=>si hm (λ _ hm=>by cases hm;exact re) λ _ hm=>sn hm λ _ hm=>le hm) λ _ hm=>by cases hm;exact re
theorem vG {l_:List aJ} {r:Int} (hm:vR b_ l_ r):S 62 [jm b_,dO l_] [] (iV r) [] :=sp Tryz.func62 rfl<|sq hm Xc λ v1 hm=>si hm (λ _ hm=>by cases hm;exact re) λ _ hm=>si hm (λ _ hm=>by cases hm;exact re) λ _ hm=>l0 hm (λ g1=>⟨[(1,dO l_),(2,.ptr 0 0 0),(6,iV g1)],[(0,some (.box [bA b_.bS,aV b_.bG,iV b_.aT.bQ,bD b_.aT.aD,dA b_.bq,bY b_.cO]))],1⟩) <|λ aj g1 hm=>si hm (λ _ hm=>sn hm λ _ hm=>sq hm YP λ v4 hm=>si hm (λ _ hm=>by cases hm;exact re) λ _ hm=>sn hm λ _ hm=>le hm) λ _ hm=>by cases hm;exact re
variable {ah:List Int}
theorem qx {l_:List aJ} (hm:nY l_ ah r):S 63 [dO l_,aC ah] [] (.bool r) [] :=sp Tryz.func63 rfl<|l0 hm (λ g1=>⟨[(0,dO l_),(1,aC ah),(5,iV g1)],[],0⟩) <|λ aj g1 hm=>si hm (λ _ hm=>s2 hm λ _ _ hm=>si hm (λ _ hm=>by cases hm;exact re) λ _ hm=>l0 hm (λ g4=>⟨[(0,dO l_),(1,aC ah),(5,iV g1),(6,iV g4)],[],0⟩) <|λ jq g4 hm=>si hm (λ _ hm=>s2 hm λ _ _ hm=>si hm (λ _ hm=>by cases hm;exact re) λ _ hm=>sn hm λ _ hm=>le hm) λ _ hm=>sn hm λ _ hm=>le hm) λ _ hm=>by cases hm;exact re
theorem Vq {l_:List aJ} {r:List bN} (hm:Us l_ ah r):S 22 [dO l_,aC ah] [] (fA r) [] :=sp Tryz.func22 rfl<|lf hm (λ g1=>⟨[(0,dO l_),(5,.eF 0 0 g1.2.length false),(8,aC ah),(9,iV (ah.length:Int)),(10,iV g1.1)],[(0,some (.row 3 g1.2.length (bP zC dx g1.2)))],1⟩) [(0,none)] [] <|λ aj g1 hm=>si hm (λ _ hm=>sn hm λ _ hm=>si hm (λ _ hm=>s2 hm λ _ _ hm=>sn hm λ _ hm=>lc [(0,some 145)] [] hm) λ _ hm=>sn hm λ _ hm=>le hm) λ _ hm=>by cases hm;exact rt [0] []
theorem Xd {l_:List aJ} {r:List bf} (hm:XW l_ ah r):S 24 [dO l_,aC ah] [] (fO r) [] :=sp Tryz.func24 rfl<|lf hm (λ g1=>⟨[(0,dO l_),(5,.eF 0 0 g1.2.length false),(8,aC ah),(9,iV (ah.length:Int)),(10,iV g1.1)],[(0,some (.row 4 g1.2.length (bP Ic dH g1.2)))],1⟩) [(0,none)] [] <|λ aj g1 hm=>si hm (λ _ hm=>sn hm λ _ hm=>si hm (λ _ hm=>s2 hm λ _ _ hm=>sn hm λ _ hm=>lc [(0,some 145)] [] hm) λ _ hm=>sn hm λ _ hm=>le hm) λ _ hm=>by cases hm;exact rt [0] []
theorem Bt {l_:List aJ} {r:Int} (hm:qI l_ ah r):S 64 [dO l_,aC ah] [] (iV r) [] :=sp Tryz.func64 rfl<|l0 hm (λ g1=>⟨[(0,dO l_),(5,iV g1.1),(8,aC ah),(9,iV (ah.length:Int)),(10,iV g1.2)],[],0⟩) <|λ aj g1 hm=>si hm (λ _ hm=>sn hm λ _ hm=>si hm (λ _ hm=>s2 hm λ _ _ hm=>sn hm λ _ hm=>le hm) λ _ hm=>sn hm λ _ hm=>le hm) λ _ hm=>by cases hm;exact re
variable {m_:List bN}
theorem Gs (hm:xW l_ m_ r):S 161 [bA l_,fA m_] [] (.bool r) [] :=sp Tryz.func161 rfl<|sq hm tX λ v1 hm=>si hm (λ _ hm=>by cases hm;exact re) λ _ hm=>l0 hm (λ g1=>⟨[(0,bA l_),(15,fA m_),(16,iV (m_.length:Int)),(17,iV g1)],[],0⟩) <|λ aj g1 hm=>si hm (λ _ hm=>sn hm λ _ hm=>si hm (λ _ hm=>by cases hm;exact re) λ _ hm=>sn hm λ _ hm=>le hm) λ _ hm=>by cases hm;exact re
theorem Xe {r:Int} (hm:F5 l_ m_ r):S 113 [bA l_,fA m_] [] (iV r) [] :=sp Tryz.func113 rfl<|sq hm tX λ v1 hm=>si hm (λ _ hm=>by cases hm;exact re) λ _ hm=>sq hm Gs λ v2 hm=>si hm (λ _ hm=>by cases hm;exact re) λ _ hm=>by cases hm;exact re
theorem Vr {c_:aI} {u7:Int} {r:Int} (hm:Dq c_ u7 r):S 217 [NC c_,iV u7] [] (iV r) [] :=sp Tryz.func217 rfl<|si hm (λ _ hm=>by cases hm;exact re) λ _ hm=>si hm (λ _ hm=>s2 hm λ _ _ hm=>by cases hm;exact re) λ _ hm=>sn hm λ _ hm=>by cases hm;exact re
theorem vY {a_:Int} {b_:Int} {r:Int} (hm:qP a_ b_ r):S 240 [iV a_,iV b_] [] (iV r) [] :=sp Tryz.func240 rfl<|l0 hm (λ g1=>⟨[(0,iV g1.1),(1,iV g1.2)],[],0⟩) <|λ aj g1 hm=>si hm (λ _ hm=>sn hm λ _ hm=>le hm) λ _ hm=>by cases hm;exact re
variable {r_:bL}
theorem tZ (hm:sI r_ r):S 220 [qE r_] [] (.bool r) [] :=sp Tryz.func220 rfl<|sb hm λ v1 hv1 hm=>cl (λ q0=>(vY (hv1 q0)))<|by cases hm;exact re
theorem Gt (hm:xX k_ r):S 238 [iV k_] [] (.bool r) [] :=sp Tryz.func238 rfl<|by cases hm;exact re
theorem PN {xG:Int} {xH:Int} {r:bL×Int} (hm:IG xG xH r):S 239 [iV xG,iV xH] [] (.kH [qE r.1,iV r.2]) [] :=sp Tryz.func239 rfl<|si hm (λ _ hm=>by cases hm;exact re) λ _ hm=>sq hm vY λ v1 hm=>s2 hm λ _ _ hm=>sq hm tZ λ v2 hm=>si hm (λ _ hm=>by cases hm;exact re) λ _ hm=>by cases hm;exact re
theorem YQ {r:bL×Int} (hm:Kc r_ k_ r):S 218 [qE r_,iV k_] [] (.kH [qE r.1,iV r.2]) [] :=sp Tryz.func218 rfl<|sq hm tZ λ v1 hm=>si hm (λ _ hm=>by cases hm;exact re) λ _ hm=>sq hm Gt λ v2 hm=>si hm (λ _ hm=>by cases hm;exact re) λ _ hm=>sn hm λ _ hm=>sq hm PN λ v3 hm=>by cases hm;exact re
theorem Xf {r:bL×Int} (hm:F6 r_ k_ r):S 219 [qE r_,iV k_] [] (.kH [qE r.1,iV r.2]) [] :=sp Tryz.func219 rfl<|sq hm tZ λ v1 hm=>si hm (λ _ hm=>by cases hm;exact re) λ _ hm=>sq hm Gt λ v2 hm=>si hm (λ _ hm=>by cases hm;exact re) λ _ hm=>sq hm vY λ v3 hm=>s2 hm λ _ _ hm=>si hm (λ _ hm=>by cases hm;exact re) λ _ hm=>s2 hm λ _ _ hm=>sn hm λ _ hm=>sq hm PN λ v4 hm=>by cases hm;exact re
variable {s_:List Int}
theorem Gu {r:List bL×List Bool} (hm:xY l_ s_ r):S 176 [bA l_,aC s_] [] (.kH [rT r.1,aX r.2]) [] :=spc [10,21] Tryz.func176 rfl<|VQ [10,21] hm (λ g1=>⟨[(1,aC s_),(6,.eF 0 0 g1.2.1.length false),(7,.eF 1 0 g1.2.2.length false),(14,bA l_),(15,iV (l_.length:Int)),(16,iV g1.1)],[(0,some (.row 2 g1.2.1.length (bP qE dS g1.2.1))),(1,some (.row 1 g1.2.2.length (bP AV.bool false g1.2.2)))],2⟩) [(0,none),(1,none)] [] <|λ aj g1 hm=>si hm (λ _ hm=>sn hm λ _ hm=>ck [10,21] (oU l_ s_ g1 aj) r (λ g6=>⟨[(1,aC s_),(6,.eF 0 0 g1.2.1.length false),(7,.eF 1 0 g1.2.2.length false),(8,iV g1.1),(9,.ptr 2 0 0),(10,.ptr 3 0 0),(11,.bool g6.1),(14,bA l_),(15,iV (l_.length:Int)),(16,iV g1.1)],[(0,some (.row 2 g1.2.1.length (bP qE dS g1.2.1))),(1,some (.row 1 g1.2.2.length (bP AV.bool false g1.2.2))),(2,some (.box [iV ((l_.getD g1.1.toNat aK).gq),aC ((l_.getD g1.1.toNat aK).aP),aC ((l_.getD g1.1.toNat aK).aN),iV ((l_.getD g1.1.toNat aK).Low),iV ((l_.getD g1.1.toNat aK).fP)])),(3,some (.box [iV g6.2.1,iV g6.2.2]))],4⟩) (sn hm λ _ hm=>sq hm Vr λ v18 hm=>si hm (λ _ hm=>s2 hm λ _ _ hm=>lc [(2,some 34),(3,some 66)] [] hm) λ _ hm=>lc [(2,some 34),(3,some 66)] [] hm) λ g6 hm=>s2 hm λ _ _ hm=>ck [10,21] (jo g1 aj) r (λ g7=>⟨[(1,aC s_),(6,.eF 0 0 g1.2.1.length false),(7,.eF 1 0 g1.2.2.length false),(10,.ptr 2 0 0),(11,.bool g7.1),(14,bA l_),(15,iV (l_.length:Int)),(16,iV g1.1)],[(0,some (.row 2 g1.2.1.length (bP qE dS g1.2.1))),(1,some (.row 1 g1.2.2.length (bP AV.bool false g1.2.2))),(2,some (.box [iV g7.2.1,iV g7.2.2]))],3⟩) (si hm (λ _ hm=>lc [(2,some 3)] [] hm) λ _ hm=>si hm (λ _ hm=>sq hm YQ λ v16 hm=>lc [(2,some 3)] [] hm) λ _ hm=>si hm (λ _ hm=>sq hm Xf λ v17 hm=>lc [(2,some 3)] [] hm) λ _ hm=>si hm (λ _ hm=>si hm (λ _ hm=>lc [(2,some 3)] [] hm) λ _ hm=>lc [(2,some 3)] [] hm) λ _ hm=>lc [(2,some 3)] [] hm) λ g7 hm=>s2 hm λ _ _ hm=>sn hm λ _ hm=>lc [(0,some 27),(1,some 59)] [] hm) λ _ hm=>by cases hm;exact rt [0,1] []
theorem yN {C9:Int} {oP:Int} (hm:tJ r_ C9 oP r):S 177 [qE r_,iV C9,iV oP] [] (.bool r) [] :=sp Tryz.func177 rfl<|sq hm tZ λ v1 hm=>si hm (λ _ hm=>by cases hm;exact re) λ _ hm=>s2 hm λ _ _ hm=>by cases hm;exact re
theorem PO {r_:List bL} {rz:List Bool} (hm:II l_ r_ rz r):S 178 [bA l_,rT r_,aX rz] [] (.bool r) [] :=sp Tryz.func178 rfl<|l0 hm (λ g1=>⟨[(1,rT r_),(2,aX rz),(9,bA l_),(10,iV (l_.length:Int)),(11,iV g1)],[],0⟩) <|λ aj g1 hm=>si hm (λ _ hm=>s2 hm λ _ _ hm=>sn hm λ _ hm=>sb hm λ v3 hv3 hm=>cl (λ q0=>(yN (hv3 q0)))<|si hm (λ _ hm=>by cases hm;exact re) λ _ hm=>sn hm λ _ hm=>le hm) λ _ hm=>by cases hm;exact re
theorem YR (hm:Ke l_ s_ m_ r):S 162 [bA l_,aC s_,fA m_] [] (.bool r) [] :=sp Tryz.func162 rfl<|sq hm Gu λ v1 hm=>l0 hm (λ g1=>⟨[(0,bA l_),(7,rT v1.1),(8,aX v1.2),(17,fA m_),(18,iV (m_.length:Int)),(19,iV g1)],[],0⟩) <|λ aj g1 hm=>si hm (λ _ hm=>s2 hm λ _ _ hm=>sn hm λ _ hm=>sb hm λ v4 hv4 hm=>cl (λ q0=>(yN (hv4 q0)))<|si hm (λ _ hm=>by cases hm;exact re) λ _ hm=>sn hm λ _ hm=>le hm) λ _ hm=>sq hm PO λ v5 hm=>by cases hm;exact re
theorem YS {r:List Int×Bool} (hm:Kg l_ s_ r):S 163 [bA l_,aC s_] [] (.kH [aC r.1,.bool r.2]) [] :=spc [6] Tryz.func163 rfl<|s2 hm λ _ _ hm=>VQ [6] hm (λ g1=>⟨[(0,bA l_),(6,.eF 0 0 g1.2.length false),(7,iV g1.1)],[(0,some (.row 1 g1.2.length (bP iV 0 g1.2)))],1⟩) [(0,some 32)] [] <|λ aj g1 hm=>si hm (λ _ hm=>ck [6] (GQ l_ g1 aj) r (λ g4=>⟨[(0,bA l_),(6,.eF 0 0 g4.length false),(7,iV g1.1)],[(0,some (.row 1 g4.length (bP iV 0 g4)))],1⟩) (s2 hm λ _ _ hm=>sn hm λ _ hm=>le hm) λ g4 hm=>s2 hm λ _ _ hm=>si hm (λ _ hm=>by cases hm;exact rt [0] []) λ _ hm=>s2 hm λ _ _ hm=>le hm) λ _ hm=>by cases hm;exact re
theorem abb {r:(List (List Int))} (hm:Qq l_ m_ r):S 114 [bA l_,fA m_] [] (zD r) [] :=spc [4,6] Tryz.func114 rfl<|sn hm λ _ hm=>VQ [4,6] hm (λ g1=>⟨[(0,bA l_),(1,fA m_),(5,.eF 0 0 g1.2.2.length false),(6,aC g1.1),(7,.bool g1.2.1)],[(0,some (.row 1 g1.2.2.length (bP aC [] g1.2.2)))],1⟩) [(0,none)] [32] <|λ aj g1 hm=>ck [4,6] (Kh l_ m_ g1 aj) r (λ g6=>⟨[(0,bA l_),(1,fA m_),(5,.eF 0 0 g1.2.2.length false),(6,aC g1.1)],[(0,some (.row 1 g1.2.2.length (bP aC [] g1.2.2)))],1⟩) (si hm (λ _ hm=>le hm) λ _ hm=>by cases hm;exact rt [0] []) λ g6 hm=>ck [4,6] (xZ l_ g1 aj) r (λ g7=>⟨[(0,bA l_),(1,fA m_),(5,.eF 0 0 g7.length false),(6,aC g1.1)],[(0,some (.row 1 g7.length (bP aC [] g7)))],1⟩) (sq hm YR λ v9 hm=>si hm (λ _ hm=>sn hm λ _ hm=>lc [(0,some 57)] [] hm) λ _ hm=>le hm) λ g7 hm=>sq hm YS λ v8 hm=>le hm
theorem Ju {r:List Int×Int} (hm:Bc l_ m_ r):S 65 [bA l_,fA m_] [] (.kH [aC r.1,iV r.2]) [] :=sp Tryz.func65 rfl<|sq hm Xe λ v1 hm=>si hm (λ _ hm=>by cases hm;exact re) λ _ hm=>sq hm abb λ v2 hm=>si hm (λ _ hm=>by cases hm;exact re) λ _ hm=>sn hm λ _ hm=>by cases hm;exact re
variable {d_:List bf}
theorem Jv {l_:List ay} (hm:Bd l_ d_ r):S 164 [aV l_,fO d_] [] (.bool r) [] :=sp Tryz.func164 rfl<|sq hm tY λ v1 hm=>si hm (λ _ hm=>by cases hm;exact re) λ _ hm=>l0 hm (λ g1=>⟨[(0,aV l_),(15,fO d_),(16,iV (d_.length:Int)),(17,iV g1)],[],0⟩) <|λ aj g1 hm=>si hm (λ _ hm=>s2 hm λ _ _ hm=>sq hm kV λ v8 hm=>sb hm λ v9 Wx hm=>cl (λ q0=>(kV (Wx q0)))<|sb hm λ v10 Ji hm=>cl (λ q0=>(kV (Ji q0)))<|si hm (λ _ hm=>by cases hm;exact re) λ _ hm=>sn hm λ _ hm=>le hm) λ _ hm=>by cases hm;exact re
theorem Xg {l_:List ay} {r:Int} (hm:F7 l_ d_ r):S 115 [aV l_,fO d_] [] (iV r) [] :=sp Tryz.func115 rfl<|sq hm tY λ v1 hm=>si hm (λ _ hm=>by cases hm;exact re) λ _ hm=>sq hm Jv λ v2 hm=>si hm (λ _ hm=>by cases hm;exact re) λ _ hm=>by cases hm;exact re
theorem Mv {l_:List ay} {r:List Bool} (hm:Es l_ d_ r):S 116 [aV l_,fO d_] [] (aX r) [] :=sp Tryz.func116 rfl<|s2 hm λ _ _ hm=>lf hm (λ g1=>⟨[(0,aV l_),(1,fO d_),(5,.eF 0 0 g1.2.length false),(6,iV g1.1)],[(0,some (.row 1 g1.2.length (bP AV.bool false g1.2)))],1⟩) [(0,some 24)] [] <|λ aj g1 hm=>si hm (λ _ hm=>s2 hm λ _ _ hm=>sn hm λ _ hm=>l0 hm (λ g4=>⟨[(0,aV l_),(1,fO d_),(5,.eF 0 0 g4.2.length false),(6,iV g1.1),(34,fO d_),(35,iV (d_.length:Int)),(36,iV g4.1)],[(0,some (.row 1 g4.2.length (bP AV.bool false g4.2)))],1⟩) <|λ jq g4 hm=>si hm (λ _ hm=>s2 hm λ _ _ hm=>s2 hm λ _ _ hm=>le hm) λ _ hm=>s2 hm λ _ _ hm=>si hm (λ _ hm=>s2 hm λ _ _ hm=>le hm) λ _ hm=>sn hm λ _ hm=>le hm) λ _ hm=>by cases hm;exact rt [0] []
theorem Xh {s_:ay} {v_:Int} {r:Int} (hm:F8 s_ v_ r):S 117 [CX s_,iV v_] [] (iV r) [] :=sp Tryz.func117 rfl<|l0 hm (λ g1=>⟨[(1,iV v_),(8,aC s_.bK),(9,iV (s_.bK.length:Int)),(10,iV g1)],[],0⟩) <|λ aj g1 hm=>si hm (λ _ hm=>sn hm λ _ hm=>si hm (λ _ hm=>by cases hm;exact re) λ _ hm=>sn hm λ _ hm=>le hm) λ _ hm=>by cases hm;exact re
theorem uf {l_:List ay} {r_:cu} {r:Int} (hm:sJ l_ r_ k_ r):S 118 [aV l_,BG r_,iV k_] [] (iV r) [] :=sp Tryz.func118 rfl<|s2 hm λ _ _ hm=>sn hm λ _ hm=>by cases hm;exact re
theorem Xi {l_:List ay} {r:List Int} (hm:F9 l_ d_ r):S 165 [aV l_,fO d_] [] (aC r) [] :=sp Tryz.func165 rfl<|s2 hm λ _ _ hm=>lf hm (λ g1=>⟨[(0,aV l_),(1,fO d_),(5,.eF 0 0 g1.2.length false),(6,iV g1.1)],[(0,some (.row 1 g1.2.length (bP iV 0 g1.2)))],1⟩) [(0,some 24)] [] <|λ aj g1 hm=>si hm (λ _ hm=>l0 hm (λ g4=>⟨[(0,aV l_),(1,fO d_),(5,.eF 0 0 g4.2.length false),(6,iV g1.1),(20,fO d_),(21,iV (d_.length:Int)),(22,iV g4.1)],[(0,some (.row 1 g4.2.length (bP iV 0 g4.2)))],1⟩) <|λ jq g4 hm=>si hm (λ _ hm=>sn hm λ _ hm=>si hm (λ _ hm=>s2 hm λ _ _ hm=>s2 hm λ _ _ hm=>le hm) λ _ hm=>sn hm λ _ hm=>le hm) λ _ hm=>sn hm λ _ hm=>si hm (λ _ hm=>s2 hm λ _ _ hm=>s2 hm λ _ _ hm=>sn hm λ _ hm=>le hm) λ _ hm=>sn hm λ _ hm=>le hm) λ _ hm=>by cases hm;exact rt [0] []
theorem Jw {l_:List ay} {r_:cu} (hm:Bf l_ r_ d_ r):S 119 [aV l_,BG r_,fO d_] [] (.bool r) [] :=sp Tryz.func119 rfl<|sq hm Mv λ v1 hm=>sq hm Xi λ v2 hm=>l0 hm (λ g1=>⟨[(0,aV l_),(2,fO d_),(4,.ptr 0 0 0),(7,aX v1),(8,aC v2),(19,aV l_),(20,iV (l_.length:Int)),(21,iV g1)],[(0,some (.box [aX r_.On,aC r_.dQ]))],1⟩) <|λ aj g1 hm=>si hm (λ _ hm=>s2 hm λ _ _ hm=>sn hm λ _ hm=>si hm (λ _ hm=>by cases hm;exact re) λ _ hm=>sn hm λ _ hm=>si hm (λ _ hm=>sn hm λ _ hm=>le hm) λ _ hm=>s2 hm λ _ _ hm=>sb hm λ v7 hv7 hm=>cl (λ q0 q1 q2=>(uf (hv7 q0 q1 q2)))<|sb hm λ v8 vU hm=>cl (λ q0 q1 q2=>(uf (vU q0 q1 q2)))<|sn hm λ _ hm=>si hm (λ _ hm=>by cases hm;exact re) λ _ hm=>sn hm λ _ hm=>le hm) λ _ hm=>l0 hm (λ g2=>⟨[(0,aV l_),(4,.ptr 0 0 0),(81,fO d_),(82,iV (d_.length:Int)),(83,iV g2)],[(0,some (.box [aX r_.On,aC r_.dQ]))],1⟩) <|λ dK g2 hm=>si hm (λ _ hm=>sn hm λ _ hm=>sq hm uf λ v13 hm=>sq hm kV λ v14 hm=>si hm (λ _ hm=>by cases hm;exact re) λ _ hm=>sn hm λ _ hm=>le hm) λ _ hm=>by cases hm;exact re
theorem Jy {l_:List ay} {r:cu×Int} (hm:Bg l_ d_ r):S 66 [aV l_,fO d_] [] (.kH [BG r.1,iV r.2]) [] :=spc [17] Tryz.func66 rfl<|sq hm Xg λ v1 hm=>si hm (λ _ hm=>by cases hm;exact re) λ _ hm=>sq hm Mv λ v2 hm=>s2 hm λ _ _ hm=>VQ [17] hm (λ g1=>⟨[(0,aV l_),(1,fO d_),(4,.ptr 0 0 0),(7,aX v2),(8,.ptr 1 0 0),(9,.eF 2 0 g1.2.1.length false),(32,fO d_),(33,iV (d_.length:Int)),(34,iV g1.1)],[(0,some (.box [.sl 0 0 true fJ,.sl 0 0 true fJ])),(1,some (.box [aX v2,.eF 3 0 g1.2.2.length false])),(2,some (.row 1 g1.2.1.length (bP iV 0 g1.2.1))),(3,some (.row 1 g1.2.2.length (bP iV 0 g1.2.2)))],4⟩) [(1,some 136),(2,some 168),(3,some 120)] [] <|λ aj g1 hm=>si hm (λ _ hm=>s2 hm λ _ _ hm=>s2 hm λ _ _ hm=>le hm) λ _ hm=>sn hm λ _ hm=>VQ [17] hm (λ g2=>⟨[(0,aV l_),(1,fO d_),(4,.ptr 0 0 0),(7,aX v2),(8,.ptr 1 0 0),(9,.eF 2 0 g2.2.1.length false),(12,iV g2.1)],[(0,some (.box [.sl 0 0 true fJ,.sl 0 0 true fJ])),(1,some (.box [aX v2,.eF 3 0 g2.2.2.length false])),(2,some (.row 1 g2.2.1.length (bP iV 0 g2.2.1))),(3,some (.row 1 g2.2.2.length (bP iV 0 g2.2.2)))],4⟩) [] [] <|λ dK g2 hm=>si hm (λ _ hm=>sn hm λ _ hm=>si hm (λ _ hm=>sn hm λ _ hm=>le hm) λ _ hm=>ck [17] (BO l_ v2 g2 dK) r (λ g5=>⟨[(0,aV l_),(1,fO d_),(4,.ptr 0 0 0),(7,aX v2),(8,.ptr 1 0 0),(9,.eF 2 0 g2.2.1.length false),(12,iV g2.1)],[(0,some (.box [.sl 0 0 true fJ,.sl 0 0 true fJ])),(1,some (.box [aX v2,.eF 3 0 g5.length false])),(2,some (.row 1 g2.2.1.length (bP iV 0 g2.2.1))),(3,some (.row 1 g5.length (bP iV 0 g5)))],4⟩) (s2 hm λ _ _ hm=>sq hm Xh λ v11 hm=>sn hm λ _ hm=>le hm) λ g5 hm=>sn hm λ _ hm=>si hm (λ _ hm=>by cases hm;exact re) λ _ hm=>sn hm λ _ hm=>si hm (λ _ hm=>sn hm λ _ hm=>sq hm uf λ v10 hm=>s2 hm λ _ _ hm=>s2 hm λ _ _ hm=>le hm) λ _ hm=>sn hm λ _ hm=>le hm) λ _ hm=>sq hm Jw λ v12 hm=>si hm (λ _ hm=>by cases hm;exact re) λ _ hm=>by cases hm;exact rt [3] []
end Go.Proofs.YtccjmcmolnbiiaaGreatDoor
namespace Go.Proofs.YtccjmcmolnbiiaaGreatDoor
open Go.Ab
theorem ozz {p:Prop} (h:p:=by first | omega | (simp [iw]; done) | (simp [iw,TY]; done) | (simp [iw]; omega) | (simp [iw,TY]; omega)):p:=h
end Go.Proofs.YtccjmcmolnbiiaaGreatDoor
namespace Go.Proofs.YtccjmcmolnbiiaaGreatDoor
open Go.Ab
set_option maxRecDepth 100000
set_option maxHeartbeats 20000000
theorem Gv {l_:List eG} {eT:List Int} {r:List Bool×Int} (hm:x9 l_ eT r):S 40 [dA l_,aC eT] [] (.kH [aX r.1,iV r.2]) [] :=sp Tryz.func40 rfl<|sq hm zX λ v1 hm=>si hm (λ _ hm=>by cases hm;exact re) λ _ hm=>sn hm λ _ hm=>lf hm (λ g1=>⟨[(0,dA l_),(1,aC eT),(6,.eF 0 0 g1.2.length false),(7,iV g1.1)],[(0,some (.row 1 g1.2.length (bP AV.bool false g1.2)))],1⟩) [(0,some 56)] [] <|λ aj g1 hm=>si hm (λ _ hm=>s2 hm λ _ _ hm=>si hm (λ _ hm=>by cases hm;exact re) λ _ hm=>s2 hm λ _ _ hm=>sn hm λ _ hm=>le hm) λ _ hm=>sn hm λ _ hm=>l0 hm (λ g2=>⟨[(0,dA l_),(6,.eF 0 0 g2.2.length false),(8,iV g2.1)],[(0,some (.row 1 g2.2.length (bP AV.bool false g2.2)))],1⟩) <|λ dK g2 hm=>si hm (λ _ hm=>l0 hm (λ g5=>⟨[(0,dA l_),(6,.eF 0 0 g5.2.length false),(8,iV g2.1),(9,iV g5.1)],[(0,some (.row 1 g5.2.length (bP AV.bool false g5.2)))],1⟩) <|λ ku g5 hm=>s2 hm λ _ _ hm=>si hm (λ _ hm=>s2 hm λ _ _ hm=>s2 hm λ _ _ hm=>le hm) λ _ hm=>sn hm λ _ hm=>le hm) λ _ hm=>by cases hm;exact rt [0] []
theorem abd {l_:List dF} {eP:List Int} {r:Int} (hm:Qr l_ eP r):S 78 [bY l_,aC eP] [] (iV r) [] :=sp Tryz.func78 rfl<|sq hm zY λ v1 hm=>si hm (λ _ hm=>by cases hm;exact re) λ _ hm=>l0 hm (λ g1=>⟨[(0,bY l_),(1,aC eP),(5,iV g1)],[],0⟩) <|λ aj g1 hm=>si hm (λ _ hm=>s2 hm λ _ _ hm=>si hm (λ _ hm=>by cases hm;exact re) λ _ hm=>sn hm λ _ hm=>le hm) λ _ hm=>by cases hm;exact re
theorem R7 {l_:List dF} {eP:List Int} {r:List Bool×Int} (hm:OD l_ eP r):S 41 [bY l_,aC eP] [] (.kH [aX r.1,iV r.2]) [] :=spc [13] Tryz.func41 rfl<|sq hm abd λ v1 hm=>si hm (λ _ hm=>by cases hm;exact re) λ _ hm=>sn hm λ _ hm=>VQ [13] hm (λ g1=>⟨[(0,bY l_),(1,aC eP),(7,.eF 0 0 g1.2.length false),(8,iV g1.1)],[(0,some (.row 1 g1.2.length (bP AV.bool false g1.2)))],1⟩) [(0,some 80)] [] <|λ aj g1 hm=>si hm (λ _ hm=>s2 hm λ _ _ hm=>sn hm λ _ hm=>le hm) λ _ hm=>sn hm λ _ hm=>VQ [13] hm (λ g2=>⟨[(0,bY l_),(7,.eF 0 0 g2.2.length false),(9,iV g2.1)],[(0,some (.row 1 g2.2.length (bP AV.bool false g2.2)))],1⟩) [] [] <|λ dK g2 hm=>si hm (λ _ hm=>ck [13] (Ki l_ g2 dK) r (λ g5=>⟨[(0,bY l_),(7,.eF 0 0 g5.length false),(9,iV g2.1)],[(0,some (.row 1 g5.length (bP AV.bool false g5)))],1⟩) (s2 hm λ _ _ hm=>sn hm λ _ hm=>le hm) λ g5 hm=>s2 hm λ _ _ hm=>si hm (λ _ hm=>s2 hm λ _ _ hm=>sn hm λ _ hm=>le hm) λ _ hm=>sn hm λ _ hm=>le hm) λ _ hm=>by cases hm;exact rt [0] []
variable {r:Bool}
theorem Hl {l_:List Int} {x_:Int} (hm:IL l_ x_ r):S 72 [aC l_,iV x_] [] (.bool r) [] :=sp Tryz.func72 rfl<|l0 hm (λ g1=>⟨[(0,aC l_),(1,iV x_),(5,iV g1)],[],0⟩) <|λ aj g1 hm=>si hm (λ _ hm=>sn hm λ _ hm=>si hm (λ _ hm=>by cases hm;exact re) λ _ hm=>sn hm λ _ hm=>le hm) λ _ hm=>by cases hm;exact re
variable {ah:List Int}
theorem abe {l_:List aR} {r:List aR} (hm:Qs l_ ah r):S 67 [dP l_,aC ah] [] (.eF 0 0 r.length false) [.row 3 r.length (bP pQ bC r)] :=sp Tryz.func67 rfl<|lf hm (λ g1=>⟨[(1,aC ah),(5,.eF 0 0 g1.2.length false),(8,dP l_),(9,iV (l_.length:Int)),(10,iV g1.1)],[(0,some (.row 3 g1.2.length (bP pQ bC g1.2)))],1⟩) [(0,none)] [] <|λ aj g1 hm=>si hm (λ _ hm=>sn hm λ _ hm=>sq hm Hl λ v3 hm=>si hm (λ _ hm=>s2 hm λ _ _ hm=>lc [(0,some 97)] [] hm) λ _ hm=>sn hm λ _ hm=>le hm) λ _ hm=>by cases hm;exact re
variable {b_:aS} {l_:List aJ} {g_:bg}
theorem Xj {r:List Int×List Bool×List Int×List Bool×List Bool×Int×Int×List aR} (hm:Ga b_ l_ ah g_ r):S 27 [jm b_,dO l_,aC ah,jK g_] [] (.kH [.agg [aC r.1,aX r.2.1,aC r.2.2.1,.eF 0 0 r.2.2.2.2.2.2.2.length false,aX r.2.2.2.1,aX r.2.2.2.2.1],iV r.2.2.2.2.2.1,iV r.2.2.2.2.2.2.1]) [.row 3 r.2.2.2.2.2.2.2.length (bP pQ bC r.2.2.2.2.2.2.2)] :=sp Tryz.func27 rfl<|sq hm vG λ v1 hm=>si hm (λ _ hm=>by cases hm;exact rt [] [(0,none)]) λ _ hm=>sq hm qx λ v2 hm=>si hm (λ _ hm=>by cases hm;exact rt [] [(0,none)]) λ _ hm=>sq hm Vq λ v3 hm=>sq hm Xd λ v4 hm=>sb hm λ v5 hv5 hm=>cl (λ q0=>(Bt (hv5 q0)))<|si hm (λ _ hm=>by cases hm;exact rt [] [(0,none)]) λ _ hm=>sq hm Ju λ v6 hm=>si hm (λ _ hm=>by cases hm;exact rt [] [(0,none)]) λ _ hm=>sq hm Jy λ v7 hm=>si hm (λ _ hm=>by cases hm;exact rt [] [(0,none)]) λ _ hm=>lf hm (λ g1=>⟨[(1,dO l_),(2,aC ah),(4,.ptr 0 0 0),(7,.ptr 1 0 0),(8,.ptr 2 0 0),(14,aC v6.1),(16,.ptr 3 0 0),(17,.eF 4 0 g1.2.1.length false),(18,.eF 5 0 g1.2.2.length false),(78,aC ah),(79,iV (ah.length:Int)),(80,iV g1.1)],[(0,some (.box [bA b_.bS,aV b_.bG,iV b_.aT.bQ,bD b_.aT.aD,dA b_.bq,bY b_.cO])),(1,some (.box [aC g_.dG,aX g_.fC.On,aC g_.fC.dQ,dP g_.bZ,aX g_.d9,aX g_.fB])),(2,some (.box [.sl 0 0 true fJ,.sl 0 0 true fJ,.sl 0 0 true fJ,.sl 0 0 true fJ,.sl 0 0 true fJ,.sl 0 0 true fJ])),(3,some (.box [aX v7.1.On,aC v7.1.dQ])),(4,some (.row 1 g1.2.1.length (bP iV 0 g1.2.1))),(5,some (.row 1 g1.2.2.length (bP iV 0 g1.2.2)))],6⟩) [(1,some 8),(2,some 16),(3,some 440),(4,none),(5,none)] [] <|λ aj g1 hm=>si hm (λ _ hm=>s2 hm λ _ _ hm=>s2 hm λ _ _ hm=>si hm (λ _ hm=>s2 hm λ _ _ hm=>sn hm λ _ hm=>lc [(4,some 86),(5,some 206)] [] hm) λ _ hm=>sn hm λ _ hm=>lc [(4,some 86)] [] hm) λ _ hm=>sq hm Gv λ v8 hm=>sq hm R7 λ v9 hm=>sq hm abe λ v10 hm=>by cases hm;exact rt [] [(0,some 198)]
theorem Mw {r:bg×Int} (hm:Et b_ r):S 12 [jm b_] [] (.kH [jK r.1,iV r.2]) [] :=sp Tryz.func12 rfl<|sb hm λ v1 hv1 hm=>cl ((Xj hv1).le ⟨.refl _,(.sl rfl (λ h=>absurd rfl h) nofun (λ _ h=>absurd h (Nat.not_lt_zero _))),(.sl rfl (λ h=>absurd rfl h) nofun (λ _ h=>absurd h (Nat.not_lt_zero _))),(Le.Sl ⟨(.sl rfl (λ h=>absurd rfl h) nofun (λ _ h=>absurd h (Nat.not_lt_zero _))),(.sl rfl (λ h=>absurd rfl h) nofun (λ _ h=>absurd h (Nat.not_lt_zero _))),(.sl rfl (λ h=>absurd rfl h) nofun (λ _ h=>absurd h (Nat.not_lt_zero _))),(.sl rfl (λ h=>absurd rfl h) nofun (λ _ h=>absurd h (Nat.not_lt_zero _))),(.sl rfl (λ h=>absurd rfl h) nofun (λ _ h=>absurd h (Nat.not_lt_zero _))),(.sl rfl (λ h=>absurd rfl h) nofun (λ _ h=>absurd h (Nat.not_lt_zero _))),trivial⟩),trivial⟩ trivial)<|by cases hm;exact rt [40] []
theorem Vs (hm:Dr b_ l_ g_ r):S 121 [jm b_,dO l_,jK g_] [] (.bool r) [] :=sp Tryz.func121 rfl<|si hm (λ _ hm=>by cases hm;exact re) λ _ hm=>lf hm (λ g1=>⟨[(1,dO l_),(3,.ptr 0 0 0),(5,.ptr 1 0 0),(7,iV g1)],[(0,some (.box [bA b_.bS,aV b_.bG,iV b_.aT.bQ,bD b_.aT.aD,dA b_.bq,bY b_.cO])),(1,some (.box [aC g_.dG,aX g_.fC.On,aC g_.fC.dQ,dP g_.bZ,aX g_.d9,aX g_.fB]))],2⟩) [(1,some 8)] [] <|λ aj g1 hm=>si hm (λ _ hm=>s2 hm λ _ _ hm=>sn hm λ _ hm=>si hm (λ _ hm=>by cases hm;exact re) λ _ hm=>sn hm λ _ hm=>le hm) λ _ hm=>lf hm (λ g2=>⟨[(1,dO l_),(5,.ptr 0 0 0),(8,iV g2)],[(0,some (.box [aC g_.dG,aX g_.fC.On,aC g_.fC.dQ,dP g_.bZ,aX g_.d9,aX g_.fB]))],1⟩) [(0,some 1)] [] <|λ dK g2 hm=>si hm (λ _ hm=>s2 hm λ _ _ hm=>si hm (λ _ hm=>by cases hm;exact re) λ _ hm=>sn hm λ _ hm=>le hm) λ _ hm=>by cases hm;exact re
theorem TG {l_:List aI} {s_:List Int} (hm:Aj l_ s_ r):S 175 [bA l_,aC s_] [] (.bool r) [] :=sp Tryz.func175 rfl<|sq hm tX λ v1 hm=>si hm (λ _ hm=>by cases hm;exact re) λ _ hm=>l0 hm (λ g1=>⟨[(1,aC s_),(17,bA l_),(18,iV (l_.length:Int)),(19,iV g1)],[],0⟩) <|λ aj g1 hm=>si hm (λ _ hm=>s2 hm λ _ _ hm=>sn hm λ _ hm=>si hm (λ _ hm=>by cases hm;exact re) λ _ hm=>sn hm λ _ hm=>le hm) λ _ hm=>by cases hm;exact re
theorem Jz {l_:List aI} {s_:List Int} {m_:List bN} (hm:Bh l_ s_ m_ r):S 122 [bA l_,aC s_,fA m_] [] (.bool r) [] :=sp Tryz.func122 rfl<|sq hm TG λ v1 hm=>sb hm λ v2 hv2 hm=>cl (λ q0=>(Gs (hv2 q0)))<|si hm (λ _ hm=>by cases hm;exact re) λ _ hm=>sq hm Gu λ v3 hm=>l0 hm (λ g1=>⟨[(0,bA l_),(7,rT v3.1),(8,aX v3.2),(27,fA m_),(28,iV (m_.length:Int)),(29,iV g1)],[],0⟩) <|λ aj g1 hm=>si hm (λ _ hm=>s2 hm λ _ _ hm=>sn hm λ _ hm=>sb hm λ v6 hv6 hm=>cl (λ q0=>(yN (hv6 q0)))<|si hm (λ _ hm=>by cases hm;exact re) λ _ hm=>sn hm λ _ hm=>le hm) λ _ hm=>sq hm PO λ v7 hm=>by cases hm;exact re
theorem Vt {x_:aJ} {gU:Bool} (hm:Dt b_ g_ x_ gU r):S 123 [jm b_,jK g_,xA x_,.bool gU] [] (.bool r) [] :=spc [6] Tryz.func123 rfl<|VQ [6] hm (λ g1=>⟨[(3,.bool gU),(4,.ptr 0 0 0),(5,.ptr 1 0 0),(12,fA x_.bU),(13,iV (x_.bU.length:Int)),(14,iV g1)],[(0,some (.box [bA b_.bS,aV b_.bG,iV b_.aT.bQ,bD b_.aT.aD,dA b_.bq,bY b_.cO])),(1,some (.box [aC g_.dG,aX g_.fC.On,aC g_.fC.dQ,dP g_.bZ,aX g_.d9,aX g_.fB]))],2⟩) [(1,some 8)] [] <|λ aj g1 hm=>si hm (λ _ hm=>sn hm λ _ hm=>ck [6] (qJ b_ g_ x_ g1 aj) r (λ g4=>⟨[(3,.bool gU),(4,.ptr 0 0 0),(5,.ptr 1 0 0),(10,.ptr 2 0 0),(12,fA x_.bU),(13,iV (x_.bU.length:Int)),(14,iV g1)],[(0,some (.box [bA b_.bS,aV b_.bG,iV b_.aT.bQ,bD b_.aT.aD,dA b_.bq,bY b_.cO])),(1,some (.box [aC g_.dG,aX g_.fC.On,aC g_.fC.dQ,dP g_.bZ,aX g_.d9,aX g_.fB])),(2,some (.box [iV ((x_.bU.getD g1.toNat dx).eZ),iV g4,iV ((x_.bU.getD g1.toNat dx).fP)]))],3⟩) (si hm (λ _ hm=>lc [(2,some 26)] [] hm) λ _ hm=>lc [(2,some 26)] [] hm) λ g4 hm=>sb hm λ v3 hv3 hm=>cl ((Jz hv3).le ⟨.refl _,.refl _,(.sl rfl (λ _=>rfl) nofun (gM zC dx [(⟨(x_.bU.getD g1.toNat dx).eZ,g4,(x_.bU.getD g1.toNat dx).fP⟩:bN)])),trivial⟩ trivial)<|si hm (λ _ hm=>by cases hm;exact re) λ _ hm=>sn hm λ _ hm=>le hm) λ _ hm=>by cases hm;exact re
theorem Xk {l_:List ay} {r_:cu} (hm:Gb l_ r_ r):S 179 [aV l_,BG r_] [] (.bool r) [] :=sp Tryz.func179 rfl<|sq hm tY λ v1 hm=>si hm (λ _ hm=>by cases hm;exact re) λ _ hm=>l0 hm (λ g1=>⟨[(3,.ptr 0 0 0),(26,aV l_),(27,iV (l_.length:Int)),(28,iV g1)],[(0,some (.box [aX r_.On,aC r_.dQ]))],1⟩) <|λ aj g1 hm=>si hm (λ _ hm=>s2 hm λ _ _ hm=>sn hm λ _ hm=>sq hm kV λ v4 hm=>si hm (λ _ hm=>by cases hm;exact re) λ _ hm=>sn hm λ _ hm=>le hm) λ _ hm=>by cases hm;exact re
theorem Xl {l_:List ay} {r_:cu} {d_:List bf} (hm:Gc l_ r_ d_ r):S 124 [aV l_,BG r_,fO d_] [] (.bool r) [] :=sp Tryz.func124 rfl<|sq hm Jv λ v1 hm=>sb hm λ v2 hv2 hm=>cl (λ q0=>(Xk (hv2 q0)))<|sb hm λ v3 hv3 hm=>cl (λ q0=>(Jw (hv3 q0)))<|by cases hm;exact re
theorem YT {l_:List aR} {r:List ou} (hm:Kj l_ r):S 17 [dP l_] [] (.eF 0 0 r.length false) [.row 2 r.length (bP anO fU r)] :=sp Tryz.func17 rfl<|lf hm (λ g1=>⟨[(0,dP l_),(3,.eF 0 0 g1.2.length false),(4,iV g1.1)],[(0,some (.row 2 g1.2.length (bP anO fU g1.2)))],1⟩) [(0,none)] [] <|λ aj g1 hm=>si hm (λ _ hm=>s2 hm λ _ _ hm=>sn hm λ _ hm=>lc [(0,some 89)] [] hm) λ _ hm=>by cases hm;exact re
variable {p_:bn}
theorem Vu {l_:List ou} {r:List Int×Int} (hm:Du p_ l_ r):S 16 [l9 p_,Rq l_] [] (.kH [aC r.1,iV r.2]) [] :=sp Tryz.func16 rfl<|sq hm zW λ v1 hm=>si hm (λ _ hm=>by cases hm;exact re) λ _ hm=>sn hm λ _ hm=>lf hm (λ g1=>⟨[(1,Rq l_),(2,.ptr 0 0 0),(6,.eF 1 0 g1.2.length false),(7,iV g1.1)],[(0,some (.box [iV p_.bQ,bD p_.aD])),(1,some (.row 1 g1.2.length (bP iV 0 g1.2)))],2⟩) [(1,some 64)] [] <|λ aj g1 hm=>si hm (λ _ hm=>s2 hm λ _ _ hm=>le hm) λ _ hm=>l0 hm (λ g2=>⟨[(1,Rq l_),(2,.ptr 0 0 0),(6,.eF 1 0 g2.2.length false),(8,iV g2.1)],[(0,some (.box [iV p_.bQ,bD p_.aD])),(1,some (.row 1 g2.2.length (bP iV 0 g2.2)))],2⟩) <|λ dK g2 hm=>si hm (λ _ hm=>s2 hm λ _ _ hm=>s2 hm λ _ _ hm=>si hm (λ _ hm=>by cases hm;exact re) λ _ hm=>l0 hm (λ g7=>⟨[(1,Rq l_),(2,.ptr 0 0 0),(6,.eF 1 0 g2.2.length false),(8,iV g2.1),(9,iV ((l_.getD g2.1.toNat fU).cZ)),(10,iV g7)],[(0,some (.box [iV p_.bQ,bD p_.aD])),(1,some (.row 1 g2.2.length (bP iV 0 g2.2)))],2⟩) <|λ oq g7 hm=>si hm (λ _ hm=>sn hm λ _ hm=>si hm (λ _ hm=>by cases hm;exact re) λ _ hm=>sn hm λ _ hm=>le hm) λ _ hm=>sn hm λ _ hm=>l0 hm (λ g8=>⟨[(1,Rq l_),(2,.ptr 0 0 0),(6,.eF 1 0 g8.2.length false),(8,iV g2.1),(9,iV ((l_.getD g2.1.toNat fU).cZ)),(88,aC ((p_.aD.getD (((l_.getD g2.1.toNat fU).cZ).toNat) aH).bQ)),(89,iV ((((p_.aD.getD (((l_.getD g2.1.toNat fU).cZ).toNat) aH).bQ).length:Nat):Int)),(90,iV g8.1)],[(0,some (.box [iV p_.bQ,bD p_.aD])),(1,some (.row 1 g8.2.length (bP iV 0 g8.2)))],2⟩) <|λ aay g8 hm=>si hm (λ _ hm=>s2 hm λ _ _ hm=>si hm (λ _ hm=>by cases hm;exact re) λ _ hm=>s2 hm λ _ _ hm=>le hm) λ _ hm=>sn hm λ _ hm=>le hm) λ _ hm=>by cases hm;exact rt [1] []
variable {aU:Int}
theorem PS {x_:aJ} (hm:vg b_ g_ x_ aU r):S 125 [jm b_,jK g_,xA x_,iV aU] [] (.bool r) [] :=sp Tryz.func125 rfl<|lf hm (λ g1=>⟨[(3,iV aU),(4,.ptr 0 0 0),(5,.ptr 1 0 0),(6,.ptr 2 0 0),(18,gG x_.ak),(19,iV (x_.ak.length:Int)),(20,iV g1)],[(0,some (.box [bA b_.bS,aV b_.bG,iV b_.aT.bQ,bD b_.aT.aD,dA b_.bq,bY b_.cO])),(1,some (.box [aC g_.dG,aX g_.fC.On,aC g_.fC.dQ,dP g_.bZ,aX g_.d9,aX g_.fB])),(2,some (.box [fA x_.bU,fO x_.fF,gG x_.ak,aC x_.bq,iV x_.fT,aC x_.bT]))],3⟩) [(1,some 8),(2,some 16)] [] <|λ aj g1 hm=>si hm (λ _ hm=>sn hm λ _ hm=>l0 hm (λ g6=>⟨[(3,iV aU),(4,.ptr 0 0 0),(5,.ptr 1 0 0),(6,.ptr 2 0 0),(10,.str (x_.ak.getD g1.toNat ByteArray.empty)),(11,iV g6.1),(12,iV (0:Int)),(18,gG x_.ak),(19,iV (x_.ak.length:Int)),(20,iV g1),(25,gG x_.ak),(26,iV (x_.ak.length:Int)),(27,iV g6.2)],[(0,some (.box [bA b_.bS,aV b_.bG,iV b_.aT.bQ,bD b_.aT.aD,dA b_.bq,bY b_.cO])),(1,some (.box [aC g_.dG,aX g_.fC.On,aC g_.fC.dQ,dP g_.bZ,aX g_.d9,aX g_.fB])),(2,some (.box [fA x_.bU,fO x_.fF,gG x_.ak,aC x_.bq,iV x_.fT,aC x_.bT]))],3⟩) <|λ jH g6 hm=>si hm (λ _ hm=>sn hm λ _ hm=>si hm (λ _ hm=>s2 hm λ _ _ hm=>le hm) λ _ hm=>sn hm λ _ hm=>le hm) λ _ hm=>l0 hm (λ g7=>⟨[(3,iV aU),(4,.ptr 0 0 0),(5,.ptr 1 0 0),(6,.ptr 2 0 0),(10,.str (x_.ak.getD g1.toNat ByteArray.empty)),(11,iV g6.1),(12,iV g7.1),(18,gG x_.ak),(19,iV (x_.ak.length:Int)),(20,iV g1),(38,dP g_.bZ),(39,iV (g_.bZ.length:Int)),(40,iV g7.2)],[(0,some (.box [bA b_.bS,aV b_.bG,iV b_.aT.bQ,bD b_.aT.aD,dA b_.bq,bY b_.cO])),(1,some (.box [aC g_.dG,aX g_.fC.On,aC g_.fC.dQ,dP g_.bZ,aX g_.d9,aX g_.fB])),(2,some (.box [fA x_.bU,fO x_.fF,gG x_.ak,aC x_.bq,iV x_.fT,aC x_.bT]))],3⟩) <|λ oq g7 hm=>si hm (λ _ hm=>s2 hm λ _ _ hm=>sn hm λ _ hm=>si hm (λ _ hm=>s2 hm λ _ _ hm=>le hm) λ _ hm=>sn hm λ _ hm=>le hm) λ _ hm=>si hm (λ _ hm=>by cases hm;exact re) λ _ hm=>sn hm λ _ hm=>le hm) λ _ hm=>by cases hm;exact re
theorem Vv {l_:List eG} {dM:List Bool} (hm:Dv l_ dM r):S 126 [dA l_,aX dM] [] (.bool r) [] :=sp Tryz.func126 rfl<|sq hm zX λ v1 hm=>si hm (λ _ hm=>by cases hm;exact re) λ _ hm=>l0 hm (λ g1=>⟨[(0,dA l_),(1,aX dM),(5,iV g1)],[],0⟩) <|λ aj g1 hm=>si hm (λ _ hm=>l0 hm (λ g4=>⟨[(0,dA l_),(1,aX dM),(5,iV g1),(6,iV g4)],[],0⟩) <|λ jq g4 hm=>sn hm λ _ hm=>si hm (λ _ hm=>s2 hm λ _ _ hm=>s2 hm λ _ _ hm=>si hm (λ _ hm=>by cases hm;exact re) λ _ hm=>sn hm λ _ hm=>le hm) λ _ hm=>sn hm λ _ hm=>le hm) λ _ hm=>by cases hm;exact re
theorem Xm {l_:List dF} {rz:List Bool} (hm:Gd l_ rz r):S 127 [bY l_,aX rz] [] (.bool r) [] :=sp Tryz.func127 rfl<|sq hm zY λ v1 hm=>si hm (λ _ hm=>by cases hm;exact re) λ _ hm=>l0 hm (λ g1=>⟨[(0,bY l_),(1,aX rz),(5,iV g1)],[],0⟩) <|λ aj g1 hm=>si hm (λ _ hm=>s2 hm λ _ _ hm=>s2 hm λ _ _ hm=>s2 hm λ _ _ hm=>si hm (λ _ hm=>by cases hm;exact re) λ _ hm=>sn hm λ _ hm=>le hm) λ _ hm=>by cases hm;exact re
theorem Vw {gU:Bool} {r:Int} (hm:Dw b_ l_ ah g_ gU r):S 69 [jm b_,dO l_,aC ah,jK g_,.bool gU] [] (iV r) [] :=sp Tryz.func69 rfl<|sq hm vG λ v1 hm=>sb hm λ v2 hv2 hm=>cl (λ q0=>(qx (hv2 q0)))<|sb hm λ v3 hv3 hm=>cl (λ q0=>(Vs (hv3 q0)))<|si hm (λ _ hm=>by cases hm;exact re) λ _ hm=>sb hm λ v4 hv4 hm=>cl ((Jz hv4).le ⟨.refl _,.refl _,(.sl rfl (λ h=>absurd rfl h) nofun (λ _ h=>absurd h (Nat.not_lt_zero _))),trivial⟩ trivial)<|si hm (λ _ hm=>by cases hm;exact re) λ _ hm=>lf hm (λ g1=>⟨[(1,dO l_),(2,aC ah),(4,.bool gU),(5,.ptr 0 0 0),(8,.ptr 1 0 0),(11,.eF 2 0 g1.2.length false),(48,aC ah),(49,iV (ah.length:Int)),(50,iV g1.1)],[(0,some (.box [bA b_.bS,aV b_.bG,iV b_.aT.bQ,bD b_.aT.aD,dA b_.bq,bY b_.cO])),(1,some (.box [aC g_.dG,aX g_.fC.On,aC g_.fC.dQ,dP g_.bZ,aX g_.d9,aX g_.fB])),(2,some (.row 4 g1.2.length (bP Ic dH g1.2)))],3⟩) [(1,some 8),(2,none)] [] <|λ aj g1 hm=>si hm (λ _ hm=>s2 hm λ _ _ hm=>sq hm Vt λ v7 hm=>si hm (λ _ hm=>by cases hm;exact re) λ _ hm=>s2 hm λ _ _ hm=>sn hm λ _ hm=>lc [(2,some 155)] [] hm) λ _ hm=>sq hm Xl λ v8 hm=>si hm (λ _ hm=>by cases hm;exact re) λ _ hm=>sq hm YT λ v9 hm=>sq hm Vu λ v10 hm=>si hm (λ _ hm=>by cases hm;exact re) λ _ hm=>l0 hm (λ g2=>⟨[(1,dO l_),(2,aC ah),(5,.ptr 0 0 0),(8,.ptr 1 0 0),(89,aC ah),(90,iV (ah.length:Int)),(91,iV g2)],[(0,some (.box [bA b_.bS,aV b_.bG,iV b_.aT.bQ,bD b_.aT.aD,dA b_.bq,bY b_.cO])),(1,some (.box [aC g_.dG,aX g_.fC.On,aC g_.fC.dQ,dP g_.bZ,aX g_.d9,aX g_.fB]))],2⟩) <|λ dK g2 hm=>si hm (λ _ hm=>s2 hm λ _ _ hm=>sq hm PS λ v13 hm=>si hm (λ _ hm=>by cases hm;exact re) λ _ hm=>sn hm λ _ hm=>le hm) λ _ hm=>sq hm Vv λ v14 hm=>si hm (λ _ hm=>by cases hm;exact re) λ _ hm=>l0 hm (λ g3=>⟨[(1,dO l_),(2,aC ah),(5,.ptr 0 0 0),(8,.ptr 1 0 0),(111,aC ah),(112,iV (ah.length:Int)),(113,iV g3)],[(0,some (.box [bA b_.bS,aV b_.bG,iV b_.aT.bQ,bD b_.aT.aD,dA b_.bq,bY b_.cO])),(1,some (.box [aC g_.dG,aX g_.fC.On,aC g_.fC.dQ,dP g_.bZ,aX g_.d9,aX g_.fB]))],2⟩) <|λ jZ g3 hm=>si hm (λ _ hm=>s2 hm λ _ _ hm=>l0 hm (λ g6=>⟨[(1,dO l_),(2,aC ah),(5,.ptr 0 0 0),(8,.ptr 1 0 0),(111,aC ah),(112,iV (ah.length:Int)),(113,iV g3),(121,aC ((l_.getD ((ah.getD g3.toNat 0).toNat) bB).bq)),(122,iV ((((l_.getD ((ah.getD g3.toNat 0).toNat) bB).bq).length:Nat):Int)),(123,iV g6)],[(0,some (.box [bA b_.bS,aV b_.bG,iV b_.aT.bQ,bD b_.aT.aD,dA b_.bq,bY b_.cO])),(1,some (.box [aC g_.dG,aX g_.fC.On,aC g_.fC.dQ,dP g_.bZ,aX g_.d9,aX g_.fB]))],2⟩) <|λ jH g6 hm=>si hm (λ _ hm=>s2 hm λ _ _ hm=>si hm (λ _ hm=>by cases hm;exact re) λ _ hm=>sn hm λ _ hm=>le hm) λ _ hm=>sn hm λ _ hm=>le hm) λ _ hm=>sq hm Xm λ v15 hm=>si hm (λ _ hm=>by cases hm;exact re) λ _ hm=>lf hm (λ g7=>⟨[(1,dO l_),(8,.ptr 0 0 0),(141,aC ah),(142,iV (ah.length:Int)),(143,iV g7)],[(0,some (.box [aC g_.dG,aX g_.fC.On,aC g_.fC.dQ,dP g_.bZ,aX g_.d9,aX g_.fB]))],1⟩) [(0,some 1)] [] <|λ oq g7 hm=>si hm (λ _ hm=>s2 hm λ _ _ hm=>sn hm λ _ hm=>si hm (λ _ hm=>by cases hm;exact re) λ _ hm=>sn hm λ _ hm=>le hm) λ _ hm=>by cases hm;exact re
theorem Xn (hm:OI b_ l_ ah g_ r):S 29 [jm b_,dO l_,aC ah,jK g_] [] (.bool r) [] :=sp Tryz.func29 rfl<|sq hm Vw λ v1 hm=>by cases hm;exact re
theorem Vx {r:Int} (hm:Dx b_ l_ ah g_ aU r):S 71 [jm b_,dO l_,aC ah,jK g_,iV aU] [] (iV r) [] :=sp Tryz.func71 rfl<|sq hm vG λ v1 hm=>si hm (λ _ hm=>by cases hm;exact re) λ _ hm=>sq hm qx λ v2 hm=>si hm (λ _ hm=>by cases hm;exact re) λ _ hm=>sq hm Xn λ v3 hm=>si hm (λ _ hm=>by cases hm;exact re) λ _ hm=>si hm (λ _ hm=>by cases hm;exact re) λ _ hm=>by cases hm;exact re
variable {dD:List Int}
theorem PU {r:List bN} (hm:Mc l_ dD r):S 22 [dO l_,.eF 0 0 dD.length false] [.row 1 dD.length (bP iV 0 dD)] (fA r) [.row 1 dD.length (bP iV 0 dD)] :=sp Tryz.func22 rfl<|lf hm (λ g1=>⟨[(0,dO l_),(5,.eF 1 0 g1.2.length false),(8,.eF 0 0 dD.length false),(9,iV (dD.length:Int)),(10,iV g1.1)],[(0,some (.row 1 dD.length (bP iV 0 dD))),(1,some (.row 3 g1.2.length (bP zC dx g1.2)))],2⟩) [(1,none)] [] <|λ aj g1 hm=>si hm (λ _ hm=>sn hm λ _ hm=>si hm (λ _ hm=>s2 hm λ _ _ hm=>sn hm λ _ hm=>lc [(1,some 146)] [] hm) λ _ hm=>sn hm λ _ hm=>le hm) λ _ hm=>by cases hm;exact rt [1] []
theorem Rf {r:List bf} (hm:OJ l_ dD r):S 24 [dO l_,.eF 0 0 dD.length false] [.row 1 dD.length (bP iV 0 dD)] (fO r) [.row 1 dD.length (bP iV 0 dD)] :=sp Tryz.func24 rfl<|lf hm (λ g1=>⟨[(0,dO l_),(5,.eF 1 0 g1.2.length false),(8,.eF 0 0 dD.length false),(9,iV (dD.length:Int)),(10,iV g1.1)],[(0,some (.row 1 dD.length (bP iV 0 dD))),(1,some (.row 4 g1.2.length (bP Ic dH g1.2)))],2⟩) [(1,none)] [] <|λ aj g1 hm=>si hm (λ _ hm=>sn hm λ _ hm=>si hm (λ _ hm=>s2 hm λ _ _ hm=>sn hm λ _ hm=>lc [(1,some 146)] [] hm) λ _ hm=>sn hm λ _ hm=>le hm) λ _ hm=>by cases hm;exact rt [1] []
theorem Gw {l_:List aR} {r:List aR} (hm:yc l_ dD r):S 67 [dP l_,.eF 0 0 dD.length false] [.row 1 dD.length (bP iV 0 dD)] (.eF 1 0 r.length false) [.row 1 dD.length (bP iV 0 dD),.row 3 r.length (bP pQ bC r)] :=sp Tryz.func67 rfl<|lf hm (λ g1=>⟨[(1,.eF 0 0 dD.length false),(5,.eF 1 0 g1.2.length false),(8,dP l_),(9,iV (l_.length:Int)),(10,iV g1.1)],[(0,some (.row 1 dD.length (bP iV 0 dD))),(1,some (.row 3 g1.2.length (bP pQ bC g1.2)))],2⟩) [(1,none)] [] <|λ aj g1 hm=>si hm (λ _ hm=>sn hm λ _ hm=>sq hm Hl λ v3 hm=>si hm (λ _ hm=>s2 hm λ _ _ hm=>lc [(1,some 98)] [] hm) λ _ hm=>sn hm λ _ hm=>le hm) λ _ hm=>by cases hm;exact re
theorem Rh {r:List Int×List Bool×List Int×List Bool×List Bool×Int×Int×List aR} (hm:yg b_ l_ g_ dD r):S 27 [jm b_,dO l_,.eF 0 0 dD.length false,jK g_] [.row 1 dD.length (bP iV 0 dD)] (.kH [.agg [aC r.1,aX r.2.1,aC r.2.2.1,.eF 1 0 r.2.2.2.2.2.2.2.length false,aX r.2.2.2.1,aX r.2.2.2.2.1],iV r.2.2.2.2.2.1,iV r.2.2.2.2.2.2.1]) [.row 1 dD.length (bP iV 0 dD),.row 3 r.2.2.2.2.2.2.2.length (bP pQ bC r.2.2.2.2.2.2.2)] :=sp Tryz.func27 rfl<|sq hm vG λ v1 hm=>si hm (λ _ hm=>by cases hm;exact rt [] [(1,none)]) λ _ hm=>sq hm qx λ v2 hm=>si hm (λ _ hm=>by cases hm;exact rt [] [(1,none)]) λ _ hm=>sq hm PU λ v3 hm=>sq hm Rf λ v4 hm=>sb hm λ v5 hv5 hm=>cl (λ q0=>(Bt (hv5 q0)))<|si hm (λ _ hm=>by cases hm;exact rt [] [(1,none)]) λ _ hm=>sq hm Ju λ v6 hm=>si hm (λ _ hm=>by cases hm;exact rt [] [(1,none)]) λ _ hm=>sq hm Jy λ v7 hm=>si hm (λ _ hm=>by cases hm;exact rt [] [(1,none)]) λ _ hm=>lf hm (λ g1=>⟨[(1,dO l_),(2,.eF 0 0 dD.length false),(4,.ptr 1 0 0),(7,.ptr 2 0 0),(8,.ptr 3 0 0),(14,aC v6.1),(16,.ptr 4 0 0),(17,.eF 5 0 g1.2.1.length false),(18,.eF 6 0 g1.2.2.length false),(78,.eF 0 0 dD.length false),(79,iV (dD.length:Int)),(80,iV g1.1)],[(0,some (.row 1 dD.length (bP iV 0 dD))),(1,some (.box [bA b_.bS,aV b_.bG,iV b_.aT.bQ,bD b_.aT.aD,dA b_.bq,bY b_.cO])),(2,some (.box [aC g_.dG,aX g_.fC.On,aC g_.fC.dQ,dP g_.bZ,aX g_.d9,aX g_.fB])),(3,some (.box [.sl 0 0 true fJ,.sl 0 0 true fJ,.sl 0 0 true fJ,.sl 0 0 true fJ,.sl 0 0 true fJ,.sl 0 0 true fJ])),(4,some (.box [aX v7.1.On,aC v7.1.dQ])),(5,some (.row 1 g1.2.1.length (bP iV 0 g1.2.1))),(6,some (.row 1 g1.2.2.length (bP iV 0 g1.2.2)))],7⟩) [(2,some 9),(3,some 17),(4,some 441),(5,none),(6,none)] [] <|λ aj g1 hm=>si hm (λ _ hm=>s2 hm λ _ _ hm=>s2 hm λ _ _ hm=>si hm (λ _ hm=>s2 hm λ _ _ hm=>sn hm λ _ hm=>lc [(5,some 87),(6,some 207)] [] hm) λ _ hm=>sn hm λ _ hm=>lc [(5,some 87)] [] hm) λ _ hm=>sq hm Gv λ v8 hm=>sq hm R7 λ v9 hm=>sq hm Gw λ v10 hm=>by cases hm;exact rt [] [(1,some 199)]
theorem Xo {l_:List aR} {r:List ByteArray×List Int} (hm:Gf b_ l_ r):S 73 [jm b_,dP l_] [] (.kH [.eF 0 0 r.1.length false,.eF 1 0 r.2.length false]) [.row 1 r.1.length (bP AV.str ByteArray.empty r.1),.row 1 r.2.length (bP iV 0 r.2)] :=sp Tryz.func73 rfl<|lf hm (λ g1=>⟨[(2,.ptr 0 0 0),(6,.eF 1 0 g1.2.1.length false),(7,.eF 2 0 g1.2.2.length false),(10,dP l_),(11,iV (l_.length:Int)),(12,iV g1.1)],[(0,some (.box [bA b_.bS,aV b_.bG,iV b_.aT.bQ,bD b_.aT.aD,dA b_.bq,bY b_.cO])),(1,some (.row 1 g1.2.1.length (bP AV.str ByteArray.empty g1.2.1))),(2,some (.row 1 g1.2.2.length (bP iV 0 g1.2.2)))],3⟩) [(1,none),(2,none)] [] <|λ aj g1 hm=>si hm (λ _ hm=>s2 hm λ _ _ hm=>s2 hm λ _ _ hm=>s2 hm λ _ _ hm=>lc [(1,some 171),(2,some 227)] [] hm) λ _ hm=>by cases hm;exact rt [] [(0,some 1),(1,some 2)]
theorem Xp {l_:List ByteArray} (hm:OP p_ l_ r):S 180 [l9 p_,gG l_] [] (.bool r) [] :=sp Tryz.func180 rfl<|sq hm zW λ v1 hm=>si hm (λ _ hm=>by cases hm;exact re) λ _ hm=>l0 hm (λ g1=>⟨[(1,gG l_),(5,iV g1)],[],0⟩) <|λ aj g1 hm=>si hm (λ _ hm=>sn hm λ _ hm=>sq hm vF λ v4 hm=>si hm (λ _ hm=>by cases hm;exact re) λ _ hm=>sn hm λ _ hm=>le hm) λ _ hm=>by cases hm;exact re
theorem Ho {g_:dh} {fD:ByteArray} {r:Int} (hm:I5 g_ fD r):S 14 [oN g_,.str fD] [] (iV r) [] :=sp Tryz.func14 rfl<|l0 hm (λ g1=>⟨[(1,.str fD),(2,.ptr 0 0 0),(5,iV g1)],[(0,some (.box [.str g_.wY,aC g_.bQ,gG g_.ak]))],1⟩) <|λ aj g1 hm=>si hm (λ _ hm=>sn hm λ _ hm=>si hm (λ _ hm=>by cases hm;exact re) λ _ hm=>sn hm λ _ hm=>le hm) λ _ hm=>by cases hm;exact re
theorem Xq {a_:List Int} {b_:List Int} (hm:Gg a_ b_ r):S 221 [aC a_,aC b_] [] (.bool r) [] :=sp Tryz.func221 rfl<|l0 hm (λ g1=>⟨[(0,aC a_),(1,aC b_),(5,iV g1.1),(6,iV g1.2)],[],0⟩) <|λ aj g1 hm=>si hm (λ _ hm=>s2 hm λ _ _ hm=>si hm (λ _ hm=>by cases hm;exact re) λ _ hm=>s2 hm λ _ _ hm=>si hm (λ _ hm=>sn hm λ _ hm=>le hm) λ _ hm=>sn hm λ _ hm=>le hm) λ _ hm=>by cases hm;exact re
variable {eY:List Int}
theorem Mx {g_:Int} (hm:Ey p_ eY g_ r):S 183 [l9 p_,aC eY,iV g_] [] (.bool r) [] :=sp Tryz.func183 rfl<|l0 hm (λ g1=>⟨[(1,aC eY),(2,iV g_),(3,.ptr 0 0 0),(7,iV g1)],[(0,some (.box [iV p_.bQ,bD p_.aD]))],1⟩) <|λ aj g1 hm=>si hm (λ _ hm=>s2 hm λ _ _ hm=>s2 hm λ _ _ hm=>sb hm λ v3 hv3 hm=>cl (λ q0=>(Xq (hv3 q0)))<|si hm (λ _ hm=>by cases hm;exact re) λ _ hm=>sn hm λ _ hm=>le hm) λ _ hm=>by cases hm;exact re
theorem YU {l_:List ByteArray} (hm:SK p_ l_ eY r):S 181 [l9 p_,gG l_,aC eY] [] (.bool r) [] :=sp Tryz.func181 rfl<|si hm (λ _ hm=>by cases hm;exact re) λ _ hm=>l0 hm (λ g1=>⟨[(1,gG l_),(2,aC eY),(3,.ptr 0 0 0),(7,iV g1)],[(0,some (.box [iV p_.bQ,bD p_.aD]))],1⟩) <|λ aj g1 hm=>si hm (λ _ hm=>s2 hm λ _ _ hm=>sn hm λ _ hm=>sb hm λ v5 hv5 hm=>cl (λ q0=>(Ho (hv5 q0)))<|sn hm λ _ hm=>sb hm λ v6 hv6 hm=>cl (λ q0=>((Mx (hv6 q0)).le ⟨.refl _,(.sl ozz (λ _=>rfl) nofun (jP (f:=iV) (d:=0) (by first | omega | exact Nat.min_le_left _ _ | exact Nat.le_trans (Nat.min_le_left _ _) om | (simp; omega)))),.refl _,trivial⟩ trivial))<|si hm (λ _ hm=>by cases hm;exact re) λ _ hm=>sn hm λ _ hm=>le hm) λ _ hm=>by cases hm;exact re
theorem abf {l_:List ByteArray} {eu:List Int} {r:Int} (hm:Qt p_ l_ eu r):S 128 [l9 p_,gG l_,aC eu] [] (iV r) [] :=sp Tryz.func128 rfl<|sq hm Xp λ v1 hm=>si hm (λ _ hm=>by cases hm;exact re) λ _ hm=>sq hm YU λ v2 hm=>si hm (λ _ hm=>by cases hm;exact re) λ _ hm=>by cases hm;exact re
theorem Vy {fD:ByteArray} {r:List Int} (hm:Dy p_ fD r):S 182 [l9 p_,.str fD] [] (aC r) [] :=sp Tryz.func182 rfl<|lf hm (λ g1=>⟨[(1,.str fD),(2,.ptr 0 0 0),(5,.eF 1 0 g1.2.length false),(9,iV (p_.aD.length:Int)),(10,iV g1.1)],[(0,some (.box [iV p_.bQ,bD p_.aD])),(1,some (.row 1 g1.2.length (bP iV 0 g1.2)))],2⟩) [(1,none)] [] <|λ aj g1 hm=>si hm (λ _ hm=>sn hm λ _ hm=>sq hm Ho λ v3 hm=>si hm (λ _ hm=>s2 hm λ _ _ hm=>lc [(1,some 114)] [] hm) λ _ hm=>sn hm λ _ hm=>le hm) λ _ hm=>by cases hm;exact rt [1] []
theorem YV:∀(n:Nat) (iQ:bn×List ByteArray×List Int) (r:List Int×Bool),itM oV n iQ r→S 129 [l9 iQ.1,gG iQ.2.1,aC iQ.2.2] [] (.kH [aC r.1,.bool r.2]) [] :=by
 intro n
 induction n with
 | zero=>intro iQ r hm; exact hm.elim
 | succ n ih=>
   intro iQ r hm
   have hm:oV (itM oV n) iQ r:=hm
   generalize itM oV n=BN at hm ih
   refine nW (ct:=[]) iX Tryz.func129 rfl rfl (Nat.le_of_ble_eq_true rfl) dk (Nat.le_of_ble_eq_true rfl) ?_
   (conv=>whnf)
   refine iY hm (λ c1 hm=>?_) (λ c1 hm=>?_)
   · (conv=>whnf)
     refine aZ hm λ h1 hm=>?_
     (conv=>whnf)
     have hm:r=(iQ.2.2,true):=hm
     subst hm
     refine ⟨[72],[],?_⟩
     (conv=>whnf)
     exact ⟨⟨rfl,trivial,trivial⟩,(by (conv=>whnf); exact ⟨(by (conv=>whnf); exact sf),(by (conv=>whnf); exact ⟨(by first | ((conv=>whnf); exact rfl) | exact rfl),trivial⟩)⟩)⟩
   · (conv=>whnf)
     refine aZ hm λ h2 hm=>?_
     (conv=>whnf)
     refine iq hm λ v1 hv1 hm=>?_
     refine ⟨_,_,(Vy hv1),?_⟩
     (conv=>whnf)
     refine wz (ct:=[]) iX dk hm (λ g1=>⟨[(1,gG iQ.2.1),(2,aC iQ.2.2),(3,.ptr 0 0 0),(8,aC v1),(9,iV g1)],[(0,some (.box [iV iQ.1.bQ,bD iQ.1.aD]))],1⟩) [] [] ⟨rfl,⟨sr,sr,r4,sr,r2,trivial⟩,⟨⟨r2,sr,trivial⟩,trivial⟩⟩ ?_
     intro aj g1 hm
     (conv=>whnf)
     refine iY hm (λ c8 hm=>?_) (λ c8 hm=>?_)
     · (conv=>whnf)
       refine aZ hm λ h15 hm=>?_
       (conv=>whnf)
       refine iq hm λ v6 hv6 hm=>?_
       refine ⟨_,_,(Mx hv6),?_⟩
       (conv=>whnf)
       refine iY hm (λ c9 hm=>?_) (λ c9 hm=>?_)
       · (conv=>whnf)
         refine aZ hm λ h16 hm=>?_
         (conv=>whnf)
         exact ⟨(g1+(1:Int)),[],[],hm,⟨rfl,⟨sr,sr,r4,sr,r2,trivial⟩,⟨⟨r2,sr,trivial⟩,trivial⟩⟩⟩
       · (conv=>whnf)
         refine aZ hm λ h17 hm=>?_
         (conv=>whnf)
         refine aZ hm λ h18 hm=>?_
         (conv=>whnf)
         refine aZ hm λ h19 hm=>?_
         (conv=>whnf)
         refine iq hm λ v7 hv7 hm=>?_
         refine ⟨_,_,((ih _ _ hv7).le ⟨.refl _,.refl _,(.sl ozz (λ _=>rfl) nofun (jQ rfl (λ _ _=>.refl _) rfl (gM iV 0 [(v1.getD g1.toNat 0)]))),trivial⟩ trivial),?_⟩
         (conv=>whnf)
         refine iY hm (λ c10 hm=>?_) (λ c10 hm=>?_)
         · (conv=>whnf)
           have hm:r=(v7.1,true):=hm
           subst hm
           refine ⟨[],[],?_⟩
           (conv=>whnf)
           exact ⟨⟨rfl,trivial,trivial⟩,⟨sf,rfl,trivial⟩⟩
         · (conv=>whnf)
           refine aZ hm λ h20 hm=>?_
           (conv=>whnf)
           exact ⟨(g1+(1:Int)),[],[],hm,⟨rfl,⟨sr,sr,r4,sr,r2,trivial⟩,⟨⟨r2,sr,trivial⟩,trivial⟩⟩⟩
     · (conv=>whnf)
       have hm:r=(([]:List Int),false):=hm
       subst hm
       refine ⟨[],[],?_⟩
       (conv=>whnf)
       exact ⟨⟨rfl,trivial,trivial⟩,⟨⟨rfl,(λ h=>absurd rfl h),nofun,(λ _ h=>absurd h (Nat.not_lt_zero _))⟩,rfl,trivial⟩⟩
theorem Vz {l_:List ByteArray} {r:List Int×Bool} (hm:Dz p_ l_ eY r):S 129 [l9 p_,gG l_,aC eY] [] (.kH [aC r.1,.bool r.2]) [] :=by
 obtain ⟨n,hm⟩:=hm
 exact YV n (p_,l_,eY) r hm
theorem VA {l_:List ByteArray} {eu:List Int} {r:List Int×Int} (hm:DC p_ l_ eu r):S 74 [l9 p_,gG l_,aC eu] [] (.kH [aC r.1,iV r.2]) [] :=sp Tryz.func74 rfl<|sq hm abf λ v1 hm=>si hm (λ _ hm=>by cases hm;exact re) λ _ hm=>sq hm Vz λ v2 hm=>si hm (λ _ hm=>by cases hm;exact re) λ _ hm=>by cases hm;exact re
theorem PV {r:bg×Int×Int} (hm:vk b_ l_ g_ aU dD r):S 31 [jm b_,dO l_,.eF 0 0 dD.length false,jK g_,iV aU] [.row 1 dD.length (bP iV 0 dD)] (.kH [jK r.1,iV r.2.1,iV r.2.2]) [.row 1 dD.length (bP iV 0 dD)] :=spc [8,12] Tryz.func31 rfl<|sq hm Vx λ v1 hm=>si hm (λ _ hm=>by cases hm;exact re) λ _ hm=>sq hm Hl λ v2 hm=>si hm (λ _ hm=>by cases hm;exact re) λ _ hm=>s2 hm λ _ _ hm=>ck [8,12] (vS b_ l_ aU) r (λ g1=>⟨[(1,dO l_),(4,iV aU),(5,.ptr 1 0 0),(10,.ptr 2 0 0),(14,.eF 3 0 g1.1.length false),(15,.ptr 4 0 0)],[(0,some (.row 1 dD.length (bP iV 0 dD))),(1,some (.box [bA b_.bS,aV b_.bG,iV b_.aT.bQ,bD b_.aT.aD,dA b_.bq,bY b_.cO])),(2,some (.box [.sl 0 0 true fJ,.sl 0 0 true fJ,.sl 0 0 true fJ,.sl 0 0 true fJ,.sl 0 0 true fJ,.sl 0 0 true fJ])),(3,some (.row 1 g1.1.length (bP iV 0 g1.1))),(4,some (.box [.sl 0 0 true fJ,.sl 0 0 true fJ,.sl 0 0 true fJ,dP g1.2,.sl 0 0 true fJ,.sl 0 0 true fJ]))],5⟩) (sq hm Gw λ v11 hm=>lc [(2,some 17),(3,some 169),(4,some 225)] [209] hm) λ g1 hm=>sb hm λ v4 hv4 hm=>cl ((Rh hv4).le ⟨.refl _,.refl _,.refl _,(Le.Sl ⟨(.sl rfl (λ h=>absurd rfl h) nofun (λ _ h=>absurd h (Nat.not_lt_zero _))),(.sl rfl (λ h=>absurd rfl h) nofun (λ _ h=>absurd h (Nat.not_lt_zero _))),(.sl rfl (λ h=>absurd rfl h) nofun (λ _ h=>absurd h (Nat.not_lt_zero _))),(.refl _),(.sl rfl (λ h=>absurd rfl h) nofun (λ _ h=>absurd h (Nat.not_lt_zero _))),(.sl rfl (λ h=>absurd rfl h) nofun (λ _ h=>absurd h (Nat.not_lt_zero _))),trivial⟩),trivial⟩ ⟨kZ _,trivial⟩)<|si hm (λ _ hm=>by cases hm;exact re) λ _ hm=>ck [8,12] (uw b_ l_ aU v4) r (λ g2=>⟨[(1,dO l_),(4,iV aU),(5,.ptr 1 0 0),(10,.ptr 2 0 0),(16,.ptr 3 0 0),(19,.eF 4 0 g2.2.length false),(20,aC g2.1)],[(0,some (.row 1 dD.length (bP iV 0 dD))),(1,some (.box [bA b_.bS,aV b_.bG,iV b_.aT.bQ,bD b_.aT.aD,dA b_.bq,bY b_.cO])),(2,some (.box [.sl 0 0 true fJ,.sl 0 0 true fJ,.sl 0 0 true fJ,.sl 0 0 true fJ,.sl 0 0 true fJ,.sl 0 0 true fJ])),(3,some (.box [aC v4.1,aX v4.2.1,aC v4.2.2.1,.eF 5 0 v4.2.2.2.2.2.2.2.length false,aX v4.2.2.2.1,aX v4.2.2.2.2.1])),(4,some (.row 1 g2.2.length (bP AV.str ByteArray.empty g2.2))),(5,some (.row 3 v4.2.2.2.2.2.2.2.length (bP pQ bC v4.2.2.2.2.2.2.2)))],6⟩) (sq hm Xo λ v10 hm=>lc [(3,some 77),(4,some 149),(5,some 37)] [150] hm) λ g2 hm=>s2 hm λ _ _ hm=>sb hm λ v6 hv6 hm=>cl ((VA hv6).le ⟨.refl _,(.sl ozz (λ _=>rfl) nofun (jQ rfl (λ _ _=>.refl _) rfl (λ _ _=>.refl _))),.refl _,trivial⟩ trivial)<|si hm (λ _ hm=>by cases hm;exact re) λ _ hm=>sn hm λ _ hm=>VQ [8,12] hm (λ g3=>⟨[(4,iV aU),(5,.ptr 1 0 0),(10,.ptr 2 0 0),(16,.ptr 3 0 0),(20,aC g2.1),(21,aC v6.1),(91,gG ((l_.getD aU.toNat bB).ak)),(92,iV ((((l_.getD aU.toNat bB).ak).length:Nat):Int)),(93,iV g3.1)],[(0,some (.row 1 dD.length (bP iV 0 dD))),(1,some (.box [bA b_.bS,aV b_.bG,iV b_.aT.bQ,bD b_.aT.aD,dA b_.bq,bY b_.cO])),(2,some (.box [.sl 0 0 true fJ,.sl 0 0 true fJ,.sl 0 0 true fJ,.sl 0 0 true fJ,.sl 0 0 true fJ,.sl 0 0 true fJ])),(3,some (.box [aC v4.1,aX v4.2.1,aC v4.2.2.1,.eF 4 0 g3.2.length false,aX v4.2.2.2.1,aX v4.2.2.2.2.1])),(4,some (.row 3 g3.2.length (bP pQ bC g3.2)))],5⟩) [(4,some 5)] [] <|λ jZ g3 hm=>si hm (λ _ hm=>s2 hm λ _ _ hm=>s2 hm λ _ _ hm=>sq hm Ho λ v9 hm=>s2 hm λ _ _ hm=>lc [(4,some 237)] [] hm) λ _ hm=>by cases hm;exact rt [4] []
theorem Xr {dD:dJ} {r:aS×List aJ×List Int×bg×dJ} (hm:Gh dD r):S 11 [.ptr 0 0 0] [.box [aC dD.L,iV dD.At]] (.kH [jm r.1,dO r.2.1,aC r.2.2.1,jK r.2.2.2.1]) [.box [aC r.2.2.2.2.L,iV r.2.2.2.2.At]] :=sp Tryz.func11 rfl<|sq hm PI λ v1 hm=>sq hm KM λ v2 hm=>sq hm Mw λ v3 hm=>lf hm (λ g1=>⟨[(0,.ptr 0 0 0),(2,.ptr 1 0 0),(5,.ptr 2 0 0),(6,.ptr 3 0 0),(7,dO v2.1),(8,.ptr 4 0 0),(9,iV v3.2),(10,.eF 5 0 g1.2.2.2.2.2.2.2.2.2.length false),(26,iV (v2.1.length:Int)),(27,iV g1.1)],[(0,some (.box [aC g1.2.1,iV g1.2.2.1])),(1,some (.box [.sl 0 0 true fJ,.sl 0 0 true fJ,iV (0:Int),.sl 0 0 true fJ,.sl 0 0 true fJ,.sl 0 0 true fJ])),(2,some (.box [.sl 0 0 true fJ,.sl 0 0 true fJ,.sl 0 0 true fJ,.sl 0 0 true fJ,.sl 0 0 true fJ,.sl 0 0 true fJ])),(3,some (.box [bA v1.1.bS,aV v1.1.bG,iV v1.1.aT.bQ,bD v1.1.aT.aD,dA v1.1.bq,bY v1.1.cO])),(4,some (.box [aC g1.2.2.2.1,aX g1.2.2.2.2.1,aC g1.2.2.2.2.2.1,dP g1.2.2.2.2.2.2.1,aX g1.2.2.2.2.2.2.2.1,aX g1.2.2.2.2.2.2.2.2.1])),(5,some (.row 1 g1.2.2.2.2.2.2.2.2.2.length (bP iV 0 g1.2.2.2.2.2.2.2.2.2)))],6⟩) [(2,some 25),(3,some 49),(4,some 137),(5,none)] [] <|λ aj g1 hm=>si hm (λ _ hm=>sq hm PV λ v8 hm=>si hm (λ _ hm=>sq hm cB λ v9 hm=>si hm (λ _ hm=>s2 hm λ _ _ hm=>lc [(5,some 262)] [] hm) λ _ hm=>sn hm λ _ hm=>le hm) λ c8 hm=>by
 refine ⟨(λ q0=>absurd q0 (vac c8)),?_⟩
 (conv=>whnf)
 refine aZ hm λ h14 hm=>?_
 (conv=>whnf)
 refine aZ hm λ h15 hm=>?_
 (conv=>whnf)
 exact ⟨((g1.1+(1:Int)),g1.2.1,g1.2.2.1,g1.2.2.2.1,g1.2.2.2.2.1,g1.2.2.2.2.2.1,g1.2.2.2.2.2.2.1,g1.2.2.2.2.2.2.2.1,g1.2.2.2.2.2.2.2.2.1,g1.2.2.2.2.2.2.2.2.2),[],[],hm,⟨rfl,⟨r4,r4,r4,r4,sr,r4,r2,⟨rfl,rfl,rfl,rfl,nofun⟩,r2,r2,trivial⟩,⟨⟨sf,r2,trivial⟩,⟨sr,sr,r2,sr,sr,sr,trivial⟩,⟨sr,sr,sr,sr,sr,sr,trivial⟩,⟨sr,sr,r2,sr,sr,sr,trivial⟩,⟨sf,sf,sf,sf,sf,sf,trivial⟩,⟨rfl,rfl,(λ _ _=>.refl _)⟩,trivial⟩⟩⟩) λ _ hm=>by cases hm;exact rt [5] []
theorem MB {a_:List Int} {b_:List Int} (hm:Ez a_ b_ r):S 37 [aC a_,aC b_] [] (.bool r) [] :=sp Tryz.func37 rfl<|si hm (λ _ hm=>by cases hm;exact re) λ _ hm=>l0 hm (λ g1=>⟨[(0,aC a_),(1,aC b_),(5,iV g1)],[],0⟩) <|λ aj g1 hm=>si hm (λ _ hm=>s2 hm λ _ _ hm=>si hm (λ _ hm=>by cases hm;exact re) λ _ hm=>sn hm λ _ hm=>le hm) λ _ hm=>by cases hm;exact re
theorem zZ {a_:List Bool} {b_:List Bool} (hm:wL a_ b_ r):S 39 [aX a_,aX b_] [] (.bool r) [] :=sp Tryz.func39 rfl<|si hm (λ _ hm=>by cases hm;exact re) λ _ hm=>l0 hm (λ g1=>⟨[(0,aX a_),(1,aX b_),(5,iV g1)],[],0⟩) <|λ aj g1 hm=>si hm (λ _ hm=>s2 hm λ _ _ hm=>si hm (λ _ hm=>by cases hm;exact re) λ _ hm=>sn hm λ _ hm=>le hm) λ _ hm=>by cases hm;exact re
theorem PW {a_:cu} {b_:cu} (hm:vo a_ b_ r):S 38 [BG a_,BG b_] [] (.bool r) [] :=sp Tryz.func38 rfl<|sq hm zZ λ v1 hm=>sb hm λ v2 hv2 hm=>cl (λ q0=>(MB (hv2 q0)))<|by cases hm;exact re
theorem ET {a_:List aR} {b_:List aR} (hm:uN a_ b_ r):S 36 [dP a_,dP b_] [] (.bool r) [] :=sp Tryz.func36 rfl<|si hm (λ _ hm=>by cases hm;exact re) λ _ hm=>l0 hm (λ g1=>⟨[(0,dP a_),(1,dP b_),(5,iV g1)],[],0⟩) <|λ aj g1 hm=>si hm (λ _ hm=>s2 hm λ _ _ hm=>si hm (λ _ hm=>by cases hm;exact re) λ _ hm=>sn hm λ _ hm=>le hm) λ _ hm=>by cases hm;exact re
theorem MC {a_:bg} {b_:bg} (hm:EA a_ b_ r):S 19 [jK a_,jK b_] [] (.bool r) [] :=sp Tryz.func19 rfl<|sq hm MB λ v1 hm=>sb hm λ v2 hv2 hm=>cl (λ q0=>(PW (hv2 q0)))<|sb hm λ v3 hv3 hm=>cl (λ q0=>(ET (hv3 q0)))<|sb hm λ v4 hv4 hm=>cl (λ q0=>(zZ (hv4 q0)))<|sb hm λ v5 hv5 hm=>cl (λ q0=>(zZ (hv5 q0)))<|by cases hm;exact re
theorem Xt {r:bg×Int×Int} (hm:Gi b_ l_ ah g_ r):S 26 [jm b_,dO l_,aC ah,jK g_] [] (.kH [jK r.1,iV r.2.1,iV r.2.2]) [] :=sp Tryz.func26 rfl<|sq hm Jm λ v1 hm=>si hm (λ _ hm=>by cases hm;exact re) λ _ hm=>sq hm mE λ v2 hm=>by cases hm;exact rt [136] []
theorem PX {r:bg×Int} (hm:vv b_ l_ ah g_ aU r):S 32 [jm b_,dO l_,aC ah,jK g_,iV aU] [] (.kH [jK r.1,iV r.2]) [] :=sp Tryz.func32 rfl<|sq hm rO λ v1 hm=>si hm (λ _ hm=>by cases hm;exact re) λ _ hm=>sq hm fE λ v2 hm=>si hm (λ _ hm=>by cases hm;exact re) λ _ hm=>sq hm kU λ v3 hm=>sq hm mW λ v4 hm=>by
 have h1:=hm.1
 have hm:=hm.2
 refine iq hm λ v5 hv5 hm=>?_
 refine ⟨_,_,((mE hv5).le ⟨.refl _,.refl _,(.sl ozz (λ _=>rfl) nofun (jP (f:=iV) (d:=0) (by first | omega | exact Nat.min_le_left _ _ | exact Nat.le_trans (Nat.min_le_left _ _) om | (simp; omega)))),.refl _,trivial⟩ trivial),?_⟩
 (conv=>whnf)
 have hm:r=((⟨v5.1,(⟨v5.2.1,v5.2.2.1⟩:cu),v5.2.2.2.2.2.2.2,v5.2.2.2.1,v5.2.2.2.2.1⟩:bg),v5.2.2.2.2.2.2.1):=hm
 subst hm
 refine ⟨[224],[],?_⟩
 (conv=>whnf)
 exact ⟨⟨rfl,trivial,trivial⟩,(by (conv=>whnf); exact ⟨(by (conv=>whnf); exact ⟨(by (conv=>whnf); exact sf),(by (conv=>whnf); exact ⟨(by (conv=>whnf); exact sf),(by (conv=>whnf); exact ⟨(by (conv=>whnf); exact sf),(by (conv=>whnf); exact ⟨(by (conv=>whnf); exact sf),(by (conv=>whnf); exact ⟨(by (conv=>whnf); exact sf),(by (conv=>whnf); exact ⟨(by (conv=>whnf); exact sf),trivial⟩)⟩)⟩)⟩)⟩)⟩),(by (conv=>whnf); exact ⟨(by first | ((conv=>whnf); exact r2) | exact r2),trivial⟩)⟩)⟩
theorem TH {l_:List Int} {x_:Int} {r:List Int} (hm:Ak l_ x_ r):S 35 [aC l_,iV x_] [] (aC r) [] :=sp Tryz.func35 rfl<|lf hm (λ g1=>⟨[(0,aC l_),(1,iV x_),(5,.eF 0 0 g1.2.length false),(6,iV g1.1)],[(0,some (.row 1 g1.2.length (bP iV 0 g1.2)))],1⟩) [(0,none)] [] <|λ aj g1 hm=>si hm (λ _ hm=>sn hm λ _ hm=>si hm (λ _ hm=>s2 hm λ _ _ hm=>sn hm λ _ hm=>lc [(0,some 129)] [] hm) λ _ hm=>sn hm λ _ hm=>le hm) λ _ hm=>by cases hm;exact rt [0] []
theorem ab1 {l_:List Int} {x_:Int} (hm:Uz l_ x_ r):S 34 [aC l_,iV x_] [] (.bool r) [] :=sp Tryz.func34 rfl<|l0 hm (λ g1=>⟨[(1,iV x_),(7,aC l_),(8,iV (l_.length:Int)),(9,iV g1)],[],0⟩) <|λ aj g1 hm=>si hm (λ _ hm=>sn hm λ _ hm=>si hm (λ _ hm=>by cases hm;exact re) λ _ hm=>sn hm λ _ hm=>le hm) λ _ hm=>by cases hm;exact re
theorem PY {r:bg×Int} (hm:vw b_ l_ g_ aU dD r):S 32 [jm b_,dO l_,.eF 0 0 dD.length false,jK g_,iV aU] [.row 1 dD.length (bP iV 0 dD)] (.kH [jK r.1,iV r.2]) [.row 1 dD.length (bP iV 0 dD)] :=sp Tryz.func32 rfl<|sq hm rO λ v1 hm=>si hm (λ _ hm=>by cases hm;exact re) λ _ hm=>sq hm fE λ v2 hm=>si hm (λ _ hm=>by cases hm;exact re) λ _ hm=>sq hm zu λ v3 hm=>sq hm mW λ v4 hm=>by
 have h1:=hm.1
 have hm:=hm.2
 refine iq hm λ v5 hv5 hm=>?_
 refine ⟨_,_,((mE hv5).le ⟨.refl _,.refl _,(.sl ozz (λ _=>rfl) nofun (jP (f:=iV) (d:=0) (by first | omega | exact Nat.min_le_left _ _ | exact Nat.le_trans (Nat.min_le_left _ _) om | (simp; omega)))),.refl _,trivial⟩ trivial),?_⟩
 (conv=>whnf)
 have hm:r=((⟨v5.1,(⟨v5.2.1,v5.2.2.1⟩:cu),v5.2.2.2.2.2.2.2,v5.2.2.2.1,v5.2.2.2.2.1⟩:bg),v5.2.2.2.2.2.2.1):=hm
 subst hm
 refine ⟨[225],[],?_⟩
 (conv=>whnf)
 exact ⟨⟨rfl,trivial,⟨⟨rfl,rfl,(λ _ _=>.refl _)⟩,trivial⟩⟩,(by (conv=>whnf); exact ⟨(by (conv=>whnf); exact ⟨(by (conv=>whnf); exact sf),(by (conv=>whnf); exact ⟨(by (conv=>whnf); exact sf),(by (conv=>whnf); exact ⟨(by (conv=>whnf); exact sf),(by (conv=>whnf); exact ⟨(by (conv=>whnf); exact sf),(by (conv=>whnf); exact ⟨(by (conv=>whnf); exact sf),(by (conv=>whnf); exact ⟨(by (conv=>whnf); exact sf),trivial⟩)⟩)⟩)⟩)⟩)⟩),(by (conv=>whnf); exact ⟨(by first | ((conv=>whnf); exact r2) | exact r2),trivial⟩)⟩)⟩
theorem KN {t_:List Int} (hm:yh t_ aU r):S 6 [aC t_,.int .u8 aU] [] (.bool r) [] :=sp Tryz.func6 rfl<|si hm (λ _ hm=>sq hm nI λ v1 hm=>by cases hm;exact re) λ _ hm=>sq hm aa8 λ v2 hm=>sq hm Xr λ v3 hm=>sq hm Mw λ v4 hm=>si hm (λ _ hm=>sq hm nI λ v5 hm=>by cases hm;exact re) λ _ hm=>sq hm oZ λ v6 hm=>si hm (λ _ hm=>by cases hm;exact re) λ _ hm=>sn hm λ _ hm=>sq hm Gr λ v7 hm=>sq hm ab1 λ v8 hm=>si hm (λ _ hm=>sq hm PX λ v9 hm=>si hm (λ _ hm=>sq hm TH λ v10 hm=>sb hm λ v11 ad2 hm=>cl (λ q0=>(oZ (ad2 q0)))<|sb hm λ v12 MR hm=>cl (λ q0=>(nI (MR q0)))<|by cases hm;exact re) λ c5 hm=>by
 refine ⟨.bool false,[],(λ q0=>absurd q0 (vac c5)),?_⟩
 (conv=>whnf)
 refine iq hm λ v13 Yq hm=>?_
 refine ⟨_,_,(λ q0=>(nI (Yq q0))),?_⟩
 (conv=>whnf)
 have hm:r=((((v7.2.2==(5:Int))&&(v9.2==(0:Int)))&&false)&&v13):=hm
 subst hm
 refine ⟨[],[],?_⟩
 (conv=>whnf)
 exact ⟨⟨rfl,trivial,trivial⟩,rfl⟩) λ _ hm=>si hm (λ _ hm=>sb hm λ v14 UD hm=>cl (λ q0=>(nI (UD q0)))<|by cases hm;exact re) λ _ hm=>s2 hm λ _ _ hm=>sb hm λ v15 QN hm=>cl ((PY QN).le ⟨.refl _,.refl _,(by rw [List.length_append]; exact .refl _),.refl _,.refl _,trivial⟩ ⟨⟨rfl,ozz,(jQ rfl (λ _ _=>.refl _) rfl (gM iV 0 [((IntKind.i64.wrap aU).tmod (v3.2.1.length:Int))]))⟩,trivial⟩)<|sq hm Xt λ v16 hm=>sb hm λ v17 an8 hm=>cl ((oZ an8).le ⟨.refl _,.refl _,(.sl ozz (λ _=>rfl) nofun (jP (f:=iV) (d:=0) (by first | omega | exact Nat.min_le_left _ _ | exact Nat.le_trans (Nat.min_le_left _ _) om | (simp; done) | (simp; omega)))),.refl _,trivial⟩ trivial)<|sn hm λ hw hm=>sb hm λ v18 ama hm=>cl (λ q0=>have hu:=hw q0;((ET (ama q0)).le ⟨(.sl ozz (λ _=>rfl) nofun (jP (f:=pQ) (d:=bC) (by first | omega | exact Nat.min_le_left _ _ | exact Nat.le_trans (Nat.min_le_left _ _) om | (simp; done) | (simp; omega)))),.refl _,trivial⟩ trivial))<|sb hm λ v19 amq hm=>cl (λ q0=>(MC (amq q0)))<|sb hm λ v20 aom hm=>cl (λ q0=>(MC (aom q0)))<|sb hm λ v21 aqn hm=>cl (λ q0=>(nI (aqn q0)))<|by cases hm;exact re
end Go.Proofs.YtccjmcmolnbiiaaGreatDoor
namespace Go.Proofs.YtccjmcmolnbiiaaGreatDoor
open Go.Ab
set_option maxRecDepth 100000
variable {l_:List aI}
theorem Xu {s_:List Int} (h1:Good l_ s_):W (sj l_ s_) (λ r=>r=gD l_ s_):=by
 obtain ⟨q1,q2,q3,q4,q5⟩:=h1;unfold sj;refine wn<|bI (λ (g1:Int×List bL)=>0≤g1.1∧g1.1≤l_.length∧g1.2=qW l_ s_ g1.1.toNat++List.replicate (l_.length - g1.1.toNat) dS) (λ (g1:Int×List bL)=>(l_.length - g1.1).toNat) ?_ ?_
 ·intro aj g1 dY bW;obtain ⟨dN,bO,bE⟩:=dY;unfold FM;refine wi ?_ ?_<;>intro c1
  ·have hlt:g1.1.toNat<l_.length:=om; have hch:=q3 _ hlt; have hpar:=q5 _ hlt; have hpc:=q4 _ hlt; have hrl:=sM l_ s_ g1.1.toNat; have hgl:g1.2.length=l_.length:=(by rw [bE,List.length_append,hrl,List.length_replicate]; omega);refine wm<|wn ?_;refine aF (O7 ob ob ob ob) λ v7 hv7=>?_;subst v7;refine bJ ?_ ?_<;>intro c2
   ·have kr:=c2;have c2:=nr c2;refine wm<|bW _ ?_ ?_
    ·(refine ⟨ob,ob,?_⟩; dsimp only; exact qQ bE om (by unfold X4; rw [kr]; rfl))
    ·exact ob
   ·have kr:=c2;have c2:=nr c2;have hget:g1.2.getD (ko (l_.getD g1.1.toNat aK) (s_.getD g1.1.toNat 0)).toNat dS=(qW l_ s_ g1.1.toNat).getD (ko (l_.getD g1.1.toNat aK) (s_.getD g1.1.toNat 0)).toNat dS:=by rw [bE]; exact jO _ om
    refine wn<|bJ ?_ ?_<;>intro c3
    ·have jJ:=c3;have c3:=nr c3;refine wm<|bW _ ?_ ?_
     ·(refine ⟨ob,ob,?_⟩; dsimp only; exact qQ bE om (by unfold X4; rw [kr,← hget,show (nR _||_)=true from jJ]; rfl))
     ·exact ob
    ·have jJ:=c3;have c3:=nr c3;refine bJ ?_ ?_<;>intro c4
     ·have sO:=c4;have c4:=nr c4;refine wn<|aF (X5) λ v8 vU=>?_;subst v8;refine wm<|bW _ ?_ ?_
      ·(refine ⟨ob,ob,?_⟩; dsimp only; exact qQ bE om (by unfold X4; rw [kr,← hget,show (nR _||_)=false from jJ,sO]; rfl))
      ·exact ob
     ·have sO:=c4;have c4:=nr c4;refine bJ ?_ ?_<;>intro c5
      ·have Bu:=c5;have c5:=nr c5;refine wn<|aF (UG) λ v9 Wx=>?_;subst v9;refine wm<|bW _ ?_ ?_
       ·(refine ⟨ob,ob,?_⟩; dsimp only; exact qQ bE om (by unfold X4; rw [kr,← hget,show (nR _||_)=false from jJ,sO,Bu]; rfl))
       ·exact ob
      ·have Bu:=c5;have c5:=nr c5;refine wm<|wn ?_;refine bW _ ?_ ?_
       ·(refine ⟨ob,ob,?_⟩; dsimp only; exact qQ bE om (by unfold X4; rw [kr,← hget,show (nR _||_)=false from jJ,sO,Bu]; rfl))
       ·exact ob
  ·refine av ?_;(rw [bE,show g1.1.toNat=l_.length by omega,Nat.sub_self]; simp [gD])
 ·(refine ⟨ob,ob,?_⟩; simp [qW])
theorem Xv {s_:List Int} (h1:l_.length≤2000000) (h2:s_.length≤2000000) (h3:afz l_):W (xP l_ s_) (λ r=>r=vT l_ s_):=by
 unfold xP;refine aF (wQ (uP ob)) λ v1 hv1=>?_;subst v1;refine bJ ?_ ?_<;>intro c1
 ·have gQ:=c1;have c1:=nr c1;refine av ?_;(unfold vT; rw [gQ]; rfl)
 ·have gQ:=c1;have c1:=nr c1;have hck:eD l_=0:=by simpa using gQ
  refine aF (BP ob ob ob) λ v2 hv2=>?_;subst v2;refine bJ ?_ ?_<;>intro c2
  ·have kr:=c2;have c2:=nr c2;refine av ?_;(unfold vT; rw [gQ,kr]; rfl)
  ·have kr:=c2;have c2:=nr c2;have hgd:=Qu (vB hck) (show l6 l_ s_=true by simpa using kr);refine aF (Xu ob) λ v3 hv3=>?_;subst v3;refine av ?_;(unfold vT; rw [gQ,kr]; rfl)
theorem aqo {x:Int} (h0:0≤x) (h1:x≤4000000):IntKind.i64.wrap (Ht .u64 (IntKind.u64.wrap x) (1:Int))=x / 2:=by
 have e1:IntKind.u64.wrap x=x:=Sp.wrap_u64 ⟨om,om⟩;have e2:Ht .u64 x 1=x / 2:=by
  unfold Ht;rw [show (2:Int) ^ min (1:Int).toNat IntKind.u64.bits=2 from rfl];exact Int.fdiv_eq_ediv_of_nonneg _ om
 rw [e1,e2];exact wrap_i64 ⟨om,om⟩
theorem mul_one {n:Nat} (h:n≤16):Af (IntKind.u64.wrap ((1:Nat):Int)) (IntKind.u64.wrap ((n:Nat):Int)) ((0:Int),(n:Int)):=by
 have key:∀n:Nat,n<17→M.ex 100 (Af (IntKind.u64.wrap ((1:Nat):Int)) (IntKind.u64.wrap ((n:Nat):Int)))=some ((0:Int),(n:Int)):=by decide +kernel
 exact M.alm 100 _ _ (key n om)
def nmH (b:aS) (u:aR):ByteArray:=(b.aT.aD.getD u.jN.cZ.toNat aH).ak.getD u.jN.gL.toNat ByteArray.empty
variable {α:Type} {i:Nat}
theorem mD {β:Type} (f:α→β) (l:List α) (d:α) (h:i<l.length):(l.take (i+1)).map f=(l.take i).map f++[f (l.getD i d)]:=by
 rw [List.take_add_one,List.map_append,List.getElem?_eq_getElem h,List.getD_eq_getElem?_getD,List.getElem?_eq_getElem h];rfl
theorem ab2 {b_:aS} {iJ:List aR} {Ll:List ByteArray} (h1:∀u∈iJ,Jd b_.aT u.jN) (h2:iJ.length≤2000000) (h3:Ll.length≤2000000):W (FU b_ iJ Ll) (λ r=>r=(iJ.map (nmH b_)++Ll,iJ.map λ u=>u.jN.cZ)):=by
 unfold FU;refine bI (λ g1:Int×List ByteArray×List Int=>0≤g1.1∧g1.1≤iJ.length∧g1.2.1=(iJ.take g1.1.toNat).map (nmH b_)∧g1.2.2=(iJ.take g1.1.toNat).map λ u=>u.jN.cZ) (λ g1=>(iJ.length - g1.1).toNat) ?_ ⟨ob,ob,by simp,by simp⟩;intro aj g1 ⟨a1,a2,a3,a4⟩ ih1;have l3:g1.2.1.length=g1.1.toNat:=by rw [a3,List.length_map,List.length_take]; omega
 have l4:g1.2.2.length=g1.1.toNat:=by rw [a4,List.length_map,List.length_take]; omega
 unfold Od;refine wi ?_ ?_<;>intro c
 ·obtain ⟨u1,u2,u3,u4⟩:=h1 _ (getD_in (i:=g1.1.toNat) bC om);refine wn<|aO om ?_;refine aO om ?_;refine aO (by unfold big; omega) ?_;refine aO (by unfold big; omega) ?_;refine wn ?_;have e:(g1.1+1).toNat=g1.1.toNat+1:=by omega
  refine ih1 _ ⟨ob,ob,?_,?_⟩ ob
  ·dsimp only; rw [e,mD _ _ bC om,← a3]; rfl
  ·dsimp only; rw [e,mD _ _ bC om,← a4]
 ·have e:iJ.take g1.1.toNat=iJ:=List.take_of_length_le om;rw [e] at a3 a4;refine aO (by unfold big; omega) ?_;exact av (by rw [a3,a4])
def YW (g:dh) (f:ByteArray):Int:=Yp g.ak λ x=>f.toList==x.toList
theorem yO {s_:List ByteArray} {v_:ByteArray} (h:(s_.length:Int)≤9223372036854775807):W (slices_Index_string s_ v_) (λ r=>r=Yp s_ λ x=>v_.toList==x.toList):=by
 unfold slices_Index_string;exact aly (P:=λ x:ByteArray=>v_.toList==x.toList) (d:=ByteArray.empty) h
theorem Fu {s_:List ByteArray} {v_:ByteArray} (h:(s_.length:Int)≤9223372036854775807):W (slices_Contains_string s_ v_) (λ r=>r=decide (0≤Yp s_ λ x=>v_.toList==x.toList)):=
 aF (yO h) λ v hv=>av (by rw [hv])
def Ri (p:bn) (f:ByteArray) (n:Nat):List Int:=((List.range n).filter λ i=>decide (0≤YW (p.aD.getD i aH) f)).map λ i=>((i:Nat):Int)
theorem ajZ (p:bn) (f:ByteArray) (n:Nat):Ri p f (n+1)=Ri p f n++(if decide (0≤YW (p.aD.getD n aH) f) then [((n:Nat):Int)] else []):=by
 unfold Ri;rw [List.range_succ,List.filter_append,List.map_append];congr 1;cases h:decide (0≤YW (p.aD.getD n aH) f) with
 | true=>simp only [List.filter_cons,List.filter_nil,h,if_true,List.map_cons,List.map_nil]
 | false=>simp only [List.filter_cons,List.filter_nil,h,Bool.false_eq_true,if_false,List.map_nil]
theorem abg {p:bn} {f:ByteArray} {n:Nat} {x:Int} (h:x∈Ri p f n):0≤x∧x<n∧0≤YW (p.aD.getD x.toNat aH) f:=by
 unfold Ri at h;obtain ⟨i,hi,rfl⟩:=List.mem_map.1 h;rw [List.mem_filter,List.mem_range] at hi;exact ⟨om,om,by simpa using hi.2⟩
theorem abh (p:bn) (f:ByteArray) (n:Nat):(Ri p f n).length≤n:=by
 unfold Ri;rw [List.length_map];exact Nat.le_trans (List.length_filter_le _ _) (by simp)
def GSz (p:bn):Prop:=∀g∈p.aD,g.bQ.length≤2000000∧g.ak.length≤2000000
theorem ab3 {p_:bn} {f_:ByteArray} (h1:GSz p_) (h2:yV p_ 0) (h3:p_.aD.length≤24):W (FV p_ f_) (λ r=>r=Ri p_ f_ p_.aD.length):=by
 unfold FV;refine aF (Av h1) λ v1 hv1=>?_;have e1:v1=0:=yV.fun _ _ hv1 h2;subst e1;refine bJ (λ c1=>by cases c1) (λ c1=>?_);refine bI (λ g1:Int×List Int=>0≤g1.1∧g1.1≤p_.aD.length∧g1.2=Ri p_ f_ g1.1.toNat) (λ g1=>(p_.aD.length - g1.1).toNat) ?_ ⟨ob,ob,rfl⟩;intro aj g1 ⟨a1,a2,a3⟩ ih1;have hl:=abh p_ f_ g1.1.toNat;rw [← a3] at hl;unfold Oe;refine wi ?_ ?_<;>intro c
 ·have hfl:=(h1 _ (getD_in (i:=g1.1.toNat) aH om)).2;have e:(g1.1+1).toNat=g1.1.toNat+1:=by omega
  refine wn<|aF (Fu om) λ v4 hv4=>?_;have hs:=ajZ p_ f_ g1.1.toNat;refine bJ ?_ ?_<;>intro c2
  ·rw [c2] at hv4;refine aO (by unfold big; omega) ?_;refine wn<|ih1 _ ⟨ob,ob,?_⟩ ob;dsimp only;rw [e,hs,← a3,if_pos (by unfold YW; exact hv4.symm)];congr 2;omega
  ·rw [c2] at hv4;refine wn<|ih1 _ ⟨ob,ob,?_⟩ ob;dsimp only;rw [e,hs,← a3,if_neg (by unfold YW; rw [← hv4]; simp),List.append_nil]
 ·exact av (by rw [a3]; congr 1; omega)
def orF (a:Int) (k:Int):Int:=orI .u64 a (TP .u64 (1:Int) k)
def acW (g:dh):Int:=g.bQ.foldl orF 0
def abj (ms:List Int) (gs:List Int):Int:=gs.foldl (λ a g=>orI .u64 a (ms.getD g.toNat 0)) 0
theorem ME {β:Type} (f:β→α→β) (b:β) (l:List α) (d:α) (h:i<l.length):(l.take (i+1)).foldl f b=f ((l.take i).foldl f b) (l.getD i d):=by
 rw [List.take_add_one,List.foldl_append,List.getElem?_eq_getElem h,List.getD_eq_getElem?_getD,List.getElem?_eq_getElem h];rfl
structure PB (p:bn) (l:List ByteArray) (given:List Int) (x:eH):Prop where
 pa:yV p 0
 ll:l.length≤10
 op:x.fH=l.map λ f=>Ri p f p.aD.length
 ms:x.oM=p.aD.map acW
 gv:x.ny=given
 gl:given.length≤l.length
 tk:x.xw=abj x.oM given
 gm:∀i:Nat,i<given.length→given.getD i 0∈x.fH.getD i []
theorem YX {p_:bn} {l_:List ByteArray} {eu:List Int} (h1:GSz p_) (h2:l_.length≤2000000) (h3:eu.length≤2000000):W (Ag p_ l_ eu) (λ r=>r.2=0→PB p_ l_ eu r.1):=by
 unfold Ag;refine aF (Av h1) λ v1 hv1=>?_;refine aF (qX (P:=λ _=>True) λ _=>?_) λ v2 _=>?_
 ·unfold mJ;refine aF (P:=λ _=>True) ?_ λ v _=>av trivial;unfold oQ;refine bI (λ g1:Int=>0≤g1) (λ g1=>(l_.length - g1).toNat) ?_ (Int.le_refl _);intro aj g1 a1 ih1;unfold sw;refine bJ (λ c=>?_) (λ c=>av trivial);have c:=nr c;refine wn<|aF (P:=λ _=>True) (aF DL λ _ _=>av trivial) λ v3 _=>?_;exact bJ (λ _=>av trivial) (λ _=>aO ob (ih1 _ om om))
 refine bJ (λ c1=>av nofun) (λ c1=>?_);simp only [Bool.or_eq_false_iff] at c1;obtain ⟨⟨c1,c2⟩,c3⟩:=c1;have c1:=nr c1; have c2:=nr c2;rw [c1] at hv1;have hgl:p_.aD.length≤24:=by
  have:=(yV.v hv1).ok.gl;omega
 refine bI (λ g1:Int×List (List Int)=>0≤g1.1∧g1.1≤l_.length∧g1.2=(l_.take g1.1.toNat).map λ f=>Ri p_ f p_.aD.length) (λ g1=>(l_.length - g1.1).toNat) ?_ ⟨ob,ob,by simp⟩;intro aj g1 ⟨a1,a2,a3⟩ ih1;have l1:g1.2.length=g1.1.toNat:=by rw [a3,List.length_map,List.length_take]; omega
 unfold Ir;refine bJ ?_ ?_<;>intro c
 ·have c:=nr c;refine wn<|aF (aF (ab3 h1 hv1 hgl) λ v h=>av h) λ v5 hv5=>?_;refine aO (by unfold big; omega) ?_;refine wn<|ih1 _ ⟨ob,ob,?_⟩ ob;dsimp only;rw [show (g1.1+1).toNat=g1.1.toNat+1 by omega,mD _ _ ByteArray.empty om,← a3,hv5]
 have c:=nr c;have e1:g1.2=l_.map λ f=>Ri p_ f p_.aD.length:=by rw [a3,List.take_of_length_le om]
 refine bI (λ g2:Int×List Int=>0≤g2.1∧g2.1≤p_.aD.length∧g2.2=(p_.aD.take g2.1.toNat).map acW) (λ g2=>(p_.aD.length - g2.1).toNat) ?_ ⟨ob,ob,by simp⟩;intro dK g2 ⟨b1,b2,b3⟩ ih2;have l2:g2.2.length=g2.1.toNat:=by rw [b3,List.length_map,List.length_take]; omega
 unfold FZ;refine bJ ?_ ?_<;>intro c4
 ·have c4:=nr c4;refine wn ?_;have hpl:=(h1 _ (getD_in (i:=g2.1.toNat) aH om)).1;have hpn:=((yV.v hv1).ok.gr _ (getD_in (i:=g2.1.toNat) aH om)).pn;refine bI (λ g5:Int×Int=>0≤g5.2∧g5.2≤(p_.aD.getD g2.1.toNat aH).bQ.length∧g5.1=((p_.aD.getD g2.1.toNat aH).bQ.take g5.2.toNat).foldl orF 0) (λ g5=>((p_.aD.getD g2.1.toNat aH).bQ.length - g5.2).toNat) ?_ ⟨ob,ob,by simp⟩;intro ku g5 ⟨d1,d2,d3⟩ ih5;unfold FX;refine wi ?_ ?_<;>intro c5
  ·have hx:=hpn _ (getD_in (i:=g5.2.toNat) 0 om);refine wn<|aO om ?_;refine wn<|ih5 _ ⟨ob,ob,?_⟩ ob;dsimp only;rw [show (g5.2+1).toNat=g5.2.toNat+1 by omega,ME _ _ _ 0 om,← d3];rfl
  ·refine aO (by unfold big; omega) ?_;refine wn<|ih2 _ ⟨ob,ob,?_⟩ ob;dsimp only;rw [show (g2.1+1).toNat=g2.1.toNat+1 by omega,mD _ _ aH om,← b3,d3,List.take_of_length_le om];rfl
 have c4:=nr c4;have e2:g2.2=p_.aD.map acW:=by rw [b3,List.take_of_length_le om]
 refine bJ (λ c6=>av nofun) (λ c6=>?_);have c6:=nr c6;refine bI (λ g6:Int×Int=>0≤g6.1∧g6.1≤eu.length∧g6.2=abj g2.2 (eu.take g6.1.toNat)∧∀j:Nat,(j:Int)<g6.1→eu.getD j 0∈g1.2.getD j []) (λ g6=>(eu.length - g6.1).toNat) ?_ ⟨ob,ob,by simp [abj],λ j hj=>by dsimp only at hj; omega⟩;intro jH g6 ⟨f1,f2,f3,f4⟩ ih6;unfold FY;refine wi ?_ ?_<;>intro c7
 ·refine wn<|aO om ?_;have hov:g1.2.getD g6.1.toNat []=Ri p_ (l_.getD g6.1.toNat ByteArray.empty) p_.aD.length:=by
   rw [e1,List.getD_eq_getElem?_getD,List.getElem?_map,List.getElem?_eq_getElem om,List.getD_eq_getElem?_getD,List.getElem?_eq_getElem om];rfl
  have hol:=abh p_ (l_.getD g6.1.toNat ByteArray.empty) p_.aD.length;rw [← hov] at hol;refine aF (wQ (gZ om)) λ v8 vU=>?_;have hin:(!v8)=false→eu.getD g6.1.toNat 0∈g1.2.getD g6.1.toNat []:=λ e=>by
   rw [vU] at e;simpa using e
  have hb:(!v8)=false→0≤eu.getD g6.1.toNat 0∧eu.getD g6.1.toNat 0<(g2.2.length:Int):=λ e=>by
   have:=hin e;rw [hov] at this;have:=abg this;omega
  refine aO hb ?_;refine bJ (λ c8=>av nofun) (λ c8=>?_);rw [Bool.or_eq_false_iff] at c8;refine aO (hb c8.1) ?_;refine wn<|ih6 _ ⟨ob,ob,?_,dU f4 f1 (hin c8.1)⟩ ob;dsimp only;rw [show (g6.1+1).toNat=g6.1.toNat+1 by omega];unfold abj;rw [ME _ _ _ 0 om,f3];rfl
 ·refine av λ _=>⟨hv1,om,e1,e2,rfl,om,?_,λ i hi=>f4 i om⟩;dsimp only;rw [f3,List.take_of_length_le om]
theorem aqp {σ R:Type} {F:(σ→M R)→σ→M R} {Q:σ→R→Prop} (inv:σ→Prop) (μ:σ→Nat) (h:∀(self:σ→M R) (s:σ),inv s→(∀s',inv s'→μ s'<μ s→W (self s') (Q s'))→W (F self s) (Q s)) {s:σ} (hs:inv s):W (dn F s) (Q s):=by
 have key:∀n s,inv s→μ s<n→W (itM F n s) (Q s):=by
  intro n;induction n with
  | zero=>intro s _ h; exact absurd h (Nat.not_lt_zero _)
  | succ n ih=>intro s hs hn; exact h _ s hs λ s' h1 h2=>ih s' h1 om
 obtain ⟨r,h1,h2⟩:=key (μ s+1) s hs (Nat.lt_succ_self _);exact ⟨r,⟨_,h1⟩,h2⟩
def opA (x:eH) (ch:List Int) (n:Nat):List Int:=x.fH.getD (ch.getD n 0).toNat []
structure amy (x:eH) (ch:List Int) (taken:Int) (gs row:List Int):Prop where
 len:row.length=ch.length
 pre:row.take gs.length=gs
 mem:∀i:Nat,gs.length≤i→i<ch.length→row.getD i 0∈opA x ch i
 lst:gs.length+1=ch.length→∃j:Nat,j<(opA x ch gs.length).length∧(opA x ch gs.length).getD j 0=row.getD gs.length 0∧∀i:Nat,i<j→MN .u64 taken (x.oM.getD ((opA x ch gs.length).getD i 0).toNat 0)≠0
 dj:∀i:Nat,gs.length≤i→i<ch.length→MN .u64 (((row.drop gs.length).take (i - gs.length)).foldl (λ a g=>orI .u64 a (x.oM.getD g.toNat 0)) taken) (x.oM.getD (row.getD i 0).toNat 0)=0
abbrev FSt:=Int×List Int×eH×List Int
abbrev FR:=Bool×Nat×List Int×eH×List Int
def FQ (s:FSt) (r:FR):Prop:=r.2.2.1=s.2.1∧r.2.2.2.1=s.2.2.1∧r.2.1≤r.2.2.2.2.length∧
 (r.1=true→amy s.2.2.1 s.2.1 s.1 s.2.2.2 (r.2.2.2.2.take r.2.1))∧(r.1=false→r.2.1=s.2.2.2.length∧r.2.2.2.2.take r.2.1=s.2.2.2∧s.2.2.2.length<s.2.1.length)
theorem Fv {t0:Int} {ch:List Int} {x:eH} (h1:ch.length≤2000000) (h2:∀d∈ch,0≤d∧d<x.fH.length) (h3:∀o∈x.fH,o.length≤2000000∧∀k∈o,0≤k∧k<x.oM.length):W (lQ t0 ch x []) (λ r=>FQ (t0,ch,x,[]) r):=by
 unfold lQ;refine aqp (Q:=FQ) (λ s:FSt=>s.2.1=ch∧s.2.2.1=x∧s.2.2.2.length≤ch.length) (λ s=>ch.length - s.2.2.2.length) ?_ ⟨rfl,rfl,Nat.zero_le _⟩;rintro self ⟨tk,c,y,gs⟩ ⟨e1,e2,e3⟩ ih;dsimp only at e1 e2 e3;subst c y;unfold iO;refine bJ ?_ ?_<;>intro c1
 ·have c1:=nr c1;have hs:amy x ch tk gs (gs.take gs.length):=by
   rw [List.take_length];exact ⟨om,List.take_length,λ i hi hj=>absurd hi om,λ hl=>absurd hl om,λ i hi hj=>absurd hi om⟩
  exact av ⟨rfl,rfl,Nat.le_refl _,λ _=>hs,nofun⟩
 have c1:=nr c1;dsimp only at c1 ⊢;have hlt:gs.length<ch.length:=by omega
 have hd:=h2 _ (getD_in (i:=gs.length) 0 hlt);have hid:((gs.length:Int)).toNat=gs.length:=by omega
 refine aO om ?_;rw [hid];refine aO hd ?_;have hop:opA x ch gs.length=x.fH.getD (ch.getD gs.length 0).toNat []:=rfl;obtain ⟨hol,hom⟩:=h3 (opA x ch gs.length) (getD_in [] om);refine bI (λ g1:Int×Nat×List Int×List (List Int)×List Int×List Int×Int×List Int=>0≤g1.1∧g1.2.1=gs.length∧g1.2.2.1=ch∧(⟨g1.2.2.2.1,g1.2.2.2.2.1,g1.2.2.2.2.2.1,g1.2.2.2.2.2.2.1⟩:eH)=x∧g1.2.1≤g1.2.2.2.2.2.2.2.length∧g1.2.2.2.2.2.2.2.take g1.2.1=gs∧(gs.length+1=ch.length→∀i:Nat,(i:Int)<g1.1→MN .u64 tk (x.oM.getD ((opA x ch gs.length).getD i 0).toNat 0)≠0)) (λ g1=>((opA x ch gs.length).length - g1.1).toNat) ?_ ⟨ob,rfl,rfl,rfl,ob,by dsimp only; exact List.take_length,λ _ i hi=>by dsimp only at hi; omega⟩;rintro aj ⟨ix,cnt,c,op,ms,gv,tn,row⟩ ⟨a1,a2,a3,a4,a5,a6,a7⟩ ih1;dsimp only at a1 a2 a3 a4 a5 a6 a7;subst a2 a3;have am:ms=x.oM:=by rw [← a4]
 unfold sD;dsimp only;rw [hid,← hop];refine aO a5 ?_;refine wi ?_ ?_<;>intro c2
 ·have hg:=hom _ (getD_in (i:=ix.toNat) 0 om);refine aO om ?_;refine aO (by rw [am]; omega) ?_;refine wi ?_ ?_<;>intro c3
  ·refine wn<|ih1 _ ⟨ob,rfl,rfl,a4,a5,a6,λ hl=>dU (a7 hl) a1 (by rw [← am]; exact c3)⟩ ob
  ·refine aO (by unfold big; omega) ?_;unfold mK;dsimp only;rw [hid,← hop];rw [a6,a4];refine aO (by rw [am]; omega) ?_;refine aF (ih (_,c,x,gs++[(opA x c gs.length).getD ix.toNat 0]) ⟨rfl,rfl,by (rw [List.length_append,List.length_singleton]; omega)⟩ (by (dsimp only; rw [List.length_append,List.length_singleton]; omega))) λ v3 hv3=>?_;obtain ⟨q1,q2,q3,q4,q5⟩:=hv3;dsimp only at q1 q2 q4 q5;refine aO q3 ?_;refine bJ ?_ ?_<;>intro c4
   ·have hjx:ix.toNat<(opA x c gs.length).length:=by omega
    obtain ⟨s1,s2,s3,s4,s5⟩:=q4 c4;rw [List.length_append,List.length_singleton] at s2 s3 s4 s5;have hpre:(v3.2.2.2.2.take v3.2.1).take gs.length=gs:=by
     have:=congrArg (List.take gs.length) s2;rw [List.take_take,Nat.min_eq_left om,List.take_append_of_le_length (Nat.le_refl _),List.take_length] at this;exact this
    have hat:(v3.2.2.2.2.take v3.2.1).getD gs.length 0=(opA x c gs.length).getD ix.toNat 0:=by
     have this:((v3.2.2.2.2.take v3.2.1).take (gs.length+1)).getD gs.length 0=(gs++[(opA x c gs.length).getD ix.toNat 0]).getD gs.length 0:=by rw [s2]
     rw [Jh _ _ _ _ om] at this;rw [this,List.getD_eq_getElem?_getD,List.getElem?_append_right (Nat.le_refl _),Nat.sub_self];rfl
    refine av ⟨q1,q2,q3,λ _=>⟨s1,hpre,λ i hi hj=>?_,λ hl=>?_,λ i hi hj=>?_⟩,nofun⟩
    ·rcases Nat.eq_or_lt_of_le hi with e | e
     ·rw [← e,hat];exact getD_in 0 om
     ·exact s3 i e hj
    ·exact ⟨ix.toNat,hjx,hat.symm,λ i hi=>a7 hl i om⟩
    ·have hi:gs.length≤i:=hi;have hj:i<c.length:=hj;rcases Nat.eq_or_lt_of_le hi with e | e
     ·rw [← e,Nat.sub_self,List.take_zero,hat,← am]; exact c3
     ·have:=s5 i e hj;rw [drop_cons 0 (by rw [s1]; exact hlt),show i - gs.length=(i - (gs.length+1))+1 by omega,List.take_succ_cons,List.foldl_cons,hat];rw [am] at this;exact this
   ·obtain ⟨p1,p2,p3⟩:=q5 c4;have p1:v3.2.1=gs.length+1:=by rw [p1,List.length_append]; rfl
    have p3:gs.length+1<c.length:=by rw [List.length_append] at p3; exact p3
    clear q4 q5;have hcnt:(((v3.2.1:Nat):Int) - 1).toNat=gs.length:=by omega
    refine aO (by unfold aG; omega) ?_;refine aO om ?_;refine wn<|ih1 _ ⟨ob,hcnt,q1,?_,by dsimp only; omega,?_,λ hl=>?_⟩ ob
    ·dsimp only; rw [q2]
    ·dsimp only;rw [hcnt];have:=congrArg (List.take gs.length) p2;rw [List.take_take,Nat.min_eq_left om,List.take_append_of_le_length (Nat.le_refl _),List.take_length] at this;exact this
    ·omega
 ·exact av ⟨rfl,a4,a5,nofun,λ _=>⟨rfl,a6,hlt⟩⟩
structure aiL (x:eH) (r:List Int):Prop where
 len:r.length=x.fH.length - x.ny.length
 at_:∀j:Nat,j<r.length→r.getD j 0=((x.ny.length+j:Nat):Int)
theorem aj0 (d:α) (l:List α) (v:α) (j:Nat):(l++[v]).getD j d=if j=l.length then v else l.getD j d:=by
 by_cases h:j<l.length
 ·rw [if_neg om,List.getD_eq_getElem?_getD,List.getElem?_append_left h,← List.getD_eq_getElem?_getD]
 ·by_cases e:j=l.length
  ·rw [if_pos e,List.getD_eq_getElem?_getD,List.getElem?_append_right om,e,Nat.sub_self]; rfl
  ·rw [if_neg e,List.getD_eq_getElem?_getD,List.getElem?_eq_none (by rw [List.length_append]; simp; omega),List.getD_eq_getElem?_getD,List.getElem?_eq_none om]
theorem KO {x_:eH} (h1:x_.fH.length≤2000000) (h2:x_.ny.length≤2000000):W (nO x_) (aiL x_):=by
 unfold nO;refine bI (λ g1:Int×List Int=>(x_.ny.length:Int)≤g1.1∧(g1.2.length:Int)=g1.1 - x_.ny.length∧(x_.ny.length<g1.1→g1.1≤x_.fH.length)∧∀j:Nat,j<g1.2.length→g1.2.getD j 0=((x_.ny.length+j:Nat):Int)) (λ g1=>(x_.fH.length - g1.1).toNat) ?_ ⟨ob,by dsimp only; simp,λ h=>by dsimp only at h; omega,λ j hj=>by simp at hj⟩;intro aj g1 ⟨a1,a2,a4,a3⟩ ih1;unfold wH;refine wi ?_ ?_<;>intro c
 ·refine aO (by unfold big; omega) ?_;refine aO (by unfold aG; omega) ?_;refine ih1 _ ⟨by dsimp only; omega,by dsimp only; rw [List.length_append,List.length_singleton]; omega,λ _=>by dsimp only; omega,λ j hj=>?_⟩ (by dsimp only; omega);dsimp only at hj ⊢;rw [List.length_append,List.length_singleton] at hj;rw [aj0];by_cases e:j=g1.2.length
  ·rw [if_pos e]; omega
  ·rw [if_neg e]; exact a3 j om
 ·exact av ⟨om,a3⟩
theorem JA {ch:List Int} {x:eH} (h1:ch.length≤2000000) (h2:∀d∈ch,0≤d∧d<x.fH.length) (h3:∀o∈x.fH,o.length≤2000000∧∀k∈o,0≤k∧k<x.oM.length):W (mY x ch) (λ r=>r.2=true→amy x ch x.xw [] r.1):=by
 unfold mY;refine aO (by unfold big; omega) ?_;refine aF (Fv h1 h2 h3) λ v1 hv1=>?_;obtain ⟨_,_,q3,q4,_⟩:=hv1;refine aO q3 ?_;exact av λ e=>q4 e
theorem ab4 {n:Int} (h0:0≤n) (h1:n≤4000000):W (qc n) (λ r=>r.1=0):=by
 unfold qc;refine aO (by simp; omega) ?_;unfold qU;refine aO (by unfold aG; omega) ?_;refine aO (by unfold aG; omega) ?_;refine bJ (λ c=>?_) (λ _=>av rfl);have c:=nr c;refine aO om ?_;refine aO (by unfold big; omega) ?_;refine aO om ?_;exact av rfl
theorem YZ {a b:List Int} (h1:a.length≤2000000) (h2:b.length≤2000000):W (rA [a,b]) (λ r=>r=a++b):=by
 unfold rA;have g0:([a,b]:List (List Int)).getD 0 []=a:=rfl;have g1:([a,b]:List (List Int)).getD 1 []=b:=rfl;refine bI (λ g:Int×Int=>(g.1=0∧g.2=0)∨(g.1=a.length∧g.2=1)∨(g.1=a.length+b.length∧g.2=2)) (λ g=>(2 - g.2).toNat) ?_ (.inl ⟨rfl,rfl⟩);rintro self ⟨n,i⟩ hi ih;dsimp only at hi;unfold A8;refine bJ ?_ ?_<;>intro c
 ·have c:=nr c;simp only [List.length_cons,List.length_nil] at c;dsimp only;rcases hi with ⟨rfl,rfl⟩ | ⟨rfl,rfl⟩ | ⟨rfl,rfl⟩
  ·rw [show (0:Int).toNat=0 from rfl,g0];refine aO (by simp) ?_;refine aO (by unfold aG; omega) ?_;refine aO (by first | (simp; done) | (simp; omega)) ?_;refine aO (by unfold aG; omega) ?_;exact ih _ (.inr (.inl ⟨by dsimp only; omega,rfl⟩)) (by dsimp only; omega)
  ·rw [show (1:Int).toNat=1 from rfl,g1];refine aO (by simp) ?_;refine aO (by unfold aG; omega) ?_;refine aO (by simp; omega) ?_;refine aO (by unfold aG; omega) ?_;exact ih _ (.inr (.inr ⟨by dsimp only,rfl⟩)) (by dsimp only; omega)
  ·omega
 ·refine aF (ab4 (by dsimp only; omega) (by dsimp only; omega)) λ v1 hv1=>?_;refine aO om ?_;rw [hv1];refine bI (λ g:Nat×Int×List Int=>g.1≤g.2.2.length∧((g.2.1=0∧g.2.2.take g.1=[]∧g.1=0)∨(g.2.1=1∧g.2.2.take g.1=a∧g.1=a.length)∨(g.2.1=2∧g.2.2.take g.1=a++b))) (λ g=>(2 - g.2.1).toNat) ?_ ⟨Nat.zero_le _,.inl ⟨rfl,by simp,rfl⟩⟩;rintro dK ⟨k,j,row⟩ ⟨hk,hj⟩ ih2;dsimp only at hk hj;unfold zk;refine aO hk ?_;refine wi ?_ ?_<;>intro c2
  ·simp only [List.length_cons,List.length_nil] at c2;dsimp only;rcases hj with ⟨rfl,e,e2⟩ | ⟨rfl,e,e2⟩ | ⟨rfl,e⟩
   ·rw [show (0:Int).toNat=0 from rfl,g0];refine aO (by simp) ?_;refine aO (by unfold big; omega) ?_;refine aO (by unfold aG; omega) ?_;refine ih2 _ ⟨by dsimp only; rw [List.length_append,List.length_take]; omega,.inr (.inl ⟨rfl,?_,by dsimp only; omega⟩)⟩ (by dsimp only; omega);dsimp only;rw [e,List.nil_append,e2,Nat.zero_add,List.take_length]
   ·rw [show (1:Int).toNat=1 from rfl,g1];refine aO (by simp) ?_;refine aO (by unfold big; omega) ?_;refine aO (by unfold aG; omega) ?_;refine ih2 _ ⟨by dsimp only; rw [List.length_append,List.length_take]; omega,.inr (.inr ⟨rfl,?_⟩)⟩ (by dsimp only; omega);dsimp only;rw [e,List.take_of_length_le (by rw [List.length_append]; omega)]
   ·omega
  ·simp only [List.length_cons,List.length_nil] at c2;dsimp only at c2 ⊢;rcases hj with ⟨rfl,e,e2⟩ | ⟨rfl,e,e2⟩ | ⟨rfl,e⟩
   ·omega
   ·omega
   ·exact av e
theorem PB.opl {p:bn} {l:List ByteArray} {given:List Int} {x:eH} (h:PB p l given x):x.fH.length=l.length:=by rw [h.op,List.length_map]
theorem PB.opg {p:bn} {l:List ByteArray} {given:List Int} {x:eH} (h:PB p l given x) (hi:i<l.length):x.fH.getD i []=Ri p (l.getD i ByteArray.empty) p.aD.length:=by
 rw [h.op,List.getD_eq_getElem?_getD,List.getElem?_map,List.getElem?_eq_getElem hi,List.getD_eq_getElem?_getD,List.getElem?_eq_getElem hi];rfl
theorem Xw {p_:bn} {l_:List ByteArray} {eu:List Int} (h1:GSz p_) (h2:l_.length≤2000000) (h3:eu.length≤2000000):W (xQ p_ l_ eu) (λ r=>r.2=0→∃x ch t,PB p_ l_ eu x∧aiL x ch∧r.1=eu++t∧amy x ch x.xw [] t):=by
 unfold xQ;refine aF (YX h1 h2 h3) λ v1 hv1=>?_;refine bJ ?_ ?_<;>intro c1
 ·have c1:=nr c1;exact av λ e=>absurd e c1
 have c1:=nr c1;have hp:=hv1 c1;have hol:=hp.opl;have hll:=hp.ll;have hgl:=hp.gl;have hgv:v1.1.ny.length=eu.length:=by rw [hp.gv]
 refine aF (KO om om) λ v2 hv2=>?_;obtain ⟨o1,o2⟩:=id hv2;have ax5:=(yV.v hp.pa).ok.gl;refine aF (JA om (jC 0 λ j hj=>by rw [o2 j hj]; omega) (jC [] λ j hj=>?_)) λ v3 hv3=>?_
 ·rw [hp.opg om];refine ⟨Nat.le_trans (abh _ _ _) om,λ k hk=>?_⟩;have:=abg hk;rw [hp.ms,List.length_map];omega
 refine bJ (λ c2=>av nofun) (λ c2=>?_);have c2:=nr c2;have hs:=hv3 c2;refine aF (YZ h3 (by rw [hs.len]; omega)) λ v4 hv4=>?_;exact av λ _=>⟨v1.1,v2,v3.1,hp,hv2,hv4,hs⟩
theorem JB {p:Prop} {c:Int} {A:Int→Prop} (hc:c≠0) (h:KA p c A 0):¬p∧A 0:=by
 rcases h with ⟨_,h⟩ | h
 ·exact absurd h.symm hc
 ·exact h
theorem aon {b:aS} {l:List aJ} {ms:List Int} {g:bg} {bt:Bool} (h:YH b l ms g bt 0):yV b.aT 0∧G6 b.aT (g.bZ.map aR.jN):=by
 obtain ⟨_,h⟩:=JB (by decide) h;obtain ⟨_,h⟩:=JB (by decide) h;obtain ⟨_,h⟩:=JB (by decide) h;obtain ⟨_,h⟩:=JB (by decide) h;obtain ⟨_,h⟩:=JB (by decide) h;exact Classical.not_not.1 (JB (by decide) h).1
def vZ (ms:List Int) (us:List aR):List aR:=us.filter λ u=>ms.contains u.gF
theorem o9 (P:α→Bool) (l:List α) (d:α) (h:i<l.length):(l.take (i+1)).filter P=(l.take i).filter P++(if P (l.getD i d) then [l.getD i d] else []):=by
 rw [List.take_add_one,List.filter_append,List.getElem?_eq_getElem h,List.getD_eq_getElem?_getD,List.getElem?_eq_getElem h];congr 1;simp only [Option.toList_some,Option.getD_some,List.filter_cons,List.filter_nil]
abbrev GA:=List Int×List Bool×List Int×List Bool×List Bool×Int×Int×List aR
structure ax6 (r:GA):Prop where
 a:r.1.length≤16
 b:r.2.1.length≤16
 c:r.2.2.1.length≤16
 d:r.2.2.2.1.length≤32
 e:r.2.2.2.2.1.length≤16
def Rj (a:Int) (x:Nat):Bool:=(BitVec.ofInt 64 a).getLsbD x
theorem amA (b:BitVec 64):BitVec.ofInt 64 (IntKind.u64.wrap ((b.toNat:Nat):Int))=b:=by
 have h:=b.isLt;rw [Sp.wrap_u64 ⟨om,om⟩,BitVec.ofInt_natCast,BitVec.ofNat_toNat];exact BitVec.setWidth_eq b
theorem amB {x:Nat} (h:Rj 0 x=true):False:=by
 unfold Rj at h;simp at h
structure ax7 (b:aS) (fns:List ByteArray) (dev:Int) (old:List aR) (new:List aR):Prop where
 pa:yV b.aT 0
 len:new.length=fns.length
 bd:fns.length≤10
 at_:∀i:Nat,i<new.length→(new.getD i bC).gF=dev∧0≤(new.getD i bC).jN.cZ∧(new.getD i bC).jN.cZ<b.aT.aD.length∧(new.getD i bC).jN.gL=YW (b.aT.aD.getD (new.getD i bC).jN.cZ.toNat aH) (fns.getD i ByteArray.empty)
 lst:fns.length=1→∀k∈Ri b.aT (fns.getD 0 ByteArray.empty) b.aT.aD.length,k<(new.getD 0 bC).jN.cZ→
  ∃u∈old,∃x,x∈(b.aT.aD.getD u.jN.cZ.toNat aH).bQ∧x∈(b.aT.aD.getD k.toNat aH).bQ
theorem Sp.QF {l:List ay} {d:List bf} (h:(Sp.iL l d).2=0):(Sp.iL l d).1.On.length=l.length∧(Sp.iL l d).1.dQ.length=l.length:=by
 unfold Sp.iL at h ⊢;cases h1:Sp.qj l d != 0 with
 | true=>rw [h1] at h; simp at h1; exact absurd h h1
 | false=>
  rw [h1] at h;cases h2:decide (0≤(Sp.Jc l d).2)||!Sp.fq l ⟨Sp.fI l d,(Sp.Jc l d).1.lv⟩ d with
  | true=>rw [h2] at h; cases h
  | false=>
   simp only [Bool.or_eq_false_iff,Bool.not_eq_false'] at h2;have hm:=h2.2;unfold Sp.fq at hm;cases h3:!Sp.vV l ⟨Sp.fI l d,(Sp.Jc l d).1.lv⟩||!Sp.iB l d with
   | true=>rw [h3] at hm; cases hm
   | false=>
    simp only [Bool.or_eq_false_iff,Bool.not_eq_false'] at h3;have:=(Sp.DY.1 h3.1).2;exact ⟨this.On,this.len⟩
theorem aoW {b:aS} (h:anQ b):Bq b:=by
 obtain ⟨b1,b2,b3,b4,b5,b6,b7,b8,b9⟩:=h;exact ⟨om,λ i hi=>by have:=b2 _ (getD_in (i:=i) aK hi); omega,om,λ g hg=>by have:=b6 g hg; omega,om,λ g hg=>by have:=b8 g hg; omega,om⟩
theorem Gx {l_:List aJ} {ah:List Int} (h1:∀x∈l_,x.ak.length≤10) (h2:ah.length≤10000):W (qI l_ ah) (λ _=>True):=by
 unfold qI;refine bI (λ g1:Int×Int=>0≤g1.2∧0≤g1.1∧g1.1≤10*g1.2) (λ g1=>(ah.length - g1.2).toNat) ?_ ob;intro aj g1 ⟨a1,a2,a3⟩ ih1;unfold Er;refine bJ (λ c=>?_) (λ c=>av trivial);have c:=nr c;refine wn<|bJ ?_ ?_<;>intro c2
 ·have c2:=nr c2;have hx:=h1 _ (getD_in (i:=(ah.getD g1.2.toNat 0).toNat) bB om);refine wn<|aO (by unfold aG; omega) ?_;refine aO (by unfold aG; omega) ?_;exact ih1 _ ⟨by dsimp only; omega,by dsimp only; omega,by dsimp only; omega⟩ (by dsimp only; omega)
 ·refine aO (by unfold aG; omega) ?_;exact ih1 _ ⟨by dsimp only; omega,by dsimp only; omega,by dsimp only; omega⟩ (by dsimp only; omega)
structure Ga2 (r:GA):Prop where
 a:r.1.length≤2000000
 b:r.2.1.length≤2000000
 c:r.2.2.1.length≤2000000
 d:r.2.2.2.1.length≤2000000
 e:r.2.2.2.2.1.length≤2000000
theorem Ay (p e:Int):Ga2 ([],[],[],[],[],p,e,[]):=⟨by simp,by simp,by simp,by simp,by simp⟩
variable {l:List aI}
theorem Zr:∀ {s t:List Int},VS l s→VS l t→oC l s=oC l t→s=t:=by
 induction l with
 | nil=>
  intro s t hs ht _;rw [List.length_eq_zero_iff.1 hs.1,List.length_eq_zero_iff.1 ht.1]
 | cons c l ih=>
  intro s t hs ht e;obtain ⟨x,s,rfl,x0,x1,hs⟩:=U1 hs;obtain ⟨y,t,rfl,y0,y1,ht⟩:=U1 ht;have p1:=Kz hs;have p2:=Kz ht;rw [oC,oC] at e;have hd:x.toNat=y.toNat:=by
   rcases Nat.lt_trichotomy x.toNat y.toNat with q | q | q
   ·have:(x.toNat+1)*rH l≤y.toNat*rH l:=Nat.mul_le_mul_right _ om;rw [Nat.add_mul,Nat.one_mul] at this;omega
   ·exact q
   ·have:(y.toNat+1)*rH l≤x.toNat*rH l:=Nat.mul_le_mul_right _ om;rw [Nat.add_mul,Nat.one_mul] at this;omega
  rw [hd] at e;rw [show x=y by omega,ih hs ht om]
def af7 (l:List aI) (m:List bN) (s:List Int):Prop:=VS l s∧fq l s m=true∧∀t,VS l t→fq l t m=true→oC l s≤oC l t
variable {s:List Int}
theorem af7.uniq {m m':List bN} {s':List Int} (h:af7 l m s) (h':af7 l m' s') (hm:∀t,fq l t m=fq l t m'):s=s':=
 Zr h.1 h'.1 (Nat.le_antisymm (h.2.2 _ h'.1 (by rw [hm]; exact h'.2.1)) (h'.2.2 _ h.1 (by rw [← hm]; exact h.2.1)))
def bkB (rs:List bL) (b:jR):Bool:=bif (rs.getD b.BF.toNat dS).j5==0 then !b.ait else !oH (rs.getD b.BF.toNat dS) b.flow b.ais
def RV (l:List aI) (rs:List bL):Prop:=∀i:Nat,i<l.length→qh (rs.getD i dS)=true
theorem af8 {r:bL} (hv:qh r=true):(r.j5==0)=nR r:=by
 cases h:nR r with
 | true=>
  unfold nR at h;simp only [Bool.and_eq_true] at h;exact h.1
 | false=>
  exact beq_eq_false_iff_ne.2 (acU hv h)
theorem any_take_succ (P:α→Bool) (l:List α) (d:α) (h:i<l.length):(l.take (i+1)).any P=((l.take i).any P||P (l.getD i d)):=by
 rw [List.take_add_one,List.any_append,List.getElem?_eq_getElem h,List.getD_eq_getElem?_getD,List.getElem?_eq_getElem h];simp
def auI (l:List aI) (m:List bN) (r:List jR):Prop:=∀rs,RV l rs→r.any (bkB rs)=(m.any (S9 rs)||!ownB l rs)
variable {m_:List bN}
theorem ab5 (h1:l_.length≤2000000) (h2:m_.length≤2000000) (h3:∀x∈m_,0≤x.eZ∧x.eZ<l_.length):W (J3 l_ m_) (λ r=>r.length≤m_.length+l_.length∧(∀b∈r,0≤b.BF∧b.BF<l_.length)∧auI l_ m_ r):=by
 unfold J3;refine bI (λ g1:Int×List jR=>0≤g1.1∧g1.1≤m_.length∧(g1.2.length:Int)≤g1.1∧(∀b∈g1.2,0≤b.BF∧b.BF<l_.length)∧∀rs,RV l_ rs→g1.2.any (bkB rs)=(m_.take g1.1.toNat).any (S9 rs)) (λ g1=>(m_.length - g1.1).toNat) ?_ ⟨ob,ob,ob,nofun,λ _ _=>rfl⟩;intro aj g1 ⟨a1,a2,a3,a4,a5⟩ ih1;unfold Rv;refine wi ?_ ?_<;>intro c
 ·have hx:=h3 _ (getD_in (i:=g1.1.toNat) dx om);refine wm<|wn ?_;refine ih1 _ ⟨ob,ob,ob,λ b hb=>?_,λ rs hr=>?_⟩ ob
  ·rcases List.mem_append.1 hb with h | h
   ·exact a4 b h
   ·rw [List.mem_singleton] at h; subst h;exact hx
  ·dsimp only;rw [List.any_append,a5 rs hr,show (g1.1+1).toNat=g1.1.toNat+1 by omega,any_take_succ _ _ dx om];congr 1;rw [List.any_cons,List.any_nil,Bool.or_false];unfold bkB S9;dsimp only;rw [af8 (hr _ om)];cases nR (rs.getD (m_.getD g1.1.toNat dx).eZ.toNat dS)<;>rfl
 ·refine bI (λ g2:Int×List jR=>0≤g2.1∧g2.1≤l_.length∧(g2.2.length:Int)≤m_.length+g2.1∧(∀b∈g2.2,0≤b.BF∧b.BF<l_.length)∧∀rs,RV l_ rs→g2.2.any (bkB rs)=(m_.any (S9 rs)||(List.range g2.1.toNat).any λ i=>adR (rs.getD i dS) (l_.getD i aK))) (λ g2=>(l_.length - g2.1).toNat) ?_ ⟨ob,ob,by dsimp only; omega,a4,λ rs hr=>?_⟩
  ·intro dK g2 ⟨b1,b2,b3,b4,b5⟩ ih2;unfold Ru;refine wi ?_ ?_<;>intro c2
   ·have e:(g2.1+1).toNat=g2.1.toNat+1:=by omega
    refine wn<|bJ ?_ ?_<;>intro c3
    ·refine wm<|wn ?_;refine ih2 _ ⟨ob,ob,ob,λ b hb=>?_,λ rs hr=>?_⟩ ob
     ·rcases List.mem_append.1 hb with h | h
      ·exact b4 b h
      ·rw [List.mem_singleton] at h; subst h;exact ⟨by dsimp only; omega,by dsimp only; omega⟩
     ·dsimp only;rw [List.any_append,b5 rs hr,e,List.range_succ,List.any_append,Bool.or_assoc];congr 2;rw [List.any_cons,List.any_nil,Bool.or_false,List.any_cons,List.any_nil,Bool.or_false];unfold bkB adR;dsimp only;rw [af8 (hr _ om),c3];cases nR (rs.getD g2.1.toNat dS)<;>rfl
    ·refine wn<|ih2 _ ⟨ob,ob,ob,b4,λ rs hr=>?_⟩ ob;dsimp only;rw [b5 rs hr,e,List.range_succ,List.any_append,List.any_cons,List.any_nil,Bool.or_false,show adR (rs.getD g2.1.toNat dS) (l_.getD g2.1.toNat aK)=false by unfold adR; rw [c3,Bool.and_false]; rfl,Bool.or_false]
   ·refine av ⟨om,b4,λ rs hr=>?_⟩;rw [b5 rs hr,show g2.1.toNat=l_.length by omega,List.any_eq_not_all_not (l:=List.range l_.length)];rfl
  ·dsimp only;rw [a5 rs hr,show g1.1.toNat=m_.length by omega,List.take_length];simp
theorem JC {b_:jR} {r_:bL}:W (nM b_ r_) (λ v=>v=bif r_.j5==0 then !b_.ait else !oH r_ b_.flow b_.ais):=by
 unfold nM;exact bJ (λ c=>av (by rw [c]; rfl)) (λ c=>aF GR λ v e=>av (by rw [c,e]; rfl))
theorem arY {b k:Int} (h0:0≤k) (h1:k<64):orI .u64 b (TP .u64 1 k)≠0:=by
 intro h;have hk:k.toNat<64:=by omega
 have hp:(2:Nat) ^ k.toNat<2 ^ 64:=Nat.pow_lt_pow_right om hk;have e:(1:Int)*2 ^ min k.toNat IntKind.u64.bits=((2 ^ k.toNat:Nat):Int):=by
  rw [show IntKind.u64.bits=64 from rfl,Nat.min_eq_left om,Int.one_mul];exact (Int.natCast_pow 2 k.toNat).symm
 have hw:=Sp.wrap_u64 (n:=((2 ^ k.toNat:Nat):Int)) ⟨Int.natCast_nonneg _,om⟩;have hs:(BitVec.ofInt 64 (TP .u64 1 k)).getLsbD k.toNat=true:=by
  unfold TP;rw [e,hw,BitVec.ofInt_natCast,BitVec.getLsbD_ofNat];simp [Nat.testBit_two_pow,hk]
 have hb:(BitVec.ofInt 64 b ||| BitVec.ofInt 64 (TP .u64 1 k)).getLsbD k.toNat=true:=by
  rw [BitVec.getLsbD_or,hs,Bool.or_true]
 unfold orI at h;rw [show IntKind.u64.bits=64 from rfl] at h;have hl:=(BitVec.ofInt 64 b ||| BitVec.ofInt 64 (TP .u64 1 k)).isLt;rw [Sp.wrap_u64 ⟨om,om⟩] at h;have hz:BitVec.ofInt 64 b ||| BitVec.ofInt 64 (TP .u64 1 k)=0:=BitVec.eq_of_toNat_eq (by rw [show (0:BitVec 64).toNat=0 from rfl]; omega);rw [hz] at hb;simp at hb
theorem VB {k:Int} {o:List Int} (h:s.length≤2000000):W (xJ k s o false) (λ r=>(k=0∧r=(false,s,true))∨(k≠0∧r=(true,o,false))):=by
 unfold xJ;refine bJ (λ c=>aF (EC h) λ _ e=>av (.inl ⟨by simpa using c,by rw [e]; rfl⟩)) (λ c=>av (.inr ⟨by simpa using c,rfl⟩))
theorem ahM {m:List bN} (h1:kM l m=true) (h2:VS l s):fq l s m=!(m.any (S9 (gD l s))||!ownB l (gD l s)):=by
 unfold fq;rw [h1,U2 h2];cases ownB l (gD l s)<;>cases m.any (S9 (gD l s))<;>rfl
theorem MF (h0:kM l_ m_=true):W (Da l_ m_ [] false) (λ r=>(r.2=true∧af7 l_ m_ r.1)∨(r.2=false∧∀t,VS l_ t→fq l_ t m_=false)):=by
 obtain ⟨h1,h2,_⟩:=yx h0;have h3:=aiD h0;have hf:=vB h1;have hlen:=hf.len;have hcb:∀i,i<l_.length→(l_.getD i aK).aN.length≤8:=λ i hi=>(hf.big i hi).2;unfold Da;refine aF (ab5 om om h3) λ v1 ⟨hv1,hv2,hv3⟩=>?_;refine wn<|bI (λ g1:List Int×Bool×List Int=>VS l_ g1.2.2∧g1.1=[]∧g1.2.1=false∧∀t,VS l_ t→oC l_ t<oC l_ g1.2.2→fq l_ t m_=false) (λ g1=>rH l_ - oC l_ g1.2.2) ?_ ⟨aiC hf,rfl,rfl,λ t _ ht=>?_⟩
 ·intro aj g1 ⟨hvs,ho1,ho2,hlow⟩ ih1;obtain ⟨hsl,hsv⟩:=id hvs;have hpl:=Kz hvs;have hst:=U2 hvs;unfold K3;refine aF (Xv om om (λ i hi=>by have:=hcb i hi; omega)) λ v12 MR=>?_;have hre:v12.1=gD l_ g1.2.2:=by
   rw [MR]; unfold vT; rw [h1,hst]; rfl
  have hrl:v12.1.length=l_.length:=by
   rw [hre]; exact sM _ _ _
  have hrv:RV l_ (gD l_ g1.2.2):=λ i hi=>(Qx hf hst i hi).2.2.1;have hmt:=ahM h0 hvs;rw [← hv3 _ hrv] at hmt;refine bI (λ g10:Int×Int=>0≤g10.2∧g10.2≤v1.length∧(g10.1=0↔(v1.take g10.2.toNat).any (bkB (gD l_ g1.2.2))=false)) (λ g10=>(v1.length - g10.2).toNat) ?_ ⟨ob,ob,by simp⟩;intro adD g10 ⟨a1,a2,a3⟩ arZ;unfold KZ;refine wi ?_ ?_<;>intro c
  ·have hb:=hv2 _ (getD_in (i:=g10.2.toNat) xu om);have e:(g10.2+1).toNat=g10.2.toNat+1:=by omega
   have hts:=any_take_succ (bkB (gD l_ g1.2.2)) v1 xu (i:=g10.2.toNat) om;refine wm<|aF JC λ v15 QN=>?_;rw [hre] at QN;have QN:v15=bkB (gD l_ g1.2.2) (v1.getD g10.2.toNat xu):=QN;refine bJ ?_ ?_<;>intro c2
   ·refine wm<|arZ _ ⟨ob,ob,?_⟩ ob;dsimp only;rw [e,hts,← QN,c2,Bool.or_true];exact ⟨λ q=>absurd q (arY a1 om),nofun⟩
   ·refine wn<|arZ _ ⟨ob,ob,?_⟩ ob;dsimp only;rw [e,hts,← QN,c2,Bool.or_false];exact a3
  ·rw [show g10.2.toNat=v1.length by omega,List.take_length] at a3;rw [ho1,ho2];refine aF (VB om) λ v16 ahp=>?_;rcases ahp with ⟨k0,rfl⟩ | ⟨k0,rfl⟩
   ·refine bJ (λ c2=>av (.inl ⟨rfl,hvs,by rw [hmt,a3.1 k0]; rfl,λ t ht hm=>?_⟩)) (λ c2=>by cases c2);exact Nat.le_of_not_lt λ q=>by rw [hlow t ht q] at hm; cases hm
   have hno:fq l_ g1.2.2 m_=false:=by
    rw [hmt];cases q:v1.any (bkB (gD l_ g1.2.2)) with
    | true=>rfl
    | false=>exact absurd (a3.2 q) k0
   refine bJ (λ c2=>by cases c2) (λ _=>?_);refine wn<|bI (λ g13:Int => -1≤g13∧g13<l_.length∧∀j:Nat,g13<(j:Int)→j<l_.length→g1.2.2.getD j 0+1=(l_.getD j aK).aN.length) (λ g13=>(g13+1).toNat) ?_ ⟨ob,ob,λ j h1 h2=>by omega⟩;intro ahj g13 ⟨b1,b2,b3⟩ auJ;unfold Ik;refine aO (λ e=>by have e:=nr e; omega) ?_;refine aO (λ e=>by have e:=nr e; omega) ?_;refine aO (λ e=>by have e:=nr e; have:=hcb g13.toNat om; exact ob) ?_;refine bJ ?_ ?_<;>intro c3
   ·have c3:=nr c3;refine wn<|auJ _ ⟨om,om,λ j h1 h2=>?_⟩ om;by_cases q:g13<(j:Int)
    ·exact b3 j q h2
    ·have e:j=g13.toNat:=by omega
     subst e; omega
   ·unfold zG;refine bJ ?_ ?_<;>intro c4
    ·have c4:=nr c4;have hmx:=ad5 hvs λ j hj=>b3 j om hj;refine av (.inr ⟨rfl,λ t ht=>?_⟩);have hpt:=Kz ht;by_cases q:oC l_ t<oC l_ g1.2.2
     ·exact hlow t ht q
     ·rw [Zr ht hvs om]; exact hno
    have c4:=nr c4;have hg:=hsv g13.toNat om;have hc8:=hcb g13.toNat om;have hne:g1.2.2.getD g13.toNat 0+1<(l_.getD g13.toNat aK).aN.length:=by
     rw [Bool.and_eq_false_iff] at c3;rcases c3 with c3 | c3
     ·have c3:=nr c3; omega
     ·have c3:=nr c3; omega
    refine wm<|wm ?_;refine wn ?_;have hset:(g1.2.2.set g13.toNat (g1.2.2.getD g13.toNat 0+1)).length=l_.length:=by rw [List.length_set,hsl]
    have hgd:∀j:Nat,j<l_.length→(Yl (g1.2.2.set g13.toNat (g1.2.2.getD g13.toNat 0+1)) (0+(g13+1).toNat) (List.replicate (g1.2.2.length - (g13+1).toNat) 0)).getD j 0=if g13.toNat<j then 0 else if j=g13.toNat then g1.2.2.getD g13.toNat 0+1 else g1.2.2.getD j 0:=λ j hj=>by
     rw [Qk 0 om,List.length_replicate,Sp.fZ,Sp.mP];by_cases q:g13.toNat<j
     ·rw [if_pos om,if_pos q]
     ·rw [if_neg om,if_neg q];by_cases q2:j=g13.toNat
      ·rw [if_pos ⟨q2,om⟩,if_pos q2]
      ·rw [if_neg (λ e=>q2 e.1),if_neg q2]
    have hn:=aiB hvs (k:=g13.toNat) (t:=Yl (g1.2.2.set g13.toNat (g1.2.2.getD g13.toNat 0+1)) (0+(g13+1).toNat) (List.replicate (g1.2.2.length - (g13+1).toNat) 0)) om (by rw [iw]; exact hset) (λ j hj=>by rw [hgd j om,if_neg om,if_neg om]) (by rw [hgd _ om,if_neg om,if_pos rfl]) (λ j h1 h2=>⟨by rw [hgd j h2,if_pos h1],b3 j om h2⟩) hne;have hp2:=Kz hn.1;refine ih1 _ ⟨hn.1,rfl,rfl,λ t ht hp=>?_⟩ (by dsimp only; omega);dsimp only at hp;rw [hn.2] at hp;by_cases q:oC l_ t<oC l_ g1.2.2
    ·exact hlow t ht q
    ·rw [Zr ht hvs om]; exact hno
 ·dsimp only at ht;rw [aaQ λ j _=>Sp.mP _ _ _] at ht;omega
theorem MG (h:kM l_ m_=true):W (CZ l_ m_) (λ r=>r=0):=by
 obtain ⟨h1,h2,_⟩:=yx h;have hl:=(vB h1).len;unfold CZ;refine aF (wQ (uP om)) λ v1 hv1=>?_;subst v1;rw [h1];refine bJ (λ c1=>by cases c1) (λ _=>?_);refine aF (O6 om om) λ v2 hv2=>?_;subst v2;rw [h];exact bJ (λ c=>by cases c) (λ _=>av rfl)
theorem Y0 (h:kM l_ m_=true) (he:∃t,VS l_ t∧fq l_ t m_=true):W (sW l_ m_) (λ r=>r.2=0∧af7 l_ m_ r.1):=by
 unfold sW;refine aF (MG h) λ v1 hv1=>?_;subst v1;refine bJ (λ c1=>by cases c1) (λ _=>?_);refine aF (MF h) λ v2 hv2=>?_;rcases hv2 with ⟨k,hs⟩ | ⟨k,hn⟩
 ·rw [k]; exact bJ (λ c=>by cases c) (λ _=>av ⟨rfl,hs⟩)
 ·obtain ⟨t,ht,hm⟩:=he;rw [hn t ht] at hm; cases hm
end Go.Proofs.YtccjmcmolnbiiaaGreatDoor

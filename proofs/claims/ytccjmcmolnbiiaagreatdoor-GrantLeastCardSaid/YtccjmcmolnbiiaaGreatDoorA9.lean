/- An abstract machine over the model's code, that it is sound; models of the functions and their proofs. -/
import Derived.Test.YtccjmcmolnbiiaaGreatDoorA8
import Derived.Test.YtccjmcmolnbiiaaGreatDoorA7
import Derived.Test.YtccjmcmolnbiiaaGreatDoorA6
set_option linter.unusedVariables false
set_option linter.unusedSimpArgs false
namespace Go.Proofs.YtccjmcmolnbiiaaGreatDoor
open Go.Ab
set_option maxRecDepth 100000
set_option maxHeartbeats 20000000
variable {r:Bool}
theorem adC {l_:List Int} {x_:Int} (hm:YW l_ x_ r):S 250 [aC l_,iV x_] [] (.bool r) [] :=sp Tryz.func250 rfl<|l0 hm (λ g1=>⟨[(0,aC l_),(1,iV x_),(5,iV g1)],[],0⟩) <|λ aj g1 hm=>si hm (λ _ hm=>sn hm λ _ hm=>si hm (λ _ hm=>by cases hm;exact re) λ _ hm=>sn hm λ _ hm=>le hm) λ _ hm=>by cases hm;exact re
theorem nH {l_:List Int} {wB:Int} {yt:Int} (hm:lN l_ wB yt r):S 232 [aC l_,iV wB,iV yt] [] (.bool r) [] :=sp Tryz.func232 rfl<|l0 hm (λ g1=>⟨[(0,aC l_),(1,iV wB),(2,iV yt),(9,aC l_),(10,iV (l_.length:Int)),(11,iV g1)],[],0⟩) <|λ aj g1 hm=>si hm (λ _ hm=>s2 hm λ _ _ hm=>sb hm λ v3 hv3 hm=>cl (λ q0=>((adC (hv3 q0)).le ⟨(.sl oz (λ _=>rfl) nofun (l8 (f:=iV) (d:=0) (by first | omega | exact Nat.min_le_left _ _ | exact Nat.le_trans (Nat.min_le_left _ _) om | (simp; omega)))),.refl _,trivial⟩ trivial))<|si hm (λ _ hm=>by cases hm;exact re) λ _ hm=>sn hm λ _ hm=>le hm) λ _ hm=>by cases hm;exact re
theorem O5 {a_:List Int} {b_:List Int} (hm:HY a_ b_ r):S 233 [aC a_,aC b_] [] (.bool r) [] :=sp Tryz.func233 rfl<|si hm (λ _ hm=>by cases hm;exact re) λ _ hm=>l0 hm (λ g1=>⟨[(0,aC a_),(1,aC b_),(5,iV g1)],[],0⟩) <|λ aj g1 hm=>si hm (λ _ hm=>s2 hm λ _ _ hm=>si hm (λ _ hm=>by cases hm;exact re) λ _ hm=>sn hm λ _ hm=>le hm) λ _ hm=>by cases hm;exact re
theorem SL {c_:aI} (hm:zK c_ r):S 208 [M4 c_] [] (.bool r) [] :=sp Tryz.func208 rfl<|si hm (λ _ hm=>s2 hm λ _ _ hm=>by cases hm;exact re) λ _ hm=>si hm (λ _ hm=>si hm (λ _ hm=>sb hm λ v1 hv1 hm=>cl (λ q0=>(nH (hv1 q0)))<|by cases hm;exact re) λ _ hm=>si hm (λ _ hm=>sn hm λ _ hm=>sb hm λ v2 hv2 hm=>cl (λ q0=>(nH (hv2 q0)))<|by cases hm;exact re) λ _ hm=>si hm (λ _ hm=>si hm (λ _ hm=>sb hm λ v3 hv3 hm=>cl (λ q0=>((O5 (hv3 q0)).le ⟨.refl _,(.sl rfl (λ _=>rfl) nofun (gN iV 0 [(0:Int),(1:Int)])),trivial⟩ trivial))<|by cases hm;exact re) λ c6 hm=>by
 refine ⟨.bool false,[],(λ q0=>absurd q0 (vac c6)),?_⟩
 (conv=>whnf)
 have hm:r=(((c_.aP.length:Int)==(1:Int))&&false):=hm
 subst hm
 refine ⟨[],[],?_⟩
 (conv=>whnf)
 exact ⟨⟨rfl,trivial,trivial⟩,rfl⟩) λ _ hm=>by cases hm;exact re) λ _ hm=>si hm (λ _ hm=>sb hm λ v4 hv4 hm=>cl (λ q0=>(nH (hv4 q0)))<|by cases hm;exact re) λ _ hm=>si hm (λ _ hm=>sn hm λ _ hm=>sb hm λ v5 hv5 hm=>cl (λ q0=>(nH (hv5 q0)))<|by cases hm;exact re) λ _ hm=>si hm (λ _ hm=>si hm (λ _ hm=>sb hm λ v6 hv6 hm=>cl (λ q0=>((O5 (hv6 q0)).le ⟨.refl _,(.sl rfl (λ _=>rfl) nofun (gN iV 0 [(0:Int),(1:Int)])),trivial⟩ trivial))<|by cases hm;exact re) λ c10 hm=>by
 refine ⟨.bool false,[],(λ q0=>absurd q0 (vac c10)),?_⟩
 (conv=>whnf)
 have hm:r=(((c_.aP.length:Int)==(1:Int))&&false):=hm
 subst hm
 refine ⟨[],[],?_⟩
 (conv=>whnf)
 exact ⟨⟨rfl,trivial,trivial⟩,rfl⟩) λ _ hm=>by cases hm;exact re
variable {l_:List aI}
theorem SN {r:List Int} (hm:zL l_ r):S 209 [bg l_] [] (aC r) [] :=spc [13] Tryz.func209 rfl<|Vo [13] hm (λ g1=>⟨[(3,.eF 0 0 g1.2.length false),(9,bg l_),(10,iV (l_.length:Int)),(11,iV g1.1)],[(0,some (.row 1 g1.2.length (bP iV 0 g1.2)))],1⟩) [(0,none)] [] <|λ aj g1 hm=>si hm (λ _ hm=>sn hm λ _ hm=>Vo [13] hm (λ g6=>⟨[(3,.eF 0 0 g1.2.length false),(5,.ptr 1 0 0),(6,iV g6.1),(9,bg l_),(10,iV (l_.length:Int)),(11,iV g1.1),(16,aC ((l_.getD g1.1.toNat aK).aP)),(17,iV ((((l_.getD g1.1.toNat aK).aP).length:Nat):Int)),(18,iV g6.2)],[(0,some (.row 1 g1.2.length (bP iV 0 g1.2))),(1,some (.box [iV ((l_.getD g1.1.toNat aK).fV),aC ((l_.getD g1.1.toNat aK).aP),aC ((l_.getD g1.1.toNat aK).aM),iV ((l_.getD g1.1.toNat aK).Low),iV ((l_.getD g1.1.toNat aK).fO)]))],2⟩) [(1,some 25)] [] <|λ jG g6 hm=>si hm (λ _ hm=>s2 hm λ _ _ hm=>sn hm λ _ hm=>le hm) λ _ hm=>ck [13] (nA g1 aj) r (λ g7=>⟨[(3,.eF 0 0 g1.2.length false),(6,iV g7),(9,bg l_),(10,iV (l_.length:Int)),(11,iV g1.1)],[(0,some (.row 1 g1.2.length (bP iV 0 g1.2)))],1⟩) (si hm (λ _ hm=>sn hm λ _ hm=>le hm) λ _ hm=>le hm) λ g7 hm=>s2 hm λ _ _ hm=>lc [(0,some 25)] [] hm) λ _ hm=>by cases hm;exact rt [0] []
theorem tF {r:Int} (hm:rV l_ r):S 159 [bg l_] [] (iV r) [] :=sp Tryz.func159 rfl<|si hm (λ _ hm=>by cases hm;exact re) λ _ hm=>l0 hm (λ g1=>⟨[(0,bg l_),(15,bg l_),(16,iV (l_.length:Int)),(17,iV g1)],[],0⟩) <|λ aj g1 hm=>si hm (λ _ hm=>sn hm λ _ hm=>si hm (λ _ hm=>by cases hm;exact re) λ _ hm=>sn hm λ _ hm=>le hm) λ _ hm=>l0 hm (λ g2=>⟨[(0,bg l_),(5,iV g2.1),(32,bg l_),(33,iV (l_.length:Int)),(34,iV g2.2)],[],0⟩) <|λ dJ g2 hm=>si hm (λ _ hm=>sn hm λ _ hm=>lf hm (λ g5=>⟨[(0,bg l_),(5,iV g2.1),(6,iV g2.2),(7,.ptr 0 0 0),(32,bg l_),(33,iV (l_.length:Int)),(34,iV g2.2),(40,aC ((l_.getD g2.2.toNat aK).aP)),(41,iV ((((l_.getD g2.2.toNat aK).aP).length:Nat):Int)),(42,iV g5)],[(0,some (.box [iV ((l_.getD g2.2.toNat aK).fV),aC ((l_.getD g2.2.toNat aK).aP),aC ((l_.getD g2.2.toNat aK).aM),iV ((l_.getD g2.2.toNat aK).Low),iV ((l_.getD g2.2.toNat aK).fO)]))],1⟩) [(0,some 32)] [] <|λ j5 g5 hm=>si hm (λ _ hm=>sn hm λ _ hm=>si hm (λ _ hm=>by cases hm;exact re) λ _ hm=>sn hm λ _ hm=>le hm) λ _ hm=>sq hm SL λ v3 hm=>si hm (λ _ hm=>by cases hm;exact re) λ _ hm=>s2 hm λ _ _ hm=>le hm) λ _ hm=>si hm (λ _ hm=>by cases hm;exact re) λ _ hm=>sq hm SN λ v4 hm=>l0 hm (λ g6=>⟨[(84,aC v4),(85,iV (v4.length:Int)),(86,iV g6)],[],0⟩) <|λ jG g6 hm=>si hm (λ _ hm=>sn hm λ _ hm=>si hm (λ _ hm=>by cases hm;exact re) λ _ hm=>sn hm λ _ hm=>le hm) λ _ hm=>by cases hm;exact re
theorem kQ {x_:Int} {wB:Int} {yt:Int} (hm:ql x_ wB yt r):S 166 [iV x_,iV wB,iV yt] [] (.bool r) [] :=sp Tryz.func166 rfl<|by cases hm;exact re
theorem tH {l_:List aD} {r:Int} (hm:rW l_ r):S 160 [aV l_] [] (iV r) [] :=sp Tryz.func160 rfl<|si hm (λ _ hm=>by cases hm;exact re) λ _ hm=>l0 hm (λ g1=>⟨[(0,aV l_),(12,aV l_),(13,iV (l_.length:Int)),(14,iV g1)],[],0⟩) <|λ aj g1 hm=>si hm (λ _ hm=>sn hm λ _ hm=>si hm (λ _ hm=>by cases hm;exact re) λ _ hm=>sn hm λ _ hm=>le hm) λ _ hm=>l0 hm (λ g2=>⟨[(23,aV l_),(24,iV (l_.length:Int)),(25,iV g2)],[],0⟩) <|λ dJ g2 hm=>si hm (λ _ hm=>s2 hm λ _ _ hm=>sq hm kQ λ v13 hm=>sb hm λ v14 TY hm=>cl (λ q0=>(kQ (TY q0)))<|sb hm λ v15 T9 hm=>cl (λ q0=>(kQ (T9 q0)))<|si hm (λ _ hm=>by cases hm;exact re) λ _ hm=>lf hm (λ g5=>⟨[(6,.ptr 0 0 0),(23,aV l_),(24,iV (l_.length:Int)),(25,iV g2),(65,aC ((l_.getD g2.toNat au).bJ)),(66,iV ((((l_.getD g2.toNat au).bJ).length:Nat):Int)),(67,iV g5)],[(0,some (.box [iV ((l_.getD g2.toNat au).aN),aC ((l_.getD g2.toNat au).bJ),iV ((l_.getD g2.toNat au).gB),iV ((l_.getD g2.toNat au).gZ),.bool ((l_.getD g2.toNat au).fK)]))],1⟩) [(0,some 32)] [] <|λ j5 g5 hm=>si hm (λ _ hm=>sn hm λ _ hm=>sq hm kQ λ v18 hm=>s2 hm λ _ _ hm=>si hm (λ _ hm=>by cases hm;exact re) λ _ hm=>sn hm λ _ hm=>le hm) λ _ hm=>sn hm λ _ hm=>le hm) λ _ hm=>by cases hm;exact re
theorem u6 {s_:ByteArray} (hm:vF s_ r):S 150 [.str s_] [] (.bool r) [] :=sp Tryz.func150 rfl<|s2 hm λ _ _ hm=>si hm (λ _ hm=>by cases hm;exact re) λ _ hm=>l0 hm (λ g1=>⟨[(0,.str s_),(3,iV g1)],[],0⟩) <|λ aj g1 hm=>si hm (λ _ hm=>s2 hm λ _ _ hm=>s2 hm λ _ _ hm=>sn hm λ _ hm=>si hm (λ _ hm=>by cases hm;exact re) λ _ hm=>sn hm λ _ hm=>le hm) λ _ hm=>by cases hm;exact re
theorem Wx {p_:bn} {i_:Int} {r:Int} (hm:Fv p_ i_ r):S 104 [lX p_,iV i_] [] (iV r) [] :=sp Tryz.func104 rfl<|sn hm λ _ hm=>sq hm u6 λ v1 hm=>si hm (λ _ hm=>by cases hm;exact re) λ _ hm=>lf hm (λ g1=>⟨[(1,iV i_),(2,.ptr 0 0 0),(5,.ptr 1 0 0),(6,iV g1)],[(0,some (.box [iV p_.bS,bA p_.ay])),(1,some (.box [.str ((p_.ay.getD i_.toNat aG).wI),aC ((p_.ay.getD i_.toNat aG).bS),gG ((p_.ay.getD i_.toNat aG).ak)]))],2⟩) [(1,some 56)] [] <|λ aj g1 hm=>si hm (λ _ hm=>sn hm λ _ hm=>si hm (λ _ hm=>by cases hm;exact re) λ _ hm=>sn hm λ _ hm=>le hm) λ _ hm=>si hm (λ _ hm=>by cases hm;exact re) λ _ hm=>si hm (λ _ hm=>by cases hm;exact re) λ _ hm=>l0 hm (λ g2=>⟨[(2,.ptr 0 0 0),(5,.ptr 1 0 0),(7,iV g2)],[(0,some (.box [iV p_.bS,bA p_.ay])),(1,some (.box [.str ((p_.ay.getD i_.toNat aG).wI),aC ((p_.ay.getD i_.toNat aG).bS),gG ((p_.ay.getD i_.toNat aG).ak)]))],2⟩) <|λ dJ g2 hm=>si hm (λ _ hm=>s2 hm λ _ _ hm=>si hm (λ _ hm=>by cases hm;exact re) λ _ hm=>sn hm λ _ hm=>le hm) λ _ hm=>lf hm (λ g3=>⟨[(5,.ptr 0 0 0),(8,iV g3)],[(0,some (.box [.str ((p_.ay.getD i_.toNat aG).wI),aC ((p_.ay.getD i_.toNat aG).bS),gG ((p_.ay.getD i_.toNat aG).ak)]))],1⟩) [(0,some 1)] [] <|λ jV g3 hm=>si hm (λ _ hm=>s2 hm λ _ _ hm=>sn hm λ _ hm=>si hm (λ _ hm=>by cases hm;exact re) λ _ hm=>sn hm λ _ hm=>le hm) λ _ hm=>l0 hm (λ g4=>⟨[(5,.ptr 0 0 0),(9,iV g4)],[(0,some (.box [.str ((p_.ay.getD i_.toNat aG).wI),aC ((p_.ay.getD i_.toNat aG).bS),gG ((p_.ay.getD i_.toNat aG).ak)]))],1⟩) <|λ jk g4 hm=>si hm (λ _ hm=>sn hm λ _ hm=>sq hm u6 λ v4 hm=>si hm (λ _ hm=>by cases hm;exact re) λ _ hm=>sn hm λ _ hm=>le hm) λ _ hm=>l0 hm (λ g5=>⟨[(5,.ptr 0 0 0),(10,iV g5)],[(0,some (.box [.str ((p_.ay.getD i_.toNat aG).wI),aC ((p_.ay.getD i_.toNat aG).bS),gG ((p_.ay.getD i_.toNat aG).ak)]))],1⟩) <|λ j5 g5 hm=>si hm (λ _ hm=>l0 hm (λ g8=>⟨[(5,.ptr 0 0 0),(10,iV g5),(11,iV g8)],[(0,some (.box [.str ((p_.ay.getD i_.toNat aG).wI),aC ((p_.ay.getD i_.toNat aG).bS),gG ((p_.ay.getD i_.toNat aG).ak)]))],1⟩) <|λ Z8 g8 hm=>si hm (λ _ hm=>s2 hm λ _ _ hm=>si hm (λ _ hm=>by cases hm;exact re) λ _ hm=>sn hm λ _ hm=>le hm) λ _ hm=>sn hm λ _ hm=>le hm) λ _ hm=>by cases hm;exact re
theorem zA {p_:bn} {r:Int} (hm:vY p_ r):S 52 [lX p_] [] (iV r) [] :=sp Tryz.func52 rfl<|si hm (λ _ hm=>by cases hm;exact re) λ _ hm=>si hm (λ _ hm=>by cases hm;exact re) λ _ hm=>l0 hm (λ g1=>⟨[(1,.ptr 0 0 0),(3,iV g1)],[(0,some (.box [iV p_.bS,bA p_.ay]))],1⟩) <|λ aj g1 hm=>si hm (λ _ hm=>sq hm Wx λ v3 hm=>si hm (λ _ hm=>by cases hm;exact re) λ _ hm=>sn hm λ _ hm=>le hm) λ _ hm=>by cases hm;exact re
theorem zB {l_:List eG} {r:Int} (hm:vZ l_ r):S 77 [dz l_] [] (iV r) [] :=sp Tryz.func77 rfl<|si hm (λ _ hm=>by cases hm;exact re) λ _ hm=>l0 hm (λ g1=>⟨[(0,dz l_),(3,iV g1)],[],0⟩) <|λ aj g1 hm=>si hm (λ _ hm=>l0 hm (λ g6=>⟨[(0,dz l_),(3,iV g1),(4,iV g6)],[],0⟩) <|λ jG g6 hm=>sn hm λ _ hm=>si hm (λ _ hm=>s2 hm λ _ _ hm=>s2 hm λ _ _ hm=>si hm (λ _ hm=>by cases hm;exact re) λ _ hm=>sn hm λ _ hm=>le hm) λ _ hm=>l0 hm (λ g7=>⟨[(0,dz l_),(3,iV g1),(5,iV g7)],[],0⟩) <|λ nQ g7 hm=>sn hm λ _ hm=>si hm (λ _ hm=>s2 hm λ _ _ hm=>s2 hm λ _ _ hm=>sn hm λ _ hm=>si hm (λ _ hm=>by cases hm;exact re) λ _ hm=>sn hm λ _ hm=>le hm) λ _ hm=>sn hm λ _ hm=>le hm) λ _ hm=>by cases hm;exact re
theorem zC {l_:List dD} {r:Int} (hm:wh l_ r):S 131 [bU l_] [] (iV r) [] :=sp Tryz.func131 rfl<|si hm (λ _ hm=>by cases hm;exact re) λ _ hm=>l0 hm (λ g1=>⟨[(0,bU l_),(3,iV g1)],[],0⟩) <|λ aj g1 hm=>si hm (λ _ hm=>s2 hm λ _ _ hm=>si hm (λ _ hm=>by cases hm;exact re) λ _ hm=>sn hm λ _ hm=>le hm) λ _ hm=>by cases hm;exact re
theorem Wy {b_:aS} {r:Int} (hm:Fw b_ r):S 111 [jy b_] [] (iV r) [] :=sp Tryz.func111 rfl<|sq hm tF λ v1 hm=>si hm (λ _ hm=>by cases hm;exact re) λ _ hm=>sq hm tH λ v2 hm=>si hm (λ _ hm=>by cases hm;exact re) λ _ hm=>sq hm zA λ v3 hm=>si hm (λ _ hm=>by cases hm;exact re) λ _ hm=>sq hm zB λ v4 hm=>si hm (λ _ hm=>by cases hm;exact re) λ _ hm=>sq hm zC λ v5 hm=>by cases hm;exact re
theorem Yn {b_:aS} {l_:List aJ} {x_:aJ} {r:Int} (hm:JD b_ l_ x_ r):S 112 [jy b_,dO l_,wO x_] [] (iV r) [] :=sp Tryz.func112 rfl<|si hm (λ _ hm=>by cases hm;exact re) λ _ hm=>lf hm (λ g1=>⟨[(1,dO l_),(3,.ptr 0 0 0),(5,.ptr 1 0 0),(35,fB x_.bY),(36,iV (x_.bY.length:Int)),(37,iV g1)],[(0,some (.box [bg b_.bR,aV b_.bD,iV b_.aR.bS,bA b_.aR.ay,dz b_.aY,bU b_.cB])),(1,some (.box [fB x_.bY,fM x_.fJ,gG x_.ak,aC x_.aY,iV x_.fI,aC x_.bT]))],2⟩) [(1,some 8)] [] <|λ aj g1 hm=>si hm (λ _ hm=>sn hm λ _ hm=>si hm (λ _ hm=>by cases hm;exact re) λ _ hm=>sn hm λ _ hm=>le hm) λ _ hm=>l0 hm (λ g2=>⟨[(1,dO l_),(3,.ptr 0 0 0),(5,.ptr 1 0 0),(71,fM x_.fJ),(72,iV (x_.fJ.length:Int)),(73,iV g2)],[(0,some (.box [bg b_.bR,aV b_.bD,iV b_.aR.bS,bA b_.aR.ay,dz b_.aY,bU b_.cB])),(1,some (.box [fB x_.bY,fM x_.fJ,gG x_.ak,aC x_.aY,iV x_.fI,aC x_.bT]))],2⟩) <|λ dJ g2 hm=>si hm (λ _ hm=>sn hm λ _ hm=>si hm (λ _ hm=>by cases hm;exact re) λ _ hm=>sn hm λ _ hm=>le hm) λ _ hm=>l0 hm (λ g3=>⟨[(1,dO l_),(3,.ptr 0 0 0),(5,.ptr 1 0 0),(117,gG x_.ak),(118,iV (x_.ak.length:Int)),(119,iV g3)],[(0,some (.box [bg b_.bR,aV b_.bD,iV b_.aR.bS,bA b_.aR.ay,dz b_.aY,bU b_.cB])),(1,some (.box [fB x_.bY,fM x_.fJ,gG x_.ak,aC x_.aY,iV x_.fI,aC x_.bT]))],2⟩) <|λ jV g3 hm=>si hm (λ _ hm=>sn hm λ _ hm=>sq hm u6 λ v3 hm=>si hm (λ _ hm=>by cases hm;exact re) λ _ hm=>sn hm λ _ hm=>le hm) λ _ hm=>l0 hm (λ g4=>⟨[(1,dO l_),(3,.ptr 0 0 0),(5,.ptr 1 0 0),(128,aC x_.aY),(129,iV (x_.aY.length:Int)),(130,iV g4)],[(0,some (.box [bg b_.bR,aV b_.bD,iV b_.aR.bS,bA b_.aR.ay,dz b_.aY,bU b_.cB])),(1,some (.box [fB x_.bY,fM x_.fJ,gG x_.ak,aC x_.aY,iV x_.fI,aC x_.bT]))],2⟩) <|λ jk g4 hm=>si hm (λ _ hm=>sn hm λ _ hm=>si hm (λ _ hm=>by cases hm;exact re) λ _ hm=>sn hm λ _ hm=>le hm) λ _ hm=>si hm (λ _ hm=>by cases hm;exact re) λ _ hm=>lf hm (λ g5=>⟨[(1,dO l_),(5,.ptr 0 0 0),(156,aC x_.bT),(157,iV (x_.bT.length:Int)),(158,iV g5)],[(0,some (.box [fB x_.bY,fM x_.fJ,gG x_.ak,aC x_.aY,iV x_.fI,aC x_.bT]))],1⟩) [(0,some 1)] [] <|λ j5 g5 hm=>si hm (λ _ hm=>sn hm λ _ hm=>si hm (λ _ hm=>by cases hm;exact re) λ _ hm=>sn hm λ _ hm=>le hm) λ _ hm=>l0 hm (λ g6=>⟨[(5,.ptr 0 0 0),(17,iV g6)],[(0,some (.box [fB x_.bY,fM x_.fJ,gG x_.ak,aC x_.aY,iV x_.fI,aC x_.bT]))],1⟩) <|λ jG g6 hm=>si hm (λ _ hm=>s2 hm λ _ _ hm=>sn hm λ _ hm=>si hm (λ _ hm=>by cases hm;exact re) λ _ hm=>sn hm λ _ hm=>le hm) λ _ hm=>by cases hm;exact re
theorem u7 {b_:aS} {l_:List aJ} {r:Int} (hm:vG b_ l_ r):S 62 [jy b_,dO l_] [] (iV r) [] :=sp Tryz.func62 rfl<|sq hm Wy λ v1 hm=>si hm (λ _ hm=>by cases hm;exact re) λ _ hm=>si hm (λ _ hm=>by cases hm;exact re) λ _ hm=>l0 hm (λ g1=>⟨[(1,dO l_),(2,.ptr 0 0 0),(6,iV g1)],[(0,some (.box [bg b_.bR,aV b_.bD,iV b_.aR.bS,bA b_.aR.ay,dz b_.aY,bU b_.cB]))],1⟩) <|λ aj g1 hm=>si hm (λ _ hm=>sn hm λ _ hm=>sq hm Yn λ v4 hm=>si hm (λ _ hm=>by cases hm;exact re) λ _ hm=>sn hm λ _ hm=>le hm) λ _ hm=>by cases hm;exact re
variable {ah:List Int}
theorem pW {l_:List aJ} (hm:nK l_ ah r):S 63 [dO l_,aC ah] [] (.bool r) [] :=sp Tryz.func63 rfl<|l0 hm (λ g1=>⟨[(0,dO l_),(1,aC ah),(5,iV g1)],[],0⟩) <|λ aj g1 hm=>si hm (λ _ hm=>s2 hm λ _ _ hm=>si hm (λ _ hm=>by cases hm;exact re) λ _ hm=>l0 hm (λ g4=>⟨[(0,dO l_),(1,aC ah),(5,iV g1),(6,iV g4)],[],0⟩) <|λ jk g4 hm=>si hm (λ _ hm=>s2 hm λ _ _ hm=>si hm (λ _ hm=>by cases hm;exact re) λ _ hm=>sn hm λ _ hm=>le hm) λ _ hm=>sn hm λ _ hm=>le hm) λ _ hm=>by cases hm;exact re
theorem UW {l_:List aJ} {r:List bM} (hm:TN l_ ah r):S 22 [dO l_,aC ah] [] (fB r) [] :=sp Tryz.func22 rfl<|lf hm (λ g1=>⟨[(0,dO l_),(5,.eF 0 0 g1.2.length false),(8,aC ah),(9,iV (ah.length:Int)),(10,iV g1.1)],[(0,some (.row 3 g1.2.length (bP yY cZ g1.2)))],1⟩) [(0,none)] [] <|λ aj g1 hm=>si hm (λ _ hm=>sn hm λ _ hm=>si hm (λ _ hm=>s2 hm λ _ _ hm=>sn hm λ _ hm=>lc [(0,some 145)] [] hm) λ _ hm=>sn hm λ _ hm=>le hm) λ _ hm=>by cases hm;exact rt [0] []
theorem Wz {l_:List aJ} {r:List bq} (hm:Xt l_ ah r):S 24 [dO l_,aC ah] [] (fM r) [] :=sp Tryz.func24 rfl<|lf hm (λ g1=>⟨[(0,dO l_),(5,.eF 0 0 g1.2.length false),(8,aC ah),(9,iV (ah.length:Int)),(10,iV g1.1)],[(0,some (.row 4 g1.2.length (bP G9 dG g1.2)))],1⟩) [(0,none)] [] <|λ aj g1 hm=>si hm (λ _ hm=>sn hm λ _ hm=>si hm (λ _ hm=>s2 hm λ _ _ hm=>sn hm λ _ hm=>lc [(0,some 145)] [] hm) λ _ hm=>sn hm λ _ hm=>le hm) λ _ hm=>by cases hm;exact rt [0] []
theorem AL {l_:List aJ} {r:Int} (hm:qm l_ ah r):S 64 [dO l_,aC ah] [] (iV r) [] :=sp Tryz.func64 rfl<|l0 hm (λ g1=>⟨[(0,dO l_),(5,iV g1.1),(8,aC ah),(9,iV (ah.length:Int)),(10,iV g1.2)],[],0⟩) <|λ aj g1 hm=>si hm (λ _ hm=>sn hm λ _ hm=>si hm (λ _ hm=>s2 hm λ _ _ hm=>sn hm λ _ hm=>le hm) λ _ hm=>sn hm λ _ hm=>le hm) λ _ hm=>by cases hm;exact re
variable {m_:List bM}
theorem F4 (hm:xC l_ m_ r):S 161 [bg l_,fB m_] [] (.bool r) [] :=sp Tryz.func161 rfl<|sq hm tF λ v1 hm=>si hm (λ _ hm=>by cases hm;exact re) λ _ hm=>l0 hm (λ g1=>⟨[(0,bg l_),(15,fB m_),(16,iV (m_.length:Int)),(17,iV g1)],[],0⟩) <|λ aj g1 hm=>si hm (λ _ hm=>sn hm λ _ hm=>si hm (λ _ hm=>by cases hm;exact re) λ _ hm=>sn hm λ _ hm=>le hm) λ _ hm=>by cases hm;exact re
theorem WA {r:Int} (hm:Fx l_ m_ r):S 113 [bg l_,fB m_] [] (iV r) [] :=sp Tryz.func113 rfl<|sq hm tF λ v1 hm=>si hm (λ _ hm=>by cases hm;exact re) λ _ hm=>sq hm F4 λ v2 hm=>si hm (λ _ hm=>by cases hm;exact re) λ _ hm=>by cases hm;exact re
theorem UY {c_:aI} {uS:Int} {r:Int} (hm:CP c_ uS r):S 217 [M4 c_,iV uS] [] (iV r) [] :=sp Tryz.func217 rfl<|si hm (λ _ hm=>by cases hm;exact re) λ _ hm=>si hm (λ _ hm=>s2 hm λ _ _ hm=>by cases hm;exact re) λ _ hm=>sn hm λ _ hm=>by cases hm;exact re
theorem vL {a_:Int} {b_:Int} {r:Int} (hm:qB a_ b_ r):S 240 [iV a_,iV b_] [] (iV r) [] :=sp Tryz.func240 rfl<|l0 hm (λ g1=>⟨[(0,iV g1.1),(1,iV g1.2)],[],0⟩) <|λ aj g1 hm=>si hm (λ _ hm=>sn hm λ _ hm=>le hm) λ _ hm=>by cases hm;exact re
variable {r_:bK}
theorem tJ (hm:rX r_ r):S 220 [qg r_] [] (.bool r) [] :=sp Tryz.func220 rfl<|sb hm λ v1 hv1 hm=>cl (λ q0=>(vL (hv1 q0)))<|by cases hm;exact re
variable {k_:Int}
theorem F5 (hm:xD k_ r):S 238 [iV k_] [] (.bool r) [] :=sp Tryz.func238 rfl<|by cases hm;exact re
theorem O6 {wT:Int} {wU:Int} {r:bK×Int} (hm:Ia wT wU r):S 239 [iV wT,iV wU] [] (.kI [qg r.1,iV r.2]) [] :=sp Tryz.func239 rfl<|si hm (λ _ hm=>by cases hm;exact re) λ _ hm=>sq hm vL λ v1 hm=>s2 hm λ _ _ hm=>sq hm tJ λ v2 hm=>si hm (λ _ hm=>by cases hm;exact re) λ _ hm=>by cases hm;exact re
theorem Yo {r:bK×Int} (hm:JE r_ k_ r):S 218 [qg r_,iV k_] [] (.kI [qg r.1,iV r.2]) [] :=sp Tryz.func218 rfl<|sq hm tJ λ v1 hm=>si hm (λ _ hm=>by cases hm;exact re) λ _ hm=>sq hm F5 λ v2 hm=>si hm (λ _ hm=>by cases hm;exact re) λ _ hm=>sn hm λ _ hm=>sq hm O6 λ v3 hm=>by cases hm;exact re
theorem WB {r:bK×Int} (hm:Fy r_ k_ r):S 219 [qg r_,iV k_] [] (.kI [qg r.1,iV r.2]) [] :=sp Tryz.func219 rfl<|sq hm tJ λ v1 hm=>si hm (λ _ hm=>by cases hm;exact re) λ _ hm=>sq hm F5 λ v2 hm=>si hm (λ _ hm=>by cases hm;exact re) λ _ hm=>sq hm vL λ v3 hm=>s2 hm λ _ _ hm=>si hm (λ _ hm=>by cases hm;exact re) λ _ hm=>s2 hm λ _ _ hm=>sn hm λ _ hm=>sq hm O6 λ v4 hm=>by cases hm;exact re
variable {s_:List Int}
theorem F6 {r:List bK×List Bool} (hm:xE l_ s_ r):S 176 [bg l_,aC s_] [] (.kI [rD r.1,aU r.2]) [] :=spc [10,21] Tryz.func176 rfl<|Vo [10,21] hm (λ g1=>⟨[(1,aC s_),(6,.eF 0 0 g1.2.1.length false),(7,.eF 1 0 g1.2.2.length false),(14,bg l_),(15,iV (l_.length:Int)),(16,iV g1.1)],[(0,some (.row 2 g1.2.1.length (bP qg dS g1.2.1))),(1,some (.row 1 g1.2.2.length (bP AV.bool false g1.2.2)))],2⟩) [(0,none),(1,none)] [] <|λ aj g1 hm=>si hm (λ _ hm=>sn hm λ _ hm=>ck [10,21] (oC l_ s_ g1 aj) r (λ g6=>⟨[(1,aC s_),(6,.eF 0 0 g1.2.1.length false),(7,.eF 1 0 g1.2.2.length false),(8,iV g1.1),(9,.ptr 2 0 0),(10,.ptr 3 0 0),(11,.bool g6.1),(14,bg l_),(15,iV (l_.length:Int)),(16,iV g1.1)],[(0,some (.row 2 g1.2.1.length (bP qg dS g1.2.1))),(1,some (.row 1 g1.2.2.length (bP AV.bool false g1.2.2))),(2,some (.box [iV ((l_.getD g1.1.toNat aK).fV),aC ((l_.getD g1.1.toNat aK).aP),aC ((l_.getD g1.1.toNat aK).aM),iV ((l_.getD g1.1.toNat aK).Low),iV ((l_.getD g1.1.toNat aK).fO)])),(3,some (.box [iV g6.2.1,iV g6.2.2]))],4⟩) (sn hm λ _ hm=>sq hm UY λ v18 hm=>si hm (λ _ hm=>s2 hm λ _ _ hm=>lc [(2,some 34),(3,some 66)] [] hm) λ _ hm=>lc [(2,some 34),(3,some 66)] [] hm) λ g6 hm=>s2 hm λ _ _ hm=>ck [10,21] (ji g1 aj) r (λ g7=>⟨[(1,aC s_),(6,.eF 0 0 g1.2.1.length false),(7,.eF 1 0 g1.2.2.length false),(10,.ptr 2 0 0),(11,.bool g7.1),(14,bg l_),(15,iV (l_.length:Int)),(16,iV g1.1)],[(0,some (.row 2 g1.2.1.length (bP qg dS g1.2.1))),(1,some (.row 1 g1.2.2.length (bP AV.bool false g1.2.2))),(2,some (.box [iV g7.2.1,iV g7.2.2]))],3⟩) (si hm (λ _ hm=>lc [(2,some 3)] [] hm) λ _ hm=>si hm (λ _ hm=>sq hm Yo λ v16 hm=>lc [(2,some 3)] [] hm) λ _ hm=>si hm (λ _ hm=>sq hm WB λ v17 hm=>lc [(2,some 3)] [] hm) λ _ hm=>si hm (λ _ hm=>si hm (λ _ hm=>lc [(2,some 3)] [] hm) λ _ hm=>lc [(2,some 3)] [] hm) λ _ hm=>lc [(2,some 3)] [] hm) λ g7 hm=>s2 hm λ _ _ hm=>sn hm λ _ hm=>lc [(0,some 27),(1,some 59)] [] hm) λ _ hm=>by cases hm;exact rt [0,1] []
theorem yg {Cr:Int} {oq:Int} (hm:sQ r_ Cr oq r):S 177 [qg r_,iV Cr,iV oq] [] (.bool r) [] :=sp Tryz.func177 rfl<|sq hm tJ λ v1 hm=>si hm (λ _ hm=>by cases hm;exact re) λ _ hm=>s2 hm λ _ _ hm=>by cases hm;exact re
theorem O7 {r_:List bK} {qM:List Bool} (hm:Ib l_ r_ qM r):S 178 [bg l_,rD r_,aU qM] [] (.bool r) [] :=sp Tryz.func178 rfl<|l0 hm (λ g1=>⟨[(1,rD r_),(2,aU qM),(9,bg l_),(10,iV (l_.length:Int)),(11,iV g1)],[],0⟩) <|λ aj g1 hm=>si hm (λ _ hm=>s2 hm λ _ _ hm=>sn hm λ _ hm=>sb hm λ v3 hv3 hm=>cl (λ q0=>(yg (hv3 q0)))<|si hm (λ _ hm=>by cases hm;exact re) λ _ hm=>sn hm λ _ hm=>le hm) λ _ hm=>by cases hm;exact re
theorem Yp (hm:JF l_ s_ m_ r):S 162 [bg l_,aC s_,fB m_] [] (.bool r) [] :=sp Tryz.func162 rfl<|sq hm F6 λ v1 hm=>l0 hm (λ g1=>⟨[(0,bg l_),(7,rD v1.1),(8,aU v1.2),(17,fB m_),(18,iV (m_.length:Int)),(19,iV g1)],[],0⟩) <|λ aj g1 hm=>si hm (λ _ hm=>s2 hm λ _ _ hm=>sn hm λ _ hm=>sb hm λ v4 hv4 hm=>cl (λ q0=>(yg (hv4 q0)))<|si hm (λ _ hm=>by cases hm;exact re) λ _ hm=>sn hm λ _ hm=>le hm) λ _ hm=>sq hm O7 λ v5 hm=>by cases hm;exact re
theorem Yq {r:List Int×Bool} (hm:JG l_ s_ r):S 163 [bg l_,aC s_] [] (.kI [aC r.1,.bool r.2]) [] :=spc [6] Tryz.func163 rfl<|s2 hm λ _ _ hm=>Vo [6] hm (λ g1=>⟨[(0,bg l_),(6,.eF 0 0 g1.2.length false),(7,iV g1.1)],[(0,some (.row 1 g1.2.length (bP iV 0 g1.2)))],1⟩) [(0,some 32)] [] <|λ aj g1 hm=>si hm (λ _ hm=>ck [6] (Gl l_ g1 aj) r (λ g4=>⟨[(0,bg l_),(6,.eF 0 0 g4.length false),(7,iV g1.1)],[(0,some (.row 1 g4.length (bP iV 0 g4)))],1⟩) (s2 hm λ _ _ hm=>sn hm λ _ hm=>le hm) λ g4 hm=>s2 hm λ _ _ hm=>si hm (λ _ hm=>by cases hm;exact rt [0] []) λ _ hm=>s2 hm λ _ _ hm=>le hm) λ _ hm=>by cases hm;exact re
theorem aaP {r:(List (List Int))} (hm:PO l_ m_ r):S 114 [bg l_,fB m_] [] (yZ r) [] :=spc [4,6] Tryz.func114 rfl<|sn hm λ _ hm=>Vo [4,6] hm (λ g1=>⟨[(0,bg l_),(1,fB m_),(5,.eF 0 0 g1.2.2.length false),(6,aC g1.1),(7,.bool g1.2.1)],[(0,some (.row 1 g1.2.2.length (bP aC [] g1.2.2)))],1⟩) [(0,none)] [32] <|λ aj g1 hm=>ck [4,6] (JH l_ m_ g1 aj) r (λ g6=>⟨[(0,bg l_),(1,fB m_),(5,.eF 0 0 g1.2.2.length false),(6,aC g1.1)],[(0,some (.row 1 g1.2.2.length (bP aC [] g1.2.2)))],1⟩) (si hm (λ _ hm=>le hm) λ _ hm=>by cases hm;exact rt [0] []) λ g6 hm=>ck [4,6] (xG l_ g1 aj) r (λ g7=>⟨[(0,bg l_),(1,fB m_),(5,.eF 0 0 g7.length false),(6,aC g1.1)],[(0,some (.row 1 g7.length (bP aC [] g7)))],1⟩) (sq hm Yp λ v9 hm=>si hm (λ _ hm=>sn hm λ _ hm=>lc [(0,some 57)] [] hm) λ _ hm=>le hm) λ g7 hm=>sq hm Yq λ v8 hm=>le hm
theorem IZ {r:List Int×Int} (hm:Ap l_ m_ r):S 65 [bg l_,fB m_] [] (.kI [aC r.1,iV r.2]) [] :=sp Tryz.func65 rfl<|sq hm WA λ v1 hm=>si hm (λ _ hm=>by cases hm;exact re) λ _ hm=>sq hm aaP λ v2 hm=>si hm (λ _ hm=>by cases hm;exact re) λ _ hm=>sn hm λ _ hm=>by cases hm;exact re
variable {d_:List bq}
theorem I5 {l_:List aD} (hm:Aq l_ d_ r):S 164 [aV l_,fM d_] [] (.bool r) [] :=sp Tryz.func164 rfl<|sq hm tH λ v1 hm=>si hm (λ _ hm=>by cases hm;exact re) λ _ hm=>l0 hm (λ g1=>⟨[(0,aV l_),(15,fM d_),(16,iV (d_.length:Int)),(17,iV g1)],[],0⟩) <|λ aj g1 hm=>si hm (λ _ hm=>s2 hm λ _ _ hm=>sq hm kQ λ v8 hm=>sb hm λ v9 Sl hm=>cl (λ q0=>(kQ (Sl q0)))<|sb hm λ v10 ED hm=>cl (λ q0=>(kQ (ED q0)))<|si hm (λ _ hm=>by cases hm;exact re) λ _ hm=>sn hm λ _ hm=>le hm) λ _ hm=>by cases hm;exact re
theorem WC {l_:List aD} {r:Int} (hm:Fz l_ d_ r):S 115 [aV l_,fM d_] [] (iV r) [] :=sp Tryz.func115 rfl<|sq hm tH λ v1 hm=>si hm (λ _ hm=>by cases hm;exact re) λ _ hm=>sq hm I5 λ v2 hm=>si hm (λ _ hm=>by cases hm;exact re) λ _ hm=>by cases hm;exact re
theorem LM {l_:List aD} {r:List Bool} (hm:D6 l_ d_ r):S 116 [aV l_,fM d_] [] (aU r) [] :=sp Tryz.func116 rfl<|s2 hm λ _ _ hm=>lf hm (λ g1=>⟨[(0,aV l_),(1,fM d_),(5,.eF 0 0 g1.2.length false),(6,iV g1.1)],[(0,some (.row 1 g1.2.length (bP AV.bool false g1.2)))],1⟩) [(0,some 24)] [] <|λ aj g1 hm=>si hm (λ _ hm=>s2 hm λ _ _ hm=>sn hm λ _ hm=>l0 hm (λ g4=>⟨[(0,aV l_),(1,fM d_),(5,.eF 0 0 g4.2.length false),(6,iV g1.1),(34,fM d_),(35,iV (d_.length:Int)),(36,iV g4.1)],[(0,some (.row 1 g4.2.length (bP AV.bool false g4.2)))],1⟩) <|λ jk g4 hm=>si hm (λ _ hm=>s2 hm λ _ _ hm=>s2 hm λ _ _ hm=>le hm) λ _ hm=>s2 hm λ _ _ hm=>si hm (λ _ hm=>s2 hm λ _ _ hm=>le hm) λ _ hm=>sn hm λ _ hm=>le hm) λ _ hm=>by cases hm;exact rt [0] []
theorem WE {s_:aD} {v_:Int} {r:Int} (hm:FB s_ v_ r):S 117 [Cm s_,iV v_] [] (iV r) [] :=sp Tryz.func117 rfl<|l0 hm (λ g1=>⟨[(1,iV v_),(8,aC s_.bJ),(9,iV (s_.bJ.length:Int)),(10,iV g1)],[],0⟩) <|λ aj g1 hm=>si hm (λ _ hm=>sn hm λ _ hm=>si hm (λ _ hm=>by cases hm;exact re) λ _ hm=>sn hm λ _ hm=>le hm) λ _ hm=>by cases hm;exact re
theorem tK {l_:List aD} {r_:dh} {r:Int} (hm:rY l_ r_ k_ r):S 118 [aV l_,AZ r_,iV k_] [] (iV r) [] :=sp Tryz.func118 rfl<|s2 hm λ _ _ hm=>sn hm λ _ hm=>by cases hm;exact re
theorem WG {l_:List aD} {r:List Int} (hm:FC l_ d_ r):S 165 [aV l_,fM d_] [] (aC r) [] :=sp Tryz.func165 rfl<|s2 hm λ _ _ hm=>lf hm (λ g1=>⟨[(0,aV l_),(1,fM d_),(5,.eF 0 0 g1.2.length false),(6,iV g1.1)],[(0,some (.row 1 g1.2.length (bP iV 0 g1.2)))],1⟩) [(0,some 24)] [] <|λ aj g1 hm=>si hm (λ _ hm=>l0 hm (λ g4=>⟨[(0,aV l_),(1,fM d_),(5,.eF 0 0 g4.2.length false),(6,iV g1.1),(20,fM d_),(21,iV (d_.length:Int)),(22,iV g4.1)],[(0,some (.row 1 g4.2.length (bP iV 0 g4.2)))],1⟩) <|λ jk g4 hm=>si hm (λ _ hm=>sn hm λ _ hm=>si hm (λ _ hm=>s2 hm λ _ _ hm=>s2 hm λ _ _ hm=>le hm) λ _ hm=>sn hm λ _ hm=>le hm) λ _ hm=>sn hm λ _ hm=>si hm (λ _ hm=>s2 hm λ _ _ hm=>s2 hm λ _ _ hm=>sn hm λ _ hm=>le hm) λ _ hm=>sn hm λ _ hm=>le hm) λ _ hm=>by cases hm;exact rt [0] []
theorem I6 {l_:List aD} {r_:dh} (hm:Ar l_ r_ d_ r):S 119 [aV l_,AZ r_,fM d_] [] (.bool r) [] :=sp Tryz.func119 rfl<|sq hm LM λ v1 hm=>sq hm WG λ v2 hm=>l0 hm (λ g1=>⟨[(0,aV l_),(2,fM d_),(4,.ptr 0 0 0),(7,aU v1),(8,aC v2),(19,aV l_),(20,iV (l_.length:Int)),(21,iV g1)],[(0,some (.box [aU r_.On,aC r_.dQ]))],1⟩) <|λ aj g1 hm=>si hm (λ _ hm=>s2 hm λ _ _ hm=>sn hm λ _ hm=>si hm (λ _ hm=>by cases hm;exact re) λ _ hm=>sn hm λ _ hm=>si hm (λ _ hm=>sn hm λ _ hm=>le hm) λ _ hm=>s2 hm λ _ _ hm=>sb hm λ v7 hv7 hm=>cl (λ q0 q1 q2=>(tK (hv7 q0 q1 q2)))<|sb hm λ v8 uG hm=>cl (λ q0 q1 q2=>(tK (uG q0 q1 q2)))<|sn hm λ _ hm=>si hm (λ _ hm=>by cases hm;exact re) λ _ hm=>sn hm λ _ hm=>le hm) λ _ hm=>l0 hm (λ g2=>⟨[(0,aV l_),(4,.ptr 0 0 0),(81,fM d_),(82,iV (d_.length:Int)),(83,iV g2)],[(0,some (.box [aU r_.On,aC r_.dQ]))],1⟩) <|λ dJ g2 hm=>si hm (λ _ hm=>sn hm λ _ hm=>sq hm tK λ v13 hm=>sq hm kQ λ v14 hm=>si hm (λ _ hm=>by cases hm;exact re) λ _ hm=>sn hm λ _ hm=>le hm) λ _ hm=>by cases hm;exact re
theorem I7 {l_:List aD} {r:dh×Int} (hm:Au l_ d_ r):S 66 [aV l_,fM d_] [] (.kI [AZ r.1,iV r.2]) [] :=spc [17] Tryz.func66 rfl<|sq hm WC λ v1 hm=>si hm (λ _ hm=>by cases hm;exact re) λ _ hm=>sq hm LM λ v2 hm=>s2 hm λ _ _ hm=>Vo [17] hm (λ g1=>⟨[(0,aV l_),(1,fM d_),(4,.ptr 0 0 0),(7,aU v2),(8,.ptr 1 0 0),(9,.eF 2 0 g1.2.1.length false),(32,fM d_),(33,iV (d_.length:Int)),(34,iV g1.1)],[(0,some (.box [.sl 0 0 true fF,.sl 0 0 true fF])),(1,some (.box [aU v2,.eF 3 0 g1.2.2.length false])),(2,some (.row 1 g1.2.1.length (bP iV 0 g1.2.1))),(3,some (.row 1 g1.2.2.length (bP iV 0 g1.2.2)))],4⟩) [(1,some 136),(2,some 168),(3,some 120)] [] <|λ aj g1 hm=>si hm (λ _ hm=>s2 hm λ _ _ hm=>s2 hm λ _ _ hm=>le hm) λ _ hm=>sn hm λ _ hm=>Vo [17] hm (λ g2=>⟨[(0,aV l_),(1,fM d_),(4,.ptr 0 0 0),(7,aU v2),(8,.ptr 1 0 0),(9,.eF 2 0 g2.2.1.length false),(12,iV g2.1)],[(0,some (.box [.sl 0 0 true fF,.sl 0 0 true fF])),(1,some (.box [aU v2,.eF 3 0 g2.2.2.length false])),(2,some (.row 1 g2.2.1.length (bP iV 0 g2.2.1))),(3,some (.row 1 g2.2.2.length (bP iV 0 g2.2.2)))],4⟩) [] [] <|λ dJ g2 hm=>si hm (λ _ hm=>sn hm λ _ hm=>si hm (λ _ hm=>sn hm λ _ hm=>le hm) λ _ hm=>ck [17] (Bg l_ v2 g2 dJ) r (λ g5=>⟨[(0,aV l_),(1,fM d_),(4,.ptr 0 0 0),(7,aU v2),(8,.ptr 1 0 0),(9,.eF 2 0 g2.2.1.length false),(12,iV g2.1)],[(0,some (.box [.sl 0 0 true fF,.sl 0 0 true fF])),(1,some (.box [aU v2,.eF 3 0 g5.length false])),(2,some (.row 1 g2.2.1.length (bP iV 0 g2.2.1))),(3,some (.row 1 g5.length (bP iV 0 g5)))],4⟩) (s2 hm λ _ _ hm=>sq hm WE λ v11 hm=>sn hm λ _ hm=>le hm) λ g5 hm=>sn hm λ _ hm=>si hm (λ _ hm=>by cases hm;exact re) λ _ hm=>sn hm λ _ hm=>si hm (λ _ hm=>sn hm λ _ hm=>sq hm tK λ v10 hm=>s2 hm λ _ _ hm=>s2 hm λ _ _ hm=>le hm) λ _ hm=>sn hm λ _ hm=>le hm) λ _ hm=>sq hm I6 λ v12 hm=>si hm (λ _ hm=>by cases hm;exact re) λ _ hm=>by cases hm;exact rt [3] []
end Go.Proofs.YtccjmcmolnbiiaaGreatDoor
namespace Go.Proofs.YtccjmcmolnbiiaaGreatDoor
open Go.Ab
theorem ozz {p:Prop} (h:p:=by first | omega | (simp [iP]; done) | (simp [iP,Tm]; done) | (simp [iP]; omega) | (simp [iP,Tm]; omega)):p:=h
end Go.Proofs.YtccjmcmolnbiiaaGreatDoor
namespace Go.Proofs.YtccjmcmolnbiiaaGreatDoor
open Go.Ab
set_option maxRecDepth 100000
set_option maxHeartbeats 20000000
theorem yh {l_:List eG} {eP:List Int} {r:List Bool×Int} (hm:sS l_ eP r):S 40 [dz l_,aC eP] [] (.kI [aU r.1,iV r.2]) [] :=sp Tryz.func40 rfl<|sq hm zB λ v1 hm=>si hm (λ _ hm=>by cases hm;exact re) λ _ hm=>sn hm λ _ hm=>lf hm (λ g1=>⟨[(0,dz l_),(1,aC eP),(6,.eF 0 0 g1.2.length false),(7,iV g1.1)],[(0,some (.row 1 g1.2.length (bP AV.bool false g1.2)))],1⟩) [(0,some 56)] [] <|λ aj g1 hm=>si hm (λ _ hm=>s2 hm λ _ _ hm=>si hm (λ _ hm=>by cases hm;exact re) λ _ hm=>s2 hm λ _ _ hm=>sn hm λ _ hm=>le hm) λ _ hm=>sn hm λ _ hm=>l0 hm (λ g2=>⟨[(0,dz l_),(6,.eF 0 0 g2.2.length false),(8,iV g2.1)],[(0,some (.row 1 g2.2.length (bP AV.bool false g2.2)))],1⟩) <|λ dJ g2 hm=>si hm (λ _ hm=>l0 hm (λ g5=>⟨[(0,dz l_),(6,.eF 0 0 g5.2.length false),(8,iV g2.1),(9,iV g5.1)],[(0,some (.row 1 g5.2.length (bP AV.bool false g5.2)))],1⟩) <|λ j5 g5 hm=>s2 hm λ _ _ hm=>si hm (λ _ hm=>s2 hm λ _ _ hm=>s2 hm λ _ _ hm=>le hm) λ _ hm=>sn hm λ _ hm=>le hm) λ _ hm=>by cases hm;exact rt [0] []
theorem aaQ {l_:List dD} {eO:List Int} {r:Int} (hm:PS l_ eO r):S 78 [bU l_,aC eO] [] (iV r) [] :=sp Tryz.func78 rfl<|sq hm zC λ v1 hm=>si hm (λ _ hm=>by cases hm;exact re) λ _ hm=>l0 hm (λ g1=>⟨[(0,bU l_),(1,aC eO),(5,iV g1)],[],0⟩) <|λ aj g1 hm=>si hm (λ _ hm=>s2 hm λ _ _ hm=>si hm (λ _ hm=>by cases hm;exact re) λ _ hm=>sn hm λ _ hm=>le hm) λ _ hm=>by cases hm;exact re
theorem GD {l_:List dD} {eO:List Int} {r:List Bool×Int} (hm:Ig l_ eO r):S 41 [bU l_,aC eO] [] (.kI [aU r.1,iV r.2]) [] :=spc [13] Tryz.func41 rfl<|sq hm aaQ λ v1 hm=>si hm (λ _ hm=>by cases hm;exact re) λ _ hm=>sn hm λ _ hm=>Vo [13] hm (λ g1=>⟨[(0,bU l_),(1,aC eO),(7,.eF 0 0 g1.2.length false),(8,iV g1.1)],[(0,some (.row 1 g1.2.length (bP AV.bool false g1.2)))],1⟩) [(0,some 80)] [] <|λ aj g1 hm=>si hm (λ _ hm=>s2 hm λ _ _ hm=>sn hm λ _ hm=>le hm) λ _ hm=>sn hm λ _ hm=>Vo [13] hm (λ g2=>⟨[(0,bU l_),(7,.eF 0 0 g2.2.length false),(9,iV g2.1)],[(0,some (.row 1 g2.2.length (bP AV.bool false g2.2)))],1⟩) [] [] <|λ dJ g2 hm=>si hm (λ _ hm=>ck [13] (JI l_ g2 dJ) r (λ g5=>⟨[(0,bU l_),(7,.eF 0 0 g5.length false),(9,iV g2.1)],[(0,some (.row 1 g5.length (bP AV.bool false g5)))],1⟩) (s2 hm λ _ _ hm=>sn hm λ _ hm=>le hm) λ g5 hm=>s2 hm λ _ _ hm=>si hm (λ _ hm=>s2 hm λ _ _ hm=>sn hm λ _ hm=>le hm) λ _ hm=>sn hm λ _ hm=>le hm) λ _ hm=>by cases hm;exact rt [0] []
variable {r:Bool}
theorem GH {l_:List Int} {x_:Int} (hm:Ih l_ x_ r):S 72 [aC l_,iV x_] [] (.bool r) [] :=sp Tryz.func72 rfl<|l0 hm (λ g1=>⟨[(0,aC l_),(1,iV x_),(5,iV g1)],[],0⟩) <|λ aj g1 hm=>si hm (λ _ hm=>sn hm λ _ hm=>si hm (λ _ hm=>by cases hm;exact re) λ _ hm=>sn hm λ _ hm=>le hm) λ _ hm=>by cases hm;exact re
variable {ah:List Int}
theorem aaR {l_:List aT} {r:List aT} (hm:PU l_ ah r):S 67 [dM l_,aC ah] [] (.eF 0 0 r.length false) [.row 3 r.length (bP qJ bB r)] :=sp Tryz.func67 rfl<|lf hm (λ g1=>⟨[(1,aC ah),(5,.eF 0 0 g1.2.length false),(8,dM l_),(9,iV (l_.length:Int)),(10,iV g1.1)],[(0,some (.row 3 g1.2.length (bP qJ bB g1.2)))],1⟩) [(0,none)] [] <|λ aj g1 hm=>si hm (λ _ hm=>sn hm λ _ hm=>sq hm GH λ v3 hm=>si hm (λ _ hm=>s2 hm λ _ _ hm=>lc [(0,some 97)] [] hm) λ _ hm=>sn hm λ _ hm=>le hm) λ _ hm=>by cases hm;exact re
variable {b_:aS} {l_:List aJ} {g_:bF}
theorem WH {r:List Int×List Bool×List Int×List Bool×List Bool×Int×Int×List aT} (hm:FD b_ l_ ah g_ r):S 27 [jy b_,dO l_,aC ah,kV g_] [] (.kI [.agg [aC r.1,aU r.2.1,aC r.2.2.1,.eF 0 0 r.2.2.2.2.2.2.2.length false,aU r.2.2.2.1,aU r.2.2.2.2.1],iV r.2.2.2.2.2.1,iV r.2.2.2.2.2.2.1]) [.row 3 r.2.2.2.2.2.2.2.length (bP qJ bB r.2.2.2.2.2.2.2)] :=sp Tryz.func27 rfl<|sq hm u7 λ v1 hm=>si hm (λ _ hm=>by cases hm;exact rt [] [(0,none)]) λ _ hm=>sq hm pW λ v2 hm=>si hm (λ _ hm=>by cases hm;exact rt [] [(0,none)]) λ _ hm=>sq hm UW λ v3 hm=>sq hm Wz λ v4 hm=>sb hm λ v5 hv5 hm=>cl (λ q0=>(AL (hv5 q0)))<|si hm (λ _ hm=>by cases hm;exact rt [] [(0,none)]) λ _ hm=>sq hm IZ λ v6 hm=>si hm (λ _ hm=>by cases hm;exact rt [] [(0,none)]) λ _ hm=>sq hm I7 λ v7 hm=>si hm (λ _ hm=>by cases hm;exact rt [] [(0,none)]) λ _ hm=>lf hm (λ g1=>⟨[(1,dO l_),(2,aC ah),(4,.ptr 0 0 0),(7,.ptr 1 0 0),(8,.ptr 2 0 0),(14,aC v6.1),(16,.ptr 3 0 0),(17,.eF 4 0 g1.2.1.length false),(18,.eF 5 0 g1.2.2.length false),(78,aC ah),(79,iV (ah.length:Int)),(80,iV g1.1)],[(0,some (.box [bg b_.bR,aV b_.bD,iV b_.aR.bS,bA b_.aR.ay,dz b_.aY,bU b_.cB])),(1,some (.box [aC g_.dA,aU g_.fA.On,aC g_.fA.dQ,dM g_.dP,aU g_.dU,aU g_.fq])),(2,some (.box [.sl 0 0 true fF,.sl 0 0 true fF,.sl 0 0 true fF,.sl 0 0 true fF,.sl 0 0 true fF,.sl 0 0 true fF])),(3,some (.box [aU v7.1.On,aC v7.1.dQ])),(4,some (.row 1 g1.2.1.length (bP iV 0 g1.2.1))),(5,some (.row 1 g1.2.2.length (bP iV 0 g1.2.2)))],6⟩) [(1,some 8),(2,some 16),(3,some 440),(4,none),(5,none)] [] <|λ aj g1 hm=>si hm (λ _ hm=>s2 hm λ _ _ hm=>s2 hm λ _ _ hm=>si hm (λ _ hm=>s2 hm λ _ _ hm=>sn hm λ _ hm=>lc [(4,some 86),(5,some 206)] [] hm) λ _ hm=>sn hm λ _ hm=>lc [(4,some 86)] [] hm) λ _ hm=>sq hm yh λ v8 hm=>sq hm GD λ v9 hm=>sq hm aaR λ v10 hm=>by cases hm;exact rt [] [(0,some 198)]
theorem LP {r:bF×Int} (hm:D7 b_ r):S 12 [jy b_] [] (.kI [kV r.1,iV r.2]) [] :=sp Tryz.func12 rfl<|sb hm λ v1 hv1 hm=>cl ((WH hv1).le ⟨.refl _,(.sl rfl (λ h=>absurd rfl h) nofun (λ _ h=>absurd h (Nat.not_lt_zero _))),(.sl rfl (λ h=>absurd rfl h) nofun (λ _ h=>absurd h (Nat.not_lt_zero _))),(Le.Qg ⟨(.sl rfl (λ h=>absurd rfl h) nofun (λ _ h=>absurd h (Nat.not_lt_zero _))),(.sl rfl (λ h=>absurd rfl h) nofun (λ _ h=>absurd h (Nat.not_lt_zero _))),(.sl rfl (λ h=>absurd rfl h) nofun (λ _ h=>absurd h (Nat.not_lt_zero _))),(.sl rfl (λ h=>absurd rfl h) nofun (λ _ h=>absurd h (Nat.not_lt_zero _))),(.sl rfl (λ h=>absurd rfl h) nofun (λ _ h=>absurd h (Nat.not_lt_zero _))),(.sl rfl (λ h=>absurd rfl h) nofun (λ _ h=>absurd h (Nat.not_lt_zero _))),trivial⟩),trivial⟩ trivial)<|by cases hm;exact rt [40] []
theorem UZ (hm:CQ b_ l_ g_ r):S 121 [jy b_,dO l_,kV g_] [] (.bool r) [] :=sp Tryz.func121 rfl<|si hm (λ _ hm=>by cases hm;exact re) λ _ hm=>lf hm (λ g1=>⟨[(1,dO l_),(3,.ptr 0 0 0),(5,.ptr 1 0 0),(7,iV g1)],[(0,some (.box [bg b_.bR,aV b_.bD,iV b_.aR.bS,bA b_.aR.ay,dz b_.aY,bU b_.cB])),(1,some (.box [aC g_.dA,aU g_.fA.On,aC g_.fA.dQ,dM g_.dP,aU g_.dU,aU g_.fq]))],2⟩) [(1,some 8)] [] <|λ aj g1 hm=>si hm (λ _ hm=>s2 hm λ _ _ hm=>sn hm λ _ hm=>si hm (λ _ hm=>by cases hm;exact re) λ _ hm=>sn hm λ _ hm=>le hm) λ _ hm=>lf hm (λ g2=>⟨[(1,dO l_),(5,.ptr 0 0 0),(8,iV g2)],[(0,some (.box [aC g_.dA,aU g_.fA.On,aC g_.fA.dQ,dM g_.dP,aU g_.dU,aU g_.fq]))],1⟩) [(0,some 1)] [] <|λ dJ g2 hm=>si hm (λ _ hm=>s2 hm λ _ _ hm=>si hm (λ _ hm=>by cases hm;exact re) λ _ hm=>sn hm λ _ hm=>le hm) λ _ hm=>by cases hm;exact re
theorem SQ {l_:List aI} {s_:List Int} (hm:zM l_ s_ r):S 175 [bg l_,aC s_] [] (.bool r) [] :=sp Tryz.func175 rfl<|sq hm tF λ v1 hm=>si hm (λ _ hm=>by cases hm;exact re) λ _ hm=>l0 hm (λ g1=>⟨[(1,aC s_),(17,bg l_),(18,iV (l_.length:Int)),(19,iV g1)],[],0⟩) <|λ aj g1 hm=>si hm (λ _ hm=>s2 hm λ _ _ hm=>sn hm λ _ hm=>si hm (λ _ hm=>by cases hm;exact re) λ _ hm=>sn hm λ _ hm=>le hm) λ _ hm=>by cases hm;exact re
theorem I8 {l_:List aI} {s_:List Int} {m_:List bM} (hm:Av l_ s_ m_ r):S 122 [bg l_,aC s_,fB m_] [] (.bool r) [] :=sp Tryz.func122 rfl<|sq hm SQ λ v1 hm=>sb hm λ v2 hv2 hm=>cl (λ q0=>(F4 (hv2 q0)))<|si hm (λ _ hm=>by cases hm;exact re) λ _ hm=>sq hm F6 λ v3 hm=>l0 hm (λ g1=>⟨[(0,bg l_),(7,rD v3.1),(8,aU v3.2),(27,fB m_),(28,iV (m_.length:Int)),(29,iV g1)],[],0⟩) <|λ aj g1 hm=>si hm (λ _ hm=>s2 hm λ _ _ hm=>sn hm λ _ hm=>sb hm λ v6 hv6 hm=>cl (λ q0=>(yg (hv6 q0)))<|si hm (λ _ hm=>by cases hm;exact re) λ _ hm=>sn hm λ _ hm=>le hm) λ _ hm=>sq hm O7 λ v7 hm=>by cases hm;exact re
theorem U0 {x_:aJ} {gQ:Bool} (hm:CS b_ g_ x_ gQ r):S 123 [jy b_,kV g_,wO x_,.bool gQ] [] (.bool r) [] :=spc [6] Tryz.func123 rfl<|Vo [6] hm (λ g1=>⟨[(3,.bool gQ),(4,.ptr 0 0 0),(5,.ptr 1 0 0),(12,fB x_.bY),(13,iV (x_.bY.length:Int)),(14,iV g1)],[(0,some (.box [bg b_.bR,aV b_.bD,iV b_.aR.bS,bA b_.aR.ay,dz b_.aY,bU b_.cB])),(1,some (.box [aC g_.dA,aU g_.fA.On,aC g_.fA.dQ,dM g_.dP,aU g_.dU,aU g_.fq]))],2⟩) [(1,some 8)] [] <|λ aj g1 hm=>si hm (λ _ hm=>sn hm λ _ hm=>ck [6] (qo b_ g_ x_ g1 aj) r (λ g4=>⟨[(3,.bool gQ),(4,.ptr 0 0 0),(5,.ptr 1 0 0),(10,.ptr 2 0 0),(12,fB x_.bY),(13,iV (x_.bY.length:Int)),(14,iV g1)],[(0,some (.box [bg b_.bR,aV b_.bD,iV b_.aR.bS,bA b_.aR.ay,dz b_.aY,bU b_.cB])),(1,some (.box [aC g_.dA,aU g_.fA.On,aC g_.fA.dQ,dM g_.dP,aU g_.dU,aU g_.fq])),(2,some (.box [iV ((x_.bY.getD g1.toNat cZ).eZ),iV g4,iV ((x_.bY.getD g1.toNat cZ).fO)]))],3⟩) (si hm (λ _ hm=>lc [(2,some 26)] [] hm) λ _ hm=>lc [(2,some 26)] [] hm) λ g4 hm=>sb hm λ v3 hv3 hm=>cl ((I8 hv3).le ⟨.refl _,.refl _,(.sl rfl (λ _=>rfl) nofun (gN yY cZ [(⟨(x_.bY.getD g1.toNat cZ).eZ,g4,(x_.bY.getD g1.toNat cZ).fO⟩:bM)])),trivial⟩ trivial)<|si hm (λ _ hm=>by cases hm;exact re) λ _ hm=>sn hm λ _ hm=>le hm) λ _ hm=>by cases hm;exact re
theorem WI {l_:List aD} {r_:dh} (hm:FE l_ r_ r):S 179 [aV l_,AZ r_] [] (.bool r) [] :=sp Tryz.func179 rfl<|sq hm tH λ v1 hm=>si hm (λ _ hm=>by cases hm;exact re) λ _ hm=>l0 hm (λ g1=>⟨[(3,.ptr 0 0 0),(26,aV l_),(27,iV (l_.length:Int)),(28,iV g1)],[(0,some (.box [aU r_.On,aC r_.dQ]))],1⟩) <|λ aj g1 hm=>si hm (λ _ hm=>s2 hm λ _ _ hm=>sn hm λ _ hm=>sq hm kQ λ v4 hm=>si hm (λ _ hm=>by cases hm;exact re) λ _ hm=>sn hm λ _ hm=>le hm) λ _ hm=>by cases hm;exact re
theorem WJ {l_:List aD} {r_:dh} {d_:List bq} (hm:FH l_ r_ d_ r):S 124 [aV l_,AZ r_,fM d_] [] (.bool r) [] :=sp Tryz.func124 rfl<|sq hm I5 λ v1 hm=>sb hm λ v2 hv2 hm=>cl (λ q0=>(WI (hv2 q0)))<|sb hm λ v3 hv3 hm=>cl (λ q0=>(I6 (hv3 q0)))<|by cases hm;exact re
theorem Yr {l_:List aT} {r:List oJ} (hm:JJ l_ r):S 17 [dM l_] [] (.eF 0 0 r.length false) [.row 2 r.length (bP amt fU r)] :=sp Tryz.func17 rfl<|lf hm (λ g1=>⟨[(0,dM l_),(3,.eF 0 0 g1.2.length false),(4,iV g1.1)],[(0,some (.row 2 g1.2.length (bP amt fU g1.2)))],1⟩) [(0,none)] [] <|λ aj g1 hm=>si hm (λ _ hm=>s2 hm λ _ _ hm=>sn hm λ _ hm=>lc [(0,some 89)] [] hm) λ _ hm=>by cases hm;exact re
variable {p_:bn}
theorem U1 {l_:List oJ} {r:List Int×Int} (hm:CU p_ l_ r):S 16 [lX p_,QS l_] [] (.kI [aC r.1,iV r.2]) [] :=sp Tryz.func16 rfl<|sq hm zA λ v1 hm=>si hm (λ _ hm=>by cases hm;exact re) λ _ hm=>sn hm λ _ hm=>lf hm (λ g1=>⟨[(1,QS l_),(2,.ptr 0 0 0),(6,.eF 1 0 g1.2.length false),(7,iV g1.1)],[(0,some (.box [iV p_.bS,bA p_.ay])),(1,some (.row 1 g1.2.length (bP iV 0 g1.2)))],2⟩) [(1,some 64)] [] <|λ aj g1 hm=>si hm (λ _ hm=>s2 hm λ _ _ hm=>le hm) λ _ hm=>l0 hm (λ g2=>⟨[(1,QS l_),(2,.ptr 0 0 0),(6,.eF 1 0 g2.2.length false),(8,iV g2.1)],[(0,some (.box [iV p_.bS,bA p_.ay])),(1,some (.row 1 g2.2.length (bP iV 0 g2.2)))],2⟩) <|λ dJ g2 hm=>si hm (λ _ hm=>s2 hm λ _ _ hm=>s2 hm λ _ _ hm=>si hm (λ _ hm=>by cases hm;exact re) λ _ hm=>l0 hm (λ g7=>⟨[(1,QS l_),(2,.ptr 0 0 0),(6,.eF 1 0 g2.2.length false),(8,iV g2.1),(9,iV ((l_.getD g2.1.toNat fU).dx)),(10,iV g7)],[(0,some (.box [iV p_.bS,bA p_.ay])),(1,some (.row 1 g2.2.length (bP iV 0 g2.2)))],2⟩) <|λ nQ g7 hm=>si hm (λ _ hm=>sn hm λ _ hm=>si hm (λ _ hm=>by cases hm;exact re) λ _ hm=>sn hm λ _ hm=>le hm) λ _ hm=>sn hm λ _ hm=>l0 hm (λ g8=>⟨[(1,QS l_),(2,.ptr 0 0 0),(6,.eF 1 0 g8.2.length false),(8,iV g2.1),(9,iV ((l_.getD g2.1.toNat fU).dx)),(88,aC ((p_.ay.getD (((l_.getD g2.1.toNat fU).dx).toNat) aG).bS)),(89,iV ((((p_.ay.getD (((l_.getD g2.1.toNat fU).dx).toNat) aG).bS).length:Nat):Int)),(90,iV g8.1)],[(0,some (.box [iV p_.bS,bA p_.ay])),(1,some (.row 1 g8.2.length (bP iV 0 g8.2)))],2⟩) <|λ Z8 g8 hm=>si hm (λ _ hm=>s2 hm λ _ _ hm=>si hm (λ _ hm=>by cases hm;exact re) λ _ hm=>s2 hm λ _ _ hm=>le hm) λ _ hm=>sn hm λ _ hm=>le hm) λ _ hm=>by cases hm;exact rt [1] []
variable {bI:Int}
theorem O8 {x_:aJ} (hm:uT b_ g_ x_ bI r):S 125 [jy b_,kV g_,wO x_,iV bI] [] (.bool r) [] :=sp Tryz.func125 rfl<|lf hm (λ g1=>⟨[(3,iV bI),(4,.ptr 0 0 0),(5,.ptr 1 0 0),(6,.ptr 2 0 0),(18,gG x_.ak),(19,iV (x_.ak.length:Int)),(20,iV g1)],[(0,some (.box [bg b_.bR,aV b_.bD,iV b_.aR.bS,bA b_.aR.ay,dz b_.aY,bU b_.cB])),(1,some (.box [aC g_.dA,aU g_.fA.On,aC g_.fA.dQ,dM g_.dP,aU g_.dU,aU g_.fq])),(2,some (.box [fB x_.bY,fM x_.fJ,gG x_.ak,aC x_.aY,iV x_.fI,aC x_.bT]))],3⟩) [(1,some 8),(2,some 16)] [] <|λ aj g1 hm=>si hm (λ _ hm=>sn hm λ _ hm=>l0 hm (λ g6=>⟨[(3,iV bI),(4,.ptr 0 0 0),(5,.ptr 1 0 0),(6,.ptr 2 0 0),(10,.str (x_.ak.getD g1.toNat ByteArray.empty)),(11,iV g6.1),(12,iV (0:Int)),(18,gG x_.ak),(19,iV (x_.ak.length:Int)),(20,iV g1),(25,gG x_.ak),(26,iV (x_.ak.length:Int)),(27,iV g6.2)],[(0,some (.box [bg b_.bR,aV b_.bD,iV b_.aR.bS,bA b_.aR.ay,dz b_.aY,bU b_.cB])),(1,some (.box [aC g_.dA,aU g_.fA.On,aC g_.fA.dQ,dM g_.dP,aU g_.dU,aU g_.fq])),(2,some (.box [fB x_.bY,fM x_.fJ,gG x_.ak,aC x_.aY,iV x_.fI,aC x_.bT]))],3⟩) <|λ jG g6 hm=>si hm (λ _ hm=>sn hm λ _ hm=>si hm (λ _ hm=>s2 hm λ _ _ hm=>le hm) λ _ hm=>sn hm λ _ hm=>le hm) λ _ hm=>l0 hm (λ g7=>⟨[(3,iV bI),(4,.ptr 0 0 0),(5,.ptr 1 0 0),(6,.ptr 2 0 0),(10,.str (x_.ak.getD g1.toNat ByteArray.empty)),(11,iV g6.1),(12,iV g7.1),(18,gG x_.ak),(19,iV (x_.ak.length:Int)),(20,iV g1),(38,dM g_.dP),(39,iV (g_.dP.length:Int)),(40,iV g7.2)],[(0,some (.box [bg b_.bR,aV b_.bD,iV b_.aR.bS,bA b_.aR.ay,dz b_.aY,bU b_.cB])),(1,some (.box [aC g_.dA,aU g_.fA.On,aC g_.fA.dQ,dM g_.dP,aU g_.dU,aU g_.fq])),(2,some (.box [fB x_.bY,fM x_.fJ,gG x_.ak,aC x_.aY,iV x_.fI,aC x_.bT]))],3⟩) <|λ nQ g7 hm=>si hm (λ _ hm=>s2 hm λ _ _ hm=>sn hm λ _ hm=>si hm (λ _ hm=>s2 hm λ _ _ hm=>le hm) λ _ hm=>sn hm λ _ hm=>le hm) λ _ hm=>si hm (λ _ hm=>by cases hm;exact re) λ _ hm=>sn hm λ _ hm=>le hm) λ _ hm=>by cases hm;exact re
theorem U2 {l_:List eG} {dL:List Bool} (hm:CV l_ dL r):S 126 [dz l_,aU dL] [] (.bool r) [] :=sp Tryz.func126 rfl<|sq hm zB λ v1 hm=>si hm (λ _ hm=>by cases hm;exact re) λ _ hm=>l0 hm (λ g1=>⟨[(0,dz l_),(1,aU dL),(5,iV g1)],[],0⟩) <|λ aj g1 hm=>si hm (λ _ hm=>l0 hm (λ g4=>⟨[(0,dz l_),(1,aU dL),(5,iV g1),(6,iV g4)],[],0⟩) <|λ jk g4 hm=>sn hm λ _ hm=>si hm (λ _ hm=>s2 hm λ _ _ hm=>s2 hm λ _ _ hm=>si hm (λ _ hm=>by cases hm;exact re) λ _ hm=>sn hm λ _ hm=>le hm) λ _ hm=>sn hm λ _ hm=>le hm) λ _ hm=>by cases hm;exact re
theorem WK {l_:List dD} {qM:List Bool} (hm:FI l_ qM r):S 127 [bU l_,aU qM] [] (.bool r) [] :=sp Tryz.func127 rfl<|sq hm zC λ v1 hm=>si hm (λ _ hm=>by cases hm;exact re) λ _ hm=>l0 hm (λ g1=>⟨[(0,bU l_),(1,aU qM),(5,iV g1)],[],0⟩) <|λ aj g1 hm=>si hm (λ _ hm=>s2 hm λ _ _ hm=>s2 hm λ _ _ hm=>s2 hm λ _ _ hm=>si hm (λ _ hm=>by cases hm;exact re) λ _ hm=>sn hm λ _ hm=>le hm) λ _ hm=>by cases hm;exact re
theorem U3 {gQ:Bool} {r:Int} (hm:CW b_ l_ ah g_ gQ r):S 69 [jy b_,dO l_,aC ah,kV g_,.bool gQ] [] (iV r) [] :=sp Tryz.func69 rfl<|sq hm u7 λ v1 hm=>sb hm λ v2 hv2 hm=>cl (λ q0=>(pW (hv2 q0)))<|sb hm λ v3 hv3 hm=>cl (λ q0=>(UZ (hv3 q0)))<|si hm (λ _ hm=>by cases hm;exact re) λ _ hm=>sb hm λ v4 hv4 hm=>cl ((I8 hv4).le ⟨.refl _,.refl _,(.sl rfl (λ h=>absurd rfl h) nofun (λ _ h=>absurd h (Nat.not_lt_zero _))),trivial⟩ trivial)<|si hm (λ _ hm=>by cases hm;exact re) λ _ hm=>lf hm (λ g1=>⟨[(1,dO l_),(2,aC ah),(4,.bool gQ),(5,.ptr 0 0 0),(8,.ptr 1 0 0),(11,.eF 2 0 g1.2.length false),(48,aC ah),(49,iV (ah.length:Int)),(50,iV g1.1)],[(0,some (.box [bg b_.bR,aV b_.bD,iV b_.aR.bS,bA b_.aR.ay,dz b_.aY,bU b_.cB])),(1,some (.box [aC g_.dA,aU g_.fA.On,aC g_.fA.dQ,dM g_.dP,aU g_.dU,aU g_.fq])),(2,some (.row 4 g1.2.length (bP G9 dG g1.2)))],3⟩) [(1,some 8),(2,none)] [] <|λ aj g1 hm=>si hm (λ _ hm=>s2 hm λ _ _ hm=>sq hm U0 λ v7 hm=>si hm (λ _ hm=>by cases hm;exact re) λ _ hm=>s2 hm λ _ _ hm=>sn hm λ _ hm=>lc [(2,some 155)] [] hm) λ _ hm=>sq hm WJ λ v8 hm=>si hm (λ _ hm=>by cases hm;exact re) λ _ hm=>sq hm Yr λ v9 hm=>sq hm U1 λ v10 hm=>si hm (λ _ hm=>by cases hm;exact re) λ _ hm=>l0 hm (λ g2=>⟨[(1,dO l_),(2,aC ah),(5,.ptr 0 0 0),(8,.ptr 1 0 0),(89,aC ah),(90,iV (ah.length:Int)),(91,iV g2)],[(0,some (.box [bg b_.bR,aV b_.bD,iV b_.aR.bS,bA b_.aR.ay,dz b_.aY,bU b_.cB])),(1,some (.box [aC g_.dA,aU g_.fA.On,aC g_.fA.dQ,dM g_.dP,aU g_.dU,aU g_.fq]))],2⟩) <|λ dJ g2 hm=>si hm (λ _ hm=>s2 hm λ _ _ hm=>sq hm O8 λ v13 hm=>si hm (λ _ hm=>by cases hm;exact re) λ _ hm=>sn hm λ _ hm=>le hm) λ _ hm=>sq hm U2 λ v14 hm=>si hm (λ _ hm=>by cases hm;exact re) λ _ hm=>l0 hm (λ g3=>⟨[(1,dO l_),(2,aC ah),(5,.ptr 0 0 0),(8,.ptr 1 0 0),(111,aC ah),(112,iV (ah.length:Int)),(113,iV g3)],[(0,some (.box [bg b_.bR,aV b_.bD,iV b_.aR.bS,bA b_.aR.ay,dz b_.aY,bU b_.cB])),(1,some (.box [aC g_.dA,aU g_.fA.On,aC g_.fA.dQ,dM g_.dP,aU g_.dU,aU g_.fq]))],2⟩) <|λ jV g3 hm=>si hm (λ _ hm=>s2 hm λ _ _ hm=>l0 hm (λ g6=>⟨[(1,dO l_),(2,aC ah),(5,.ptr 0 0 0),(8,.ptr 1 0 0),(111,aC ah),(112,iV (ah.length:Int)),(113,iV g3),(121,aC ((l_.getD ((ah.getD g3.toNat 0).toNat) aZ).aY)),(122,iV ((((l_.getD ((ah.getD g3.toNat 0).toNat) aZ).aY).length:Nat):Int)),(123,iV g6)],[(0,some (.box [bg b_.bR,aV b_.bD,iV b_.aR.bS,bA b_.aR.ay,dz b_.aY,bU b_.cB])),(1,some (.box [aC g_.dA,aU g_.fA.On,aC g_.fA.dQ,dM g_.dP,aU g_.dU,aU g_.fq]))],2⟩) <|λ jG g6 hm=>si hm (λ _ hm=>s2 hm λ _ _ hm=>si hm (λ _ hm=>by cases hm;exact re) λ _ hm=>sn hm λ _ hm=>le hm) λ _ hm=>sn hm λ _ hm=>le hm) λ _ hm=>sq hm WK λ v15 hm=>si hm (λ _ hm=>by cases hm;exact re) λ _ hm=>lf hm (λ g7=>⟨[(1,dO l_),(8,.ptr 0 0 0),(141,aC ah),(142,iV (ah.length:Int)),(143,iV g7)],[(0,some (.box [aC g_.dA,aU g_.fA.On,aC g_.fA.dQ,dM g_.dP,aU g_.dU,aU g_.fq]))],1⟩) [(0,some 1)] [] <|λ nQ g7 hm=>si hm (λ _ hm=>s2 hm λ _ _ hm=>sn hm λ _ hm=>si hm (λ _ hm=>by cases hm;exact re) λ _ hm=>sn hm λ _ hm=>le hm) λ _ hm=>by cases hm;exact re
theorem WL (hm:N8 b_ l_ ah g_ r):S 29 [jy b_,dO l_,aC ah,kV g_] [] (.bool r) [] :=sp Tryz.func29 rfl<|sq hm U3 λ v1 hm=>by cases hm;exact re
theorem U4 {r:Int} (hm:CX b_ l_ ah g_ bI r):S 71 [jy b_,dO l_,aC ah,kV g_,iV bI] [] (iV r) [] :=sp Tryz.func71 rfl<|sq hm u7 λ v1 hm=>si hm (λ _ hm=>by cases hm;exact re) λ _ hm=>sq hm pW λ v2 hm=>si hm (λ _ hm=>by cases hm;exact re) λ _ hm=>sq hm WL λ v3 hm=>si hm (λ _ hm=>by cases hm;exact re) λ _ hm=>si hm (λ _ hm=>by cases hm;exact re) λ _ hm=>by cases hm;exact re
variable {dF:List Int}
theorem O9 {r:List bM} (hm:Lr l_ dF r):S 22 [dO l_,.eF 0 0 dF.length false] [.row 1 dF.length (bP iV 0 dF)] (fB r) [.row 1 dF.length (bP iV 0 dF)] :=sp Tryz.func22 rfl<|lf hm (λ g1=>⟨[(0,dO l_),(5,.eF 1 0 g1.2.length false),(8,.eF 0 0 dF.length false),(9,iV (dF.length:Int)),(10,iV g1.1)],[(0,some (.row 1 dF.length (bP iV 0 dF))),(1,some (.row 3 g1.2.length (bP yY cZ g1.2)))],2⟩) [(1,none)] [] <|λ aj g1 hm=>si hm (λ _ hm=>sn hm λ _ hm=>si hm (λ _ hm=>s2 hm λ _ _ hm=>sn hm λ _ hm=>lc [(1,some 146)] [] hm) λ _ hm=>sn hm λ _ hm=>le hm) λ _ hm=>by cases hm;exact rt [1] []
theorem QH {r:List bq} (hm:N9 l_ dF r):S 24 [dO l_,.eF 0 0 dF.length false] [.row 1 dF.length (bP iV 0 dF)] (fM r) [.row 1 dF.length (bP iV 0 dF)] :=sp Tryz.func24 rfl<|lf hm (λ g1=>⟨[(0,dO l_),(5,.eF 1 0 g1.2.length false),(8,.eF 0 0 dF.length false),(9,iV (dF.length:Int)),(10,iV g1.1)],[(0,some (.row 1 dF.length (bP iV 0 dF))),(1,some (.row 4 g1.2.length (bP G9 dG g1.2)))],2⟩) [(1,none)] [] <|λ aj g1 hm=>si hm (λ _ hm=>sn hm λ _ hm=>si hm (λ _ hm=>s2 hm λ _ _ hm=>sn hm λ _ hm=>lc [(1,some 146)] [] hm) λ _ hm=>sn hm λ _ hm=>le hm) λ _ hm=>by cases hm;exact rt [1] []
theorem F7 {l_:List aT} {r:List aT} (hm:xH l_ dF r):S 67 [dM l_,.eF 0 0 dF.length false] [.row 1 dF.length (bP iV 0 dF)] (.eF 1 0 r.length false) [.row 1 dF.length (bP iV 0 dF),.row 3 r.length (bP qJ bB r)] :=sp Tryz.func67 rfl<|lf hm (λ g1=>⟨[(1,.eF 0 0 dF.length false),(5,.eF 1 0 g1.2.length false),(8,dM l_),(9,iV (l_.length:Int)),(10,iV g1.1)],[(0,some (.row 1 dF.length (bP iV 0 dF))),(1,some (.row 3 g1.2.length (bP qJ bB g1.2)))],2⟩) [(1,none)] [] <|λ aj g1 hm=>si hm (λ _ hm=>sn hm λ _ hm=>sq hm GH λ v3 hm=>si hm (λ _ hm=>s2 hm λ _ _ hm=>lc [(1,some 98)] [] hm) λ _ hm=>sn hm λ _ hm=>le hm) λ _ hm=>by cases hm;exact re
theorem QI {r:List Int×List Bool×List Int×List Bool×List Bool×Int×Int×List aT} (hm:xI b_ l_ g_ dF r):S 27 [jy b_,dO l_,.eF 0 0 dF.length false,kV g_] [.row 1 dF.length (bP iV 0 dF)] (.kI [.agg [aC r.1,aU r.2.1,aC r.2.2.1,.eF 1 0 r.2.2.2.2.2.2.2.length false,aU r.2.2.2.1,aU r.2.2.2.2.1],iV r.2.2.2.2.2.1,iV r.2.2.2.2.2.2.1]) [.row 1 dF.length (bP iV 0 dF),.row 3 r.2.2.2.2.2.2.2.length (bP qJ bB r.2.2.2.2.2.2.2)] :=sp Tryz.func27 rfl<|sq hm u7 λ v1 hm=>si hm (λ _ hm=>by cases hm;exact rt [] [(1,none)]) λ _ hm=>sq hm pW λ v2 hm=>si hm (λ _ hm=>by cases hm;exact rt [] [(1,none)]) λ _ hm=>sq hm O9 λ v3 hm=>sq hm QH λ v4 hm=>sb hm λ v5 hv5 hm=>cl (λ q0=>(AL (hv5 q0)))<|si hm (λ _ hm=>by cases hm;exact rt [] [(1,none)]) λ _ hm=>sq hm IZ λ v6 hm=>si hm (λ _ hm=>by cases hm;exact rt [] [(1,none)]) λ _ hm=>sq hm I7 λ v7 hm=>si hm (λ _ hm=>by cases hm;exact rt [] [(1,none)]) λ _ hm=>lf hm (λ g1=>⟨[(1,dO l_),(2,.eF 0 0 dF.length false),(4,.ptr 1 0 0),(7,.ptr 2 0 0),(8,.ptr 3 0 0),(14,aC v6.1),(16,.ptr 4 0 0),(17,.eF 5 0 g1.2.1.length false),(18,.eF 6 0 g1.2.2.length false),(78,.eF 0 0 dF.length false),(79,iV (dF.length:Int)),(80,iV g1.1)],[(0,some (.row 1 dF.length (bP iV 0 dF))),(1,some (.box [bg b_.bR,aV b_.bD,iV b_.aR.bS,bA b_.aR.ay,dz b_.aY,bU b_.cB])),(2,some (.box [aC g_.dA,aU g_.fA.On,aC g_.fA.dQ,dM g_.dP,aU g_.dU,aU g_.fq])),(3,some (.box [.sl 0 0 true fF,.sl 0 0 true fF,.sl 0 0 true fF,.sl 0 0 true fF,.sl 0 0 true fF,.sl 0 0 true fF])),(4,some (.box [aU v7.1.On,aC v7.1.dQ])),(5,some (.row 1 g1.2.1.length (bP iV 0 g1.2.1))),(6,some (.row 1 g1.2.2.length (bP iV 0 g1.2.2)))],7⟩) [(2,some 9),(3,some 17),(4,some 441),(5,none),(6,none)] [] <|λ aj g1 hm=>si hm (λ _ hm=>s2 hm λ _ _ hm=>s2 hm λ _ _ hm=>si hm (λ _ hm=>s2 hm λ _ _ hm=>sn hm λ _ hm=>lc [(5,some 87),(6,some 207)] [] hm) λ _ hm=>sn hm λ _ hm=>lc [(5,some 87)] [] hm) λ _ hm=>sq hm yh λ v8 hm=>sq hm GD λ v9 hm=>sq hm F7 λ v10 hm=>by cases hm;exact rt [] [(1,some 199)]
theorem WM {l_:List aT} {r:List ByteArray×List Int} (hm:FJ b_ l_ r):S 73 [jy b_,dM l_] [] (.kI [.eF 0 0 r.1.length false,.eF 1 0 r.2.length false]) [.row 1 r.1.length (bP AV.str ByteArray.empty r.1),.row 1 r.2.length (bP iV 0 r.2)] :=sp Tryz.func73 rfl<|lf hm (λ g1=>⟨[(2,.ptr 0 0 0),(6,.eF 1 0 g1.2.1.length false),(7,.eF 2 0 g1.2.2.length false),(10,dM l_),(11,iV (l_.length:Int)),(12,iV g1.1)],[(0,some (.box [bg b_.bR,aV b_.bD,iV b_.aR.bS,bA b_.aR.ay,dz b_.aY,bU b_.cB])),(1,some (.row 1 g1.2.1.length (bP AV.str ByteArray.empty g1.2.1))),(2,some (.row 1 g1.2.2.length (bP iV 0 g1.2.2)))],3⟩) [(1,none),(2,none)] [] <|λ aj g1 hm=>si hm (λ _ hm=>s2 hm λ _ _ hm=>s2 hm λ _ _ hm=>s2 hm λ _ _ hm=>lc [(1,some 171),(2,some 227)] [] hm) λ _ hm=>by cases hm;exact rt [] [(0,some 1),(1,some 2)]
theorem WO {l_:List ByteArray} (hm:Oc p_ l_ r):S 180 [lX p_,gG l_] [] (.bool r) [] :=sp Tryz.func180 rfl<|sq hm zA λ v1 hm=>si hm (λ _ hm=>by cases hm;exact re) λ _ hm=>l0 hm (λ g1=>⟨[(1,gG l_),(5,iV g1)],[],0⟩) <|λ aj g1 hm=>si hm (λ _ hm=>sn hm λ _ hm=>sq hm u6 λ v4 hm=>si hm (λ _ hm=>by cases hm;exact re) λ _ hm=>sn hm λ _ hm=>le hm) λ _ hm=>by cases hm;exact re
theorem GI {g_:cK} {fD:ByteArray} {r:Int} (hm:Iq g_ fD r):S 14 [og g_,.str fD] [] (iV r) [] :=sp Tryz.func14 rfl<|l0 hm (λ g1=>⟨[(1,.str fD),(2,.ptr 0 0 0),(5,iV g1)],[(0,some (.box [.str g_.wI,aC g_.bS,gG g_.ak]))],1⟩) <|λ aj g1 hm=>si hm (λ _ hm=>sn hm λ _ hm=>si hm (λ _ hm=>by cases hm;exact re) λ _ hm=>sn hm λ _ hm=>le hm) λ _ hm=>by cases hm;exact re
theorem WQ {a_:List Int} {b_:List Int} (hm:FK a_ b_ r):S 221 [aC a_,aC b_] [] (.bool r) [] :=sp Tryz.func221 rfl<|l0 hm (λ g1=>⟨[(0,aC a_),(1,aC b_),(5,iV g1.1),(6,iV g1.2)],[],0⟩) <|λ aj g1 hm=>si hm (λ _ hm=>s2 hm λ _ _ hm=>si hm (λ _ hm=>by cases hm;exact re) λ _ hm=>s2 hm λ _ _ hm=>si hm (λ _ hm=>sn hm λ _ hm=>le hm) λ _ hm=>sn hm λ _ hm=>le hm) λ _ hm=>by cases hm;exact re
variable {eY:List Int}
theorem LQ {g_:Int} (hm:Eb p_ eY g_ r):S 183 [lX p_,aC eY,iV g_] [] (.bool r) [] :=sp Tryz.func183 rfl<|l0 hm (λ g1=>⟨[(1,aC eY),(2,iV g_),(3,.ptr 0 0 0),(7,iV g1)],[(0,some (.box [iV p_.bS,bA p_.ay]))],1⟩) <|λ aj g1 hm=>si hm (λ _ hm=>s2 hm λ _ _ hm=>s2 hm λ _ _ hm=>sb hm λ v3 hv3 hm=>cl (λ q0=>(WQ (hv3 q0)))<|si hm (λ _ hm=>by cases hm;exact re) λ _ hm=>sn hm λ _ hm=>le hm) λ _ hm=>by cases hm;exact re
theorem Yt {l_:List ByteArray} (hm:R5 p_ l_ eY r):S 181 [lX p_,gG l_,aC eY] [] (.bool r) [] :=sp Tryz.func181 rfl<|si hm (λ _ hm=>by cases hm;exact re) λ _ hm=>l0 hm (λ g1=>⟨[(1,gG l_),(2,aC eY),(3,.ptr 0 0 0),(7,iV g1)],[(0,some (.box [iV p_.bS,bA p_.ay]))],1⟩) <|λ aj g1 hm=>si hm (λ _ hm=>s2 hm λ _ _ hm=>sn hm λ _ hm=>sb hm λ v5 hv5 hm=>cl (λ q0=>(GI (hv5 q0)))<|sn hm λ _ hm=>sb hm λ v6 hv6 hm=>cl (λ q0=>((LQ (hv6 q0)).le ⟨.refl _,(.sl ozz (λ _=>rfl) nofun (l8 (f:=iV) (d:=0) (by first | omega | exact Nat.min_le_left _ _ | exact Nat.le_trans (Nat.min_le_left _ _) om | (simp; omega)))),.refl _,trivial⟩ trivial))<|si hm (λ _ hm=>by cases hm;exact re) λ _ hm=>sn hm λ _ hm=>le hm) λ _ hm=>by cases hm;exact re
theorem aaS {l_:List ByteArray} {dX:List Int} {r:Int} (hm:PV p_ l_ dX r):S 128 [lX p_,gG l_,aC dX] [] (iV r) [] :=sp Tryz.func128 rfl<|sq hm WO λ v1 hm=>si hm (λ _ hm=>by cases hm;exact re) λ _ hm=>sq hm Yt λ v2 hm=>si hm (λ _ hm=>by cases hm;exact re) λ _ hm=>by cases hm;exact re
theorem U5 {fD:ByteArray} {r:List Int} (hm:CY p_ fD r):S 182 [lX p_,.str fD] [] (aC r) [] :=sp Tryz.func182 rfl<|lf hm (λ g1=>⟨[(1,.str fD),(2,.ptr 0 0 0),(5,.eF 1 0 g1.2.length false),(9,iV (p_.ay.length:Int)),(10,iV g1.1)],[(0,some (.box [iV p_.bS,bA p_.ay])),(1,some (.row 1 g1.2.length (bP iV 0 g1.2)))],2⟩) [(1,none)] [] <|λ aj g1 hm=>si hm (λ _ hm=>sn hm λ _ hm=>sq hm GI λ v3 hm=>si hm (λ _ hm=>s2 hm λ _ _ hm=>lc [(1,some 114)] [] hm) λ _ hm=>sn hm λ _ hm=>le hm) λ _ hm=>by cases hm;exact rt [1] []
theorem Yu:∀(n:Nat) (iK:bn×List ByteArray×List Int) (r:List Int×Bool),itM oD n iK r→S 129 [lX iK.1,gG iK.2.1,aC iK.2.2] [] (.kI [aC r.1,.bool r.2]) [] :=by
 intro n
 induction n with
 | zero=>intro iK r hm; exact hm.elim
 | succ n ih=>
   intro iK r hm
   have hm:oD (itM oD n) iK r:=hm
   generalize itM oD n=Bf at hm ih
   refine nJ (ct:=[]) iR Tryz.func129 rfl rfl (Nat.le_of_ble_eq_true rfl) dk (Nat.le_of_ble_eq_true rfl) ?_
   (conv=>whnf)
   refine iU hm (λ c1 hm=>?_) (λ c1 hm=>?_)
   · (conv=>whnf)
     refine bf hm λ h1 hm=>?_
     (conv=>whnf)
     have hm:r=(iK.2.2,true):=hm
     subst hm
     refine ⟨[72],[],?_⟩
     (conv=>whnf)
     exact ⟨⟨rfl,trivial,trivial⟩,(by (conv=>whnf); exact ⟨(by (conv=>whnf); exact sf),(by (conv=>whnf); exact ⟨(by first | ((conv=>whnf); exact rfl) | exact rfl),trivial⟩)⟩)⟩
   · (conv=>whnf)
     refine bf hm λ h2 hm=>?_
     (conv=>whnf)
     refine iF hm λ v1 hv1 hm=>?_
     refine ⟨_,_,(U5 hv1),?_⟩
     (conv=>whnf)
     refine vP (ct:=[]) iR dk hm (λ g1=>⟨[(1,gG iK.2.1),(2,aC iK.2.2),(3,.ptr 0 0 0),(8,aC v1),(9,iV g1)],[(0,some (.box [iV iK.1.bS,bA iK.1.ay]))],1⟩) [] [] ⟨rfl,⟨sr,sr,r4,sr,r2,trivial⟩,⟨⟨r2,sr,trivial⟩,trivial⟩⟩ ?_
     intro aj g1 hm
     (conv=>whnf)
     refine iU hm (λ c8 hm=>?_) (λ c8 hm=>?_)
     · (conv=>whnf)
       refine bf hm λ h15 hm=>?_
       (conv=>whnf)
       refine iF hm λ v6 hv6 hm=>?_
       refine ⟨_,_,(LQ hv6),?_⟩
       (conv=>whnf)
       refine iU hm (λ c9 hm=>?_) (λ c9 hm=>?_)
       · (conv=>whnf)
         refine bf hm λ h16 hm=>?_
         (conv=>whnf)
         exact ⟨(g1+(1:Int)),[],[],hm,⟨rfl,⟨sr,sr,r4,sr,r2,trivial⟩,⟨⟨r2,sr,trivial⟩,trivial⟩⟩⟩
       · (conv=>whnf)
         refine bf hm λ h17 hm=>?_
         (conv=>whnf)
         refine bf hm λ h18 hm=>?_
         (conv=>whnf)
         refine bf hm λ h19 hm=>?_
         (conv=>whnf)
         refine iF hm λ v7 hv7 hm=>?_
         refine ⟨_,_,((ih _ _ hv7).le ⟨.refl _,.refl _,(.sl ozz (λ _=>rfl) nofun (jL rfl (λ _ _=>.refl _) rfl (gN iV 0 [(v1.getD g1.toNat 0)]))),trivial⟩ trivial),?_⟩
         (conv=>whnf)
         refine iU hm (λ c10 hm=>?_) (λ c10 hm=>?_)
         · (conv=>whnf)
           have hm:r=(v7.1,true):=hm
           subst hm
           refine ⟨[],[],?_⟩
           (conv=>whnf)
           exact ⟨⟨rfl,trivial,trivial⟩,⟨sf,rfl,trivial⟩⟩
         · (conv=>whnf)
           refine bf hm λ h20 hm=>?_
           (conv=>whnf)
           exact ⟨(g1+(1:Int)),[],[],hm,⟨rfl,⟨sr,sr,r4,sr,r2,trivial⟩,⟨⟨r2,sr,trivial⟩,trivial⟩⟩⟩
     · (conv=>whnf)
       have hm:r=(([]:List Int),false):=hm
       subst hm
       refine ⟨[],[],?_⟩
       (conv=>whnf)
       exact ⟨⟨rfl,trivial,trivial⟩,⟨⟨rfl,(λ h=>absurd rfl h),nofun,(λ _ h=>absurd h (Nat.not_lt_zero _))⟩,rfl,trivial⟩⟩
theorem U6 {l_:List ByteArray} {r:List Int×Bool} (hm:CZ p_ l_ eY r):S 129 [lX p_,gG l_,aC eY] [] (.kI [aC r.1,.bool r.2]) [] :=by
 obtain ⟨n,hm⟩:=hm
 exact Yu n (p_,l_,eY) r hm
theorem U7 {l_:List ByteArray} {dX:List Int} {r:List Int×Int} (hm:C8 p_ l_ dX r):S 74 [lX p_,gG l_,aC dX] [] (.kI [aC r.1,iV r.2]) [] :=sp Tryz.func74 rfl<|sq hm aaS λ v1 hm=>si hm (λ _ hm=>by cases hm;exact re) λ _ hm=>sq hm U6 λ v2 hm=>si hm (λ _ hm=>by cases hm;exact re) λ _ hm=>by cases hm;exact re
theorem Pb {r:bF×Int×Int} (hm:uU b_ l_ g_ bI dF r):S 31 [jy b_,dO l_,.eF 0 0 dF.length false,kV g_,iV bI] [.row 1 dF.length (bP iV 0 dF)] (.kI [kV r.1,iV r.2.1,iV r.2.2]) [.row 1 dF.length (bP iV 0 dF)] :=spc [8,12] Tryz.func31 rfl<|sq hm U4 λ v1 hm=>si hm (λ _ hm=>by cases hm;exact re) λ _ hm=>sq hm GH λ v2 hm=>si hm (λ _ hm=>by cases hm;exact re) λ _ hm=>s2 hm λ _ _ hm=>ck [8,12] (vH b_ l_ bI) r (λ g1=>⟨[(1,dO l_),(4,iV bI),(5,.ptr 1 0 0),(10,.ptr 2 0 0),(14,.eF 3 0 g1.1.length false),(15,.ptr 4 0 0)],[(0,some (.row 1 dF.length (bP iV 0 dF))),(1,some (.box [bg b_.bR,aV b_.bD,iV b_.aR.bS,bA b_.aR.ay,dz b_.aY,bU b_.cB])),(2,some (.box [.sl 0 0 true fF,.sl 0 0 true fF,.sl 0 0 true fF,.sl 0 0 true fF,.sl 0 0 true fF,.sl 0 0 true fF])),(3,some (.row 1 g1.1.length (bP iV 0 g1.1))),(4,some (.box [.sl 0 0 true fF,.sl 0 0 true fF,.sl 0 0 true fF,dM g1.2,.sl 0 0 true fF,.sl 0 0 true fF]))],5⟩) (sq hm F7 λ v11 hm=>lc [(2,some 17),(3,some 169),(4,some 225)] [209] hm) λ g1 hm=>sb hm λ v4 hv4 hm=>cl ((QI hv4).le ⟨.refl _,.refl _,.refl _,(Le.Qg ⟨(.sl rfl (λ h=>absurd rfl h) nofun (λ _ h=>absurd h (Nat.not_lt_zero _))),(.sl rfl (λ h=>absurd rfl h) nofun (λ _ h=>absurd h (Nat.not_lt_zero _))),(.sl rfl (λ h=>absurd rfl h) nofun (λ _ h=>absurd h (Nat.not_lt_zero _))),(.refl _),(.sl rfl (λ h=>absurd rfl h) nofun (λ _ h=>absurd h (Nat.not_lt_zero _))),(.sl rfl (λ h=>absurd rfl h) nofun (λ _ h=>absurd h (Nat.not_lt_zero _))),trivial⟩),trivial⟩ ⟨kU _,trivial⟩)<|si hm (λ _ hm=>by cases hm;exact re) λ _ hm=>ck [8,12] (tY b_ l_ bI v4) r (λ g2=>⟨[(1,dO l_),(4,iV bI),(5,.ptr 1 0 0),(10,.ptr 2 0 0),(16,.ptr 3 0 0),(19,.eF 4 0 g2.2.length false),(20,aC g2.1)],[(0,some (.row 1 dF.length (bP iV 0 dF))),(1,some (.box [bg b_.bR,aV b_.bD,iV b_.aR.bS,bA b_.aR.ay,dz b_.aY,bU b_.cB])),(2,some (.box [.sl 0 0 true fF,.sl 0 0 true fF,.sl 0 0 true fF,.sl 0 0 true fF,.sl 0 0 true fF,.sl 0 0 true fF])),(3,some (.box [aC v4.1,aU v4.2.1,aC v4.2.2.1,.eF 5 0 v4.2.2.2.2.2.2.2.length false,aU v4.2.2.2.1,aU v4.2.2.2.2.1])),(4,some (.row 1 g2.2.length (bP AV.str ByteArray.empty g2.2))),(5,some (.row 3 v4.2.2.2.2.2.2.2.length (bP qJ bB v4.2.2.2.2.2.2.2)))],6⟩) (sq hm WM λ v10 hm=>lc [(3,some 77),(4,some 149),(5,some 37)] [150] hm) λ g2 hm=>s2 hm λ _ _ hm=>sb hm λ v6 hv6 hm=>cl ((U7 hv6).le ⟨.refl _,(.sl ozz (λ _=>rfl) nofun (jL rfl (λ _ _=>.refl _) rfl (λ _ _=>.refl _))),.refl _,trivial⟩ trivial)<|si hm (λ _ hm=>by cases hm;exact re) λ _ hm=>sn hm λ _ hm=>Vo [8,12] hm (λ g3=>⟨[(4,iV bI),(5,.ptr 1 0 0),(10,.ptr 2 0 0),(16,.ptr 3 0 0),(20,aC g2.1),(21,aC v6.1),(91,gG ((l_.getD bI.toNat aZ).ak)),(92,iV ((((l_.getD bI.toNat aZ).ak).length:Nat):Int)),(93,iV g3.1)],[(0,some (.row 1 dF.length (bP iV 0 dF))),(1,some (.box [bg b_.bR,aV b_.bD,iV b_.aR.bS,bA b_.aR.ay,dz b_.aY,bU b_.cB])),(2,some (.box [.sl 0 0 true fF,.sl 0 0 true fF,.sl 0 0 true fF,.sl 0 0 true fF,.sl 0 0 true fF,.sl 0 0 true fF])),(3,some (.box [aC v4.1,aU v4.2.1,aC v4.2.2.1,.eF 4 0 g3.2.length false,aU v4.2.2.2.1,aU v4.2.2.2.2.1])),(4,some (.row 3 g3.2.length (bP qJ bB g3.2)))],5⟩) [(4,some 5)] [] <|λ jV g3 hm=>si hm (λ _ hm=>s2 hm λ _ _ hm=>s2 hm λ _ _ hm=>sq hm GI λ v9 hm=>s2 hm λ _ _ hm=>lc [(4,some 237)] [] hm) λ _ hm=>by cases hm;exact rt [4] []
theorem WR {dF:dI} {r:aS×List aJ×List Int×bF×dI} (hm:FM dF r):S 11 [.ptr 0 0 0] [.box [aC dF.L,iV dF.At]] (.kI [jy r.1,dO r.2.1,aC r.2.2.1,kV r.2.2.2.1]) [.box [aC r.2.2.2.2.L,iV r.2.2.2.2.At]] :=sp Tryz.func11 rfl<|sq hm OY λ v1 hm=>sq hm Kg λ v2 hm=>sq hm LP λ v3 hm=>lf hm (λ g1=>⟨[(0,.ptr 0 0 0),(2,.ptr 1 0 0),(5,.ptr 2 0 0),(6,.ptr 3 0 0),(7,dO v2.1),(8,.ptr 4 0 0),(9,iV v3.2),(10,.eF 5 0 g1.2.2.2.2.2.2.2.2.2.length false),(26,iV (v2.1.length:Int)),(27,iV g1.1)],[(0,some (.box [aC g1.2.1,iV g1.2.2.1])),(1,some (.box [.sl 0 0 true fF,.sl 0 0 true fF,iV (0:Int),.sl 0 0 true fF,.sl 0 0 true fF,.sl 0 0 true fF])),(2,some (.box [.sl 0 0 true fF,.sl 0 0 true fF,.sl 0 0 true fF,.sl 0 0 true fF,.sl 0 0 true fF,.sl 0 0 true fF])),(3,some (.box [bg v1.1.bR,aV v1.1.bD,iV v1.1.aR.bS,bA v1.1.aR.ay,dz v1.1.aY,bU v1.1.cB])),(4,some (.box [aC g1.2.2.2.1,aU g1.2.2.2.2.1,aC g1.2.2.2.2.2.1,dM g1.2.2.2.2.2.2.1,aU g1.2.2.2.2.2.2.2.1,aU g1.2.2.2.2.2.2.2.2.1])),(5,some (.row 1 g1.2.2.2.2.2.2.2.2.2.length (bP iV 0 g1.2.2.2.2.2.2.2.2.2)))],6⟩) [(2,some 25),(3,some 49),(4,some 137),(5,none)] [] <|λ aj g1 hm=>si hm (λ _ hm=>sq hm Pb λ v8 hm=>si hm (λ _ hm=>sq hm bZ λ v9 hm=>si hm (λ _ hm=>s2 hm λ _ _ hm=>lc [(5,some 262)] [] hm) λ _ hm=>sn hm λ _ hm=>le hm) λ c8 hm=>by
 refine ⟨(λ q0=>absurd q0 (vac c8)),?_⟩
 (conv=>whnf)
 refine bf hm λ h14 hm=>?_
 (conv=>whnf)
 refine bf hm λ h15 hm=>?_
 (conv=>whnf)
 exact ⟨((g1.1+(1:Int)),g1.2.1,g1.2.2.1,g1.2.2.2.1,g1.2.2.2.2.1,g1.2.2.2.2.2.1,g1.2.2.2.2.2.2.1,g1.2.2.2.2.2.2.2.1,g1.2.2.2.2.2.2.2.2.1,g1.2.2.2.2.2.2.2.2.2),[],[],hm,⟨rfl,⟨r4,r4,r4,r4,sr,r4,r2,⟨rfl,rfl,rfl,rfl,nofun⟩,r2,r2,trivial⟩,⟨⟨sf,r2,trivial⟩,⟨sr,sr,r2,sr,sr,sr,trivial⟩,⟨sr,sr,sr,sr,sr,sr,trivial⟩,⟨sr,sr,r2,sr,sr,sr,trivial⟩,⟨sf,sf,sf,sf,sf,sf,trivial⟩,⟨rfl,rfl,(λ _ _=>.refl _)⟩,trivial⟩⟩⟩) λ _ hm=>by cases hm;exact rt [5] []
theorem LU {a_:List Int} {b_:List Int} (hm:Ec a_ b_ r):S 37 [aC a_,aC b_] [] (.bool r) [] :=sp Tryz.func37 rfl<|si hm (λ _ hm=>by cases hm;exact re) λ _ hm=>l0 hm (λ g1=>⟨[(0,aC a_),(1,aC b_),(5,iV g1)],[],0⟩) <|λ aj g1 hm=>si hm (λ _ hm=>s2 hm λ _ _ hm=>si hm (λ _ hm=>by cases hm;exact re) λ _ hm=>sn hm λ _ hm=>le hm) λ _ hm=>by cases hm;exact re
theorem oH {a_:List Bool} {b_:List Bool} (hm:oM a_ b_ r):S 39 [aU a_,aU b_] [] (.bool r) [] :=sp Tryz.func39 rfl<|si hm (λ _ hm=>by cases hm;exact re) λ _ hm=>l0 hm (λ g1=>⟨[(0,aU a_),(1,aU b_),(5,iV g1)],[],0⟩) <|λ aj g1 hm=>si hm (λ _ hm=>s2 hm λ _ _ hm=>si hm (λ _ hm=>by cases hm;exact re) λ _ hm=>sn hm λ _ hm=>le hm) λ _ hm=>by cases hm;exact re
theorem Pd {a_:dh} {b_:dh} (hm:uV a_ b_ r):S 38 [AZ a_,AZ b_] [] (.bool r) [] :=sp Tryz.func38 rfl<|sq hm oH λ v1 hm=>sb hm λ v2 hv2 hm=>cl (λ q0=>(LU (hv2 q0)))<|by cases hm;exact re
theorem SS {a_:List aT} {b_:List aT} (hm:zN a_ b_ r):S 36 [dM a_,dM b_] [] (.bool r) [] :=sp Tryz.func36 rfl<|si hm (λ _ hm=>by cases hm;exact re) λ _ hm=>l0 hm (λ g1=>⟨[(0,dM a_),(1,dM b_),(5,iV g1)],[],0⟩) <|λ aj g1 hm=>si hm (λ _ hm=>s2 hm λ _ _ hm=>si hm (λ _ hm=>by cases hm;exact re) λ _ hm=>sn hm λ _ hm=>le hm) λ _ hm=>by cases hm;exact re
theorem Yv {a_:bF} {b_:bF} (hm:JK a_ b_ r):S 19 [kV a_,kV b_] [] (.bool r) [] :=sp Tryz.func19 rfl<|sq hm LU λ v1 hm=>sb hm λ v2 hv2 hm=>cl (λ q0=>(Pd (hv2 q0)))<|sb hm λ v3 hv3 hm=>cl (λ q0=>(SS (hv3 q0)))<|sb hm λ v4 hv4 hm=>cl (λ q0=>(oH (hv4 q0)))<|sb hm λ v5 hv5 hm=>cl (λ q0=>(oH (hv5 q0)))<|by cases hm;exact re
theorem WS {r:bF×Int×Int} (hm:FN b_ l_ ah g_ r):S 26 [jy b_,dO l_,aC ah,kV g_] [] (.kI [kV r.1,iV r.2.1,iV r.2.2]) [] :=sp Tryz.func26 rfl<|sq hm IK λ v1 hm=>si hm (λ _ hm=>by cases hm;exact re) λ _ hm=>sq hm tC λ v2 hm=>by cases hm;exact rt [136] []
theorem Mv {t_:List Int} (hm:zh t_ bI r):S 8 [aC t_,.int .u8 bI] [] (.bool r) [] :=sp Tryz.func8 rfl<|si hm (λ _ hm=>sq hm uZ λ v1 hm=>by cases hm;exact re) λ _ hm=>sq hm aaN λ v2 hm=>sq hm WR λ v3 hm=>sq hm LP λ v4 hm=>si hm (λ _ hm=>sq hm uZ λ v5 hm=>by cases hm;exact re) λ _ hm=>sq hm WS λ v6 hm=>si hm (λ _ hm=>by cases hm;exact re) λ _ hm=>lf hm (λ g1=>⟨[(6,.ptr 0 0 0),(7,dO v3.2.1),(8,aC v3.2.2.1),(9,.ptr 1 0 0),(12,.ptr 2 0 0),(15,.eF 3 0 g1.2.1.length false),(16,.eF 4 0 g1.2.2.length false),(59,aC v3.2.2.1),(60,iV (v3.2.2.1.length:Int)),(61,iV g1.1)],[(0,some (.box [bg v3.1.bR,aV v3.1.bD,iV v3.1.aR.bS,bA v3.1.aR.ay,dz v3.1.aY,bU v3.1.cB])),(1,some (.box [aC v3.2.2.2.1.dA,aU v3.2.2.2.1.fA.On,aC v3.2.2.2.1.fA.dQ,dM v3.2.2.2.1.dP,aU v3.2.2.2.1.dU,aU v3.2.2.2.1.fq])),(2,some (.box [aC v6.1.dA,aU v6.1.fA.On,aC v6.1.fA.dQ,dM v6.1.dP,aU v6.1.dU,aU v6.1.fq])),(3,some (.row 1 g1.2.1.length (bP iV 0 g1.2.1))),(4,some (.row 1 g1.2.2.length (bP iV 0 g1.2.2)))],5⟩) [(0,some 112),(1,some 120),(2,some 312),(3,none),(4,none)] [] <|λ aj g1 hm=>si hm (λ _ hm=>s2 hm λ _ _ hm=>s2 hm λ _ _ hm=>si hm (λ _ hm=>s2 hm λ _ _ hm=>sn hm λ _ hm=>lc [(3,some 85),(4,some 205)] [] hm) λ _ hm=>sn hm λ _ hm=>lc [(3,some 85)] [] hm) λ _ hm=>sq hm yh λ v7 hm=>sq hm GD λ v8 hm=>sb hm λ v9 Sl hm=>cl (λ q0=>(oH (Sl q0)))<|sb hm λ v10 ED hm=>cl (λ q0=>(oH (ED q0)))<|si hm (λ _ hm=>by cases hm;exact re) λ _ hm=>s2 hm λ _ _ hm=>si hm (λ _ hm=>sq hm uZ λ v11 hm=>by cases hm;exact re) λ _ hm=>sb hm λ v12 aae hm=>cl ((F3 aae).le ⟨.refl _,(.sl ozz (λ _=>rfl) nofun (jL rfl (λ _ _=>.refl _) rfl (uq (Le.Qg ⟨(.sl rfl (λ h=>absurd rfl h) nofun (λ _ h=>absurd h (Nat.not_lt_zero _))),(.sl rfl (λ h=>absurd rfl h) nofun (λ _ h=>absurd h (Nat.not_lt_zero _))),(.sl rfl (λ h=>absurd rfl h) nofun (λ _ h=>absurd h (Nat.not_lt_zero _))),(.sl rfl (λ h=>absurd rfl h) nofun (λ _ h=>absurd h (Nat.not_lt_zero _))),(.refl _),(.sl rfl (λ h=>absurd rfl h) nofun (λ _ h=>absurd h (Nat.not_lt_zero _))),trivial⟩) (λ _ h=>absurd h (Nat.not_lt_zero _))))),.refl _,.refl _,.refl _,trivial⟩ trivial)<|sb hm λ v13 R8 hm=>cl (λ q0=>(Yv (R8 q0)))<|sb hm λ v14 TY hm=>cl (λ q0=>(uZ (TY q0)))<|by cases hm;exact re
end Go.Proofs.YtccjmcmolnbiiaaGreatDoor
namespace Go.Proofs.YtccjmcmolnbiiaaGreatDoor
open Go.Ab
set_option maxRecDepth 100000
variable {l_:List aI}
theorem WT {s_:List Int} (h1:Good l_ s_):W (rQ l_ s_) (λ r=>r=gD l_ s_):=by
 obtain ⟨q1,q2,q3,q4,q5⟩:=h1;unfold rQ;refine wn<|bH (λ (g1:Int×List bK)=>0≤g1.1∧g1.1≤l_.length∧g1.2=qH l_ s_ g1.1.toNat++List.replicate (l_.length - g1.1.toNat) dS) (λ (g1:Int×List bK)=>(l_.length - g1.1).toNat) ?_ ?_
 ·intro aj g1 d9 bV;obtain ⟨dN,bO,bE⟩:=d9;unfold Fa;refine wi ?_ ?_<;>intro c1
  ·have hlt:g1.1.toNat<l_.length:=om; have hch:=q3 _ hlt; have hpar:=q5 _ hlt; have hpc:=q4 _ hlt; have hrl:=rZ l_ s_ g1.1.toNat; have hgl:g1.2.length=l_.length:=(by rw [bE,List.length_append,hrl,List.length_replicate]; omega);refine wm<|wn ?_;refine aH (Ot ob ob ob ob) λ v7 hv7=>?_;subst v7;refine bL ?_ ?_<;>intro c2
   ·have kE:=c2;have c2:=nr c2;refine wm<|bV _ ?_ ?_
    ·(refine ⟨ob,ob,?_⟩; dsimp only; exact qC bE om (by unfold Xx; rw [kE]; rfl))
    ·exact ob
   ·have kE:=c2;have c2:=nr c2;have hget:g1.2.getD (j4 (l_.getD g1.1.toNat aK) (s_.getD g1.1.toNat 0)).toNat dS=(qH l_ s_ g1.1.toNat).getD (j4 (l_.getD g1.1.toNat aK) (s_.getD g1.1.toNat 0)).toNat dS:=by rw [bE]; exact jo _ om
    refine wn<|bL ?_ ?_<;>intro c3
    ·have jI:=c3;have c3:=nr c3;refine wm<|bV _ ?_ ?_
     ·(refine ⟨ob,ob,?_⟩; dsimp only; exact qC bE om (by unfold Xx; rw [kE,← hget,show (nD _||_)=true from jI]; rfl))
     ·exact ob
    ·have jI:=c3;have c3:=nr c3;refine bL ?_ ?_<;>intro c4
     ·have sj:=c4;have c4:=nr c4;refine wn<|aH (Xz) λ v8 uG=>?_;subst v8;refine wm<|bV _ ?_ ?_
      ·(refine ⟨ob,ob,?_⟩; dsimp only; exact qC bE om (by unfold Xx; rw [kE,← hget,show (nD _||_)=false from jI,sj]; rfl))
      ·exact ob
     ·have sj:=c4;have c4:=nr c4;refine bL ?_ ?_<;>intro c5
      ·have AO:=c5;have c5:=nr c5;refine wn<|aH (Uc) λ v9 Sl=>?_;subst v9;refine wm<|bV _ ?_ ?_
       ·(refine ⟨ob,ob,?_⟩; dsimp only; exact qC bE om (by unfold Xx; rw [kE,← hget,show (nD _||_)=false from jI,sj,AO]; rfl))
       ·exact ob
      ·have AO:=c5;have c5:=nr c5;refine wm<|wn ?_;refine bV _ ?_ ?_
       ·(refine ⟨ob,ob,?_⟩; dsimp only; exact qC bE om (by unfold Xx; rw [kE,← hget,show (nD _||_)=false from jI,sj,AO]; rfl))
       ·exact ob
  ·refine av ?_;(rw [bE,show g1.1.toNat=l_.length by omega,Nat.sub_self]; simp [gD])
 ·(refine ⟨ob,ob,?_⟩; simp [qH])
theorem WU {s_:List Int} (h1:l_.length≤2000000) (h2:s_.length≤2000000) (h3:aeY l_):W (xg l_ s_) (λ r=>r=vI l_ s_):=by
 unfold xg;refine aH (yw (uF ob)) λ v1 hv1=>?_;subst v1;refine bL ?_ ?_<;>intro c1
 ·have gM:=c1;have c1:=nr c1;refine av ?_;(unfold vI; rw [gM]; rfl)
 ·have gM:=c1;have c1:=nr c1;have hck:eD l_=0:=by simpa using gM
  refine aH (Bh ob ob ob) λ v2 hv2=>?_;subst v2;refine bL ?_ ?_<;>intro c2
  ·have kE:=c2;have c2:=nr c2;refine av ?_;(unfold vI; rw [gM,kE]; rfl)
  ·have kE:=c2;have c2:=nr c2;have hgd:=PW (uW hck) (show lU l_ s_=true by simpa using kE);refine aH (WT ob) λ v3 hv3=>?_;subst v3;refine av ?_;(unfold vI; rw [gM,kE]; rfl)
theorem aoI {x:Int} (h0:0≤x) (h1:x≤4000000):IntKind.i64.wrap (GL .u64 (IntKind.u64.wrap x) (1:Int))=x / 2:=by
 have e1:IntKind.u64.wrap x=x:=Sp.wrap_u64 ⟨om,om⟩;have e2:GL .u64 x 1=x / 2:=by
  unfold GL;rw [show (2:Int) ^ min (1:Int).toNat IntKind.u64.bits=2 from rfl];exact Int.fdiv_eq_ediv_of_nonneg _ om
 rw [e1,e2];exact wrap_i64 ⟨om,om⟩
theorem mul_one {n:Nat} (h:n≤16):zI (IntKind.u64.wrap ((1:Nat):Int)) (IntKind.u64.wrap ((n:Nat):Int)) ((0:Int),(n:Int)):=by
 have key:∀n:Nat,n<17→M.ex 100 (zI (IntKind.u64.wrap ((1:Nat):Int)) (IntKind.u64.wrap ((n:Nat):Int)))=some ((0:Int),(n:Int)):=by decide +kernel
 exact M.akb 100 _ _ (key n om)
def nmH (b:aS) (u:aT):ByteArray:=(b.aR.ay.getD u.kH.dx.toNat aG).ak.getD u.kH.gy.toNat ByteArray.empty
variable {α:Type} {i:Nat}
theorem nN {β:Type} (f:α→β) (l:List α) (d:α) (h:i<l.length):(l.take (i+1)).map f=(l.take i).map f++[f (l.getD i d)]:=by
 rw [List.take_add_one,List.map_append,List.getElem?_eq_getElem h,List.getD_eq_getElem?_getD,List.getElem?_eq_getElem h];rfl
theorem abC {b_:aS} {iQ:List aT} {KQ:List ByteArray} (h1:∀u∈iQ,LC b_.aR u.kH) (h2:iQ.length≤2000000) (h3:KQ.length≤2000000):W (Fh b_ iQ KQ) (λ r=>r=(iQ.map (nmH b_)++KQ,iQ.map λ u=>u.kH.dx)):=by
 unfold Fh;refine bH (λ g1:Int×List ByteArray×List Int=>0≤g1.1∧g1.1≤iQ.length∧g1.2.1=(iQ.take g1.1.toNat).map (nmH b_)∧g1.2.2=(iQ.take g1.1.toNat).map λ u=>u.kH.dx) (λ g1=>(iQ.length - g1.1).toNat) ?_ ⟨ob,ob,by simp,by simp⟩;intro aj g1 ⟨a1,a2,a3,a4⟩ ih1;have l3:g1.2.1.length=g1.1.toNat:=by rw [a3,List.length_map,List.length_take]; omega
 have l4:g1.2.2.length=g1.1.toNat:=by rw [a4,List.length_map,List.length_take]; omega
 unfold Nw;refine wi ?_ ?_<;>intro c
 ·obtain ⟨u1,u2,u3,u4⟩:=h1 _ (getD_in (i:=g1.1.toNat) bB om);refine wn<|aO om ?_;refine aO om ?_;refine aO (by unfold big; omega) ?_;refine aO (by unfold big; omega) ?_;refine wn ?_;have e:(g1.1+1).toNat=g1.1.toNat+1:=by omega
  refine ih1 _ ⟨ob,ob,?_,?_⟩ ob
  ·dsimp only; rw [e,nN _ _ bB om,← a3]; rfl
  ·dsimp only; rw [e,nN _ _ bB om,← a4]
 ·have e:iQ.take g1.1.toNat=iQ:=List.take_of_length_le om;rw [e] at a3 a4;refine aO (by unfold big; omega) ?_;exact av (by rw [a3,a4])
def Yw (g:cK) (f:ByteArray):Int:=XV g.ak λ x=>f.toList==x.toList
theorem Kh {s_:List ByteArray} {v_:ByteArray} (h:(s_.length:Int)≤9223372036854775807):W (slices_Index_string s_ v_) (λ r=>r=XV s_ λ x=>v_.toList==x.toList):=by
 unfold slices_Index_string;exact akk (P:=λ x:ByteArray=>v_.toList==x.toList) (d:=ByteArray.empty) h
theorem EN {s_:List ByteArray} {v_:ByteArray} (h:(s_.length:Int)≤9223372036854775807):W (slices_Contains_string s_ v_) (λ r=>r=decide (0≤XV s_ λ x=>v_.toList==x.toList)):=
 aH (Kh h) λ v hv=>av (by rw [hv])
def Pe (p:bn) (f:ByteArray) (n:Nat):List Int:=((List.range n).filter λ i=>decide (0≤Yw (p.ay.getD i aG) f)).map λ i=>((i:Nat):Int)
theorem aiU (p:bn) (f:ByteArray) (n:Nat):Pe p f (n+1)=Pe p f n++(if decide (0≤Yw (p.ay.getD n aG) f) then [((n:Nat):Int)] else []):=by
 unfold Pe;rw [List.range_succ,List.filter_append,List.map_append];congr 1;cases h:decide (0≤Yw (p.ay.getD n aG) f) with
 | true=>simp only [List.filter_cons,List.filter_nil,h,if_true,List.map_cons,List.map_nil]
 | false=>simp only [List.filter_cons,List.filter_nil,h,Bool.false_eq_true,if_false,List.map_nil]
theorem afr {p:bn} {f:ByteArray} {n:Nat} {x:Int} (h:x∈Pe p f n):0≤x∧x<n∧0≤Yw (p.ay.getD x.toNat aG) f:=by
 unfold Pe at h;obtain ⟨i,hi,rfl⟩:=List.mem_map.1 h;rw [List.mem_filter,List.mem_range] at hi;exact ⟨om,om,by simpa using hi.2⟩
theorem aaT (p:bn) (f:ByteArray) (n:Nat):(Pe p f n).length≤n:=by
 unfold Pe;rw [List.length_map];exact Nat.le_trans (List.length_filter_le _ _) (by simp)
def GSz (p:bn):Prop:=∀g∈p.ay,g.bS.length≤2000000∧g.ak.length≤2000000
theorem abD {p_:bn} {f_:ByteArray} (h1:GSz p_) (h2:wD p_ 0) (h3:p_.ay.length≤24):W (Fj p_ f_) (λ r=>r=Pe p_ f_ p_.ay.length):=by
 unfold Fj;refine aH (zV h1) λ v1 hv1=>?_;have e1:v1=0:=wD.fun _ _ hv1 h2;subst e1;refine bL (λ c1=>by cases c1) (λ c1=>?_);refine bH (λ g1:Int×List Int=>0≤g1.1∧g1.1≤p_.ay.length∧g1.2=Pe p_ f_ g1.1.toNat) (λ g1=>(p_.ay.length - g1.1).toNat) ?_ ⟨ob,ob,rfl⟩;intro aj g1 ⟨a1,a2,a3⟩ ih1;have hl:=aaT p_ f_ g1.1.toNat;rw [← a3] at hl;unfold Ny;refine wi ?_ ?_<;>intro c
 ·have hfl:=(h1 _ (getD_in (i:=g1.1.toNat) aG om)).2;have e:(g1.1+1).toNat=g1.1.toNat+1:=by omega
  refine wn<|aH (EN om) λ v4 hv4=>?_;have hs:=aiU p_ f_ g1.1.toNat;refine bL ?_ ?_<;>intro c2
  ·rw [c2] at hv4;refine aO (by unfold big; omega) ?_;refine wn<|ih1 _ ⟨ob,ob,?_⟩ ob;dsimp only;rw [e,hs,← a3,if_pos (by unfold Yw; exact hv4.symm)];congr 2;omega
  ·rw [c2] at hv4;refine wn<|ih1 _ ⟨ob,ob,?_⟩ ob;dsimp only;rw [e,hs,← a3,if_neg (by unfold Yw; rw [← hv4]; simp),List.append_nil]
 ·exact av (by rw [a3]; congr 1; omega)
def orF (a:Int) (k:Int):Int:=orI .u64 a (Vp .u64 (1:Int) k)
def XH (g:cK):Int:=g.bS.foldl orF 0
def WV (ms:List Int) (gs:List Int):Int:=gs.foldl (λ a g=>orI .u64 a (ms.getD g.toNat 0)) 0
theorem LV {β:Type} (f:β→α→β) (b:β) (l:List α) (d:α) (h:i<l.length):(l.take (i+1)).foldl f b=f ((l.take i).foldl f b) (l.getD i d):=by
 rw [List.take_add_one,List.foldl_append,List.getElem?_eq_getElem h,List.getD_eq_getElem?_getD,List.getElem?_eq_getElem h];rfl
structure PB (p:bn) (l:List ByteArray) (given:List Int) (x:eU):Prop where
 pa:wD p 0
 ll:l.length≤10
 op:x.fT=l.map λ f=>Pe p f p.ay.length
 ms:x.rC=p.ay.map XH
 gv:x.oV=given
 gl:given.length≤l.length
 tk:x.Dz=WV x.rC given
 gm:∀i:Nat,i<given.length→given.getD i 0∈x.fT.getD i []
theorem aoJ {σ R:Type} {F:(σ→M R)→σ→M R} {Q:σ→R→Prop} (inv:σ→Prop) (μ:σ→Nat) (h:∀(self:σ→M R) (s:σ),inv s→(∀s',inv s'→μ s'<μ s→W (self s') (Q s'))→W (F self s) (Q s)) {s:σ} (hs:inv s):W (cO F s) (Q s):=by
 have key:∀n s,inv s→μ s<n→W (itM F n s) (Q s):=by
  intro n;induction n with
  | zero=>intro s _ h; exact absurd h (Nat.not_lt_zero _)
  | succ n ih=>intro s hs hn; exact h _ s hs λ s' h1 h2=>ih s' h1 om
 obtain ⟨r,h1,h2⟩:=key (μ s+1) s hs (Nat.lt_succ_self _);exact ⟨r,⟨_,h1⟩,h2⟩
def opA (x:eU) (ch:List Int) (n:Nat):List Int:=x.fT.getD (ch.getD n 0).toNat []
structure apX (x:eU) (ch:List Int) (taken:Int) (gs row:List Int):Prop where
 len:row.length=ch.length
 pre:row.take gs.length=gs
 mem:∀i:Nat,gs.length≤i→i<ch.length→row.getD i 0∈opA x ch i
 lst:gs.length+1=ch.length→∃j:Nat,j<(opA x ch gs.length).length∧(opA x ch gs.length).getD j 0=row.getD gs.length 0∧∀i:Nat,i<j→LZ .u64 taken (x.rC.getD ((opA x ch gs.length).getD i 0).toNat 0)≠0
 dj:∀i:Nat,gs.length≤i→i<ch.length→LZ .u64 (((row.drop gs.length).take (i - gs.length)).foldl (λ a g=>orI .u64 a (x.rC.getD g.toNat 0)) taken) (x.rC.getD (row.getD i 0).toNat 0)=0
abbrev FSt:=Int×List Int×eU×List Int
abbrev FR:=Bool×Nat×List Int×eU×List Int
def FQ (s:FSt) (r:FR):Prop:=r.2.2.1=s.2.1∧r.2.2.2.1=s.2.2.1∧r.2.1≤r.2.2.2.2.length∧
 (r.1=true→apX s.2.2.1 s.2.1 s.1 s.2.2.2 (r.2.2.2.2.take r.2.1))∧(r.1=false→r.2.1=s.2.2.2.length∧r.2.2.2.2.take r.2.1=s.2.2.2∧s.2.2.2.length<s.2.1.length)
theorem EO {t0:Int} {ch:List Int} {x:eU} (h1:ch.length≤2000000) (h2:∀d∈ch,0≤d∧d<x.fT.length) (h3:∀o∈x.fT,o.length≤2000000∧∀k∈o,0≤k∧k<x.rC.length):W (lI t0 ch x []) (λ r=>FQ (t0,ch,x,[]) r):=by
 unfold lI;refine aoJ (Q:=FQ) (λ s:FSt=>s.2.1=ch∧s.2.2.1=x∧s.2.2.2.length≤ch.length) (λ s=>ch.length - s.2.2.2.length) ?_ ⟨rfl,rfl,Nat.zero_le _⟩;rintro self ⟨tk,c,y,gs⟩ ⟨e1,e2,e3⟩ ih;dsimp only at e1 e2 e3;subst c y;unfold iI;refine bL ?_ ?_<;>intro c1
 ·have c1:=nr c1;have hs:apX x ch tk gs (gs.take gs.length):=by
   rw [List.take_length];exact ⟨om,List.take_length,λ i hi hj=>absurd hi om,λ hl=>absurd hl om,λ i hi hj=>absurd hi om⟩
  exact av ⟨rfl,rfl,Nat.le_refl _,λ _=>hs,nofun⟩
 have c1:=nr c1;dsimp only at c1 ⊢;have hlt:gs.length<ch.length:=by omega
 have hd:=h2 _ (getD_in (i:=gs.length) 0 hlt);have hid:((gs.length:Int)).toNat=gs.length:=by omega
 refine aO om ?_;rw [hid];refine aO hd ?_;have hop:opA x ch gs.length=x.fT.getD (ch.getD gs.length 0).toNat []:=rfl;obtain ⟨hol,hom⟩:=h3 (opA x ch gs.length) (getD_in [] om);refine bH (λ g1:Int×Nat×List Int×List (List Int)×List Int×List Int×Int×List Int=>0≤g1.1∧g1.2.1=gs.length∧g1.2.2.1=ch∧(⟨g1.2.2.2.1,g1.2.2.2.2.1,g1.2.2.2.2.2.1,g1.2.2.2.2.2.2.1⟩:eU)=x∧g1.2.1≤g1.2.2.2.2.2.2.2.length∧g1.2.2.2.2.2.2.2.take g1.2.1=gs∧(gs.length+1=ch.length→∀i:Nat,(i:Int)<g1.1→LZ .u64 tk (x.rC.getD ((opA x ch gs.length).getD i 0).toNat 0)≠0)) (λ g1=>((opA x ch gs.length).length - g1.1).toNat) ?_ ⟨ob,rfl,rfl,rfl,ob,by dsimp only; exact List.take_length,λ _ i hi=>by dsimp only at hi; omega⟩;rintro aj ⟨ix,cnt,c,op,ms,gv,tn,row⟩ ⟨a1,a2,a3,a4,a5,a6,a7⟩ ih1;dsimp only at a1 a2 a3 a4 a5 a6 a7;subst a2 a3;have am:ms=x.rC:=by rw [← a4]
 unfold rT;dsimp only;rw [hid,← hop];refine aO a5 ?_;refine wi ?_ ?_<;>intro c2
 ·have hg:=hom _ (getD_in (i:=ix.toNat) 0 om);refine aO om ?_;refine aO (by rw [am]; omega) ?_;refine wi ?_ ?_<;>intro c3
  ·refine wn<|ih1 _ ⟨ob,rfl,rfl,a4,a5,a6,λ hl=>dZ (a7 hl) a1 (by rw [← am]; exact c3)⟩ ob
  ·refine aO (by unfold big; omega) ?_;unfold mq;dsimp only;rw [hid,← hop];rw [a6,a4];refine aO (by rw [am]; omega) ?_;refine aH (ih (_,c,x,gs++[(opA x c gs.length).getD ix.toNat 0]) ⟨rfl,rfl,by (rw [List.length_append,List.length_singleton]; omega)⟩ (by (dsimp only; rw [List.length_append,List.length_singleton]; omega))) λ v3 hv3=>?_;obtain ⟨q1,q2,q3,q4,q5⟩:=hv3;dsimp only at q1 q2 q4 q5;refine aO q3 ?_;refine bL ?_ ?_<;>intro c4
   ·have hjx:ix.toNat<(opA x c gs.length).length:=by omega
    obtain ⟨s1,s2,s3,s4,s5⟩:=q4 c4;rw [List.length_append,List.length_singleton] at s2 s3 s4 s5;have hpre:(v3.2.2.2.2.take v3.2.1).take gs.length=gs:=by
     have:=congrArg (List.take gs.length) s2;rw [List.take_take,Nat.min_eq_left om,List.take_append_of_le_length (Nat.le_refl _),List.take_length] at this;exact this
    have hat:(v3.2.2.2.2.take v3.2.1).getD gs.length 0=(opA x c gs.length).getD ix.toNat 0:=by
     have this:((v3.2.2.2.2.take v3.2.1).take (gs.length+1)).getD gs.length 0=(gs++[(opA x c gs.length).getD ix.toNat 0]).getD gs.length 0:=by rw [s2]
     rw [P9 _ _ _ _ om] at this;rw [this,List.getD_eq_getElem?_getD,List.getElem?_append_right (Nat.le_refl _),Nat.sub_self];rfl
    refine av ⟨q1,q2,q3,λ _=>⟨s1,hpre,λ i hi hj=>?_,λ hl=>?_,λ i hi hj=>?_⟩,nofun⟩
    ·rcases Nat.eq_or_lt_of_le hi with e | e
     ·rw [← e,hat];exact getD_in 0 om
     ·exact s3 i e hj
    ·exact ⟨ix.toNat,hjx,hat.symm,λ i hi=>a7 hl i om⟩
    ·have hi:gs.length≤i:=hi;have hj:i<c.length:=hj;rcases Nat.eq_or_lt_of_le hi with e | e
     ·rw [← e,Nat.sub_self,List.take_zero,hat,← am]; exact c3
     ·have:=s5 i e hj;rw [drop_cons 0 (by rw [s1]; exact hlt),show i - gs.length=(i - (gs.length+1))+1 by omega,List.take_succ_cons,List.foldl_cons,hat];rw [am] at this;exact this
   ·obtain ⟨p1,p2,p3⟩:=q5 c4;have p1:v3.2.1=gs.length+1:=by rw [p1,List.length_append]; rfl
    have p3:gs.length+1<c.length:=by rw [List.length_append] at p3; exact p3
    clear q4 q5;have hcnt:(((v3.2.1:Nat):Int) - 1).toNat=gs.length:=by omega
    refine aO (by unfold aF; omega) ?_;refine aO om ?_;refine wn<|ih1 _ ⟨ob,hcnt,q1,?_,by dsimp only; omega,?_,λ hl=>?_⟩ ob
    ·dsimp only; rw [q2]
    ·dsimp only;rw [hcnt];have:=congrArg (List.take gs.length) p2;rw [List.take_take,Nat.min_eq_left om,List.take_append_of_le_length (Nat.le_refl _),List.take_length] at this;exact this
    ·omega
 ·exact av ⟨rfl,a4,a5,nofun,λ _=>⟨rfl,a6,hlt⟩⟩
structure apY (x:eU) (r:List Int):Prop where
 len:r.length=x.fT.length - x.oV.length
 at_:∀j:Nat,j<r.length→r.getD j 0=((x.oV.length+j:Nat):Int)
theorem aiV (d:α) (l:List α) (v:α) (j:Nat):(l++[v]).getD j d=if j=l.length then v else l.getD j d:=by
 by_cases h:j<l.length
 ·rw [if_neg om,List.getD_eq_getElem?_getD,List.getElem?_append_left h,← List.getD_eq_getElem?_getD]
 ·by_cases e:j=l.length
  ·rw [if_pos e,List.getD_eq_getElem?_getD,List.getElem?_append_right om,e,Nat.sub_self]; rfl
  ·rw [if_neg e,List.getD_eq_getElem?_getD,List.getElem?_eq_none (by rw [List.length_append]; simp; omega),List.getD_eq_getElem?_getD,List.getElem?_eq_none om]
theorem Ki {x_:eU} (h1:x_.fT.length≤2000000) (h2:x_.oV.length≤2000000):W (ny x_) (apY x_):=by
 unfold ny;refine bH (λ g1:Int×List Int=>(x_.oV.length:Int)≤g1.1∧(g1.2.length:Int)=g1.1 - x_.oV.length∧(x_.oV.length<g1.1→g1.1≤x_.fT.length)∧∀j:Nat,j<g1.2.length→g1.2.getD j 0=((x_.oV.length+j:Nat):Int)) (λ g1=>(x_.fT.length - g1.1).toNat) ?_ ⟨ob,by dsimp only; simp,λ h=>by dsimp only at h; omega,λ j hj=>by simp at hj⟩;intro aj g1 ⟨a1,a2,a4,a3⟩ ih1;unfold vW;refine wi ?_ ?_<;>intro c
 ·refine aO (by unfold big; omega) ?_;refine aO (by unfold aF; omega) ?_;refine ih1 _ ⟨by dsimp only; omega,by dsimp only; rw [List.length_append,List.length_singleton]; omega,λ _=>by dsimp only; omega,λ j hj=>?_⟩ (by dsimp only; omega);dsimp only at hj ⊢;rw [List.length_append,List.length_singleton] at hj;rw [aiV];by_cases e:j=g1.2.length
  ·rw [if_pos e]; omega
  ·rw [if_neg e]; exact a3 j om
 ·exact av ⟨om,a3⟩
theorem abE {n:Int} (h0:0≤n) (h1:n≤4000000):W (pG n) (λ r=>r.1=0):=by
 unfold pG;refine aO (by simp; omega) ?_;unfold qF;refine aO (by unfold aF; omega) ?_;refine aO (by unfold aF; omega) ?_;refine bL (λ c=>?_) (λ _=>av rfl);have c:=nr c;refine aO om ?_;refine aO (by unfold big; omega) ?_;refine aO om ?_;exact av rfl
theorem Yx {a b:List Int} (h1:a.length≤2000000) (h2:b.length≤2000000):W (qN [a,b]) (λ r=>r=a++b):=by
 unfold qN;have g0:([a,b]:List (List Int)).getD 0 []=a:=rfl;have g1:([a,b]:List (List Int)).getD 1 []=b:=rfl;refine bH (λ g:Int×Int=>(g.1=0∧g.2=0)∨(g.1=a.length∧g.2=1)∨(g.1=a.length+b.length∧g.2=2)) (λ g=>(2 - g.2).toNat) ?_ (.inl ⟨rfl,rfl⟩);rintro self ⟨n,i⟩ hi ih;dsimp only at hi;unfold Ak;refine bL ?_ ?_<;>intro c
 ·have c:=nr c;simp only [List.length_cons,List.length_nil] at c;dsimp only;rcases hi with ⟨rfl,rfl⟩ | ⟨rfl,rfl⟩ | ⟨rfl,rfl⟩
  ·rw [show (0:Int).toNat=0 from rfl,g0];refine aO (by simp) ?_;refine aO (by unfold aF; omega) ?_;refine aO (by first | (simp; done) | (simp; omega)) ?_;refine aO (by unfold aF; omega) ?_;exact ih _ (.inr (.inl ⟨by dsimp only; omega,rfl⟩)) (by dsimp only; omega)
  ·rw [show (1:Int).toNat=1 from rfl,g1];refine aO (by simp) ?_;refine aO (by unfold aF; omega) ?_;refine aO (by simp; omega) ?_;refine aO (by unfold aF; omega) ?_;exact ih _ (.inr (.inr ⟨by dsimp only,rfl⟩)) (by dsimp only; omega)
  ·omega
 ·refine aH (abE (by dsimp only; omega) (by dsimp only; omega)) λ v1 hv1=>?_;refine aO om ?_;rw [hv1];refine bH (λ g:Nat×Int×List Int=>g.1≤g.2.2.length∧((g.2.1=0∧g.2.2.take g.1=[]∧g.1=0)∨(g.2.1=1∧g.2.2.take g.1=a∧g.1=a.length)∨(g.2.1=2∧g.2.2.take g.1=a++b))) (λ g=>(2 - g.2.1).toNat) ?_ ⟨Nat.zero_le _,.inl ⟨rfl,by simp,rfl⟩⟩;rintro dJ ⟨k,j,row⟩ ⟨hk,hj⟩ ih2;dsimp only at hk hj;unfold yK;refine aO hk ?_;refine wi ?_ ?_<;>intro c2
  ·simp only [List.length_cons,List.length_nil] at c2;dsimp only;rcases hj with ⟨rfl,e,e2⟩ | ⟨rfl,e,e2⟩ | ⟨rfl,e⟩
   ·rw [show (0:Int).toNat=0 from rfl,g0];refine aO (by simp) ?_;refine aO (by unfold big; omega) ?_;refine aO (by unfold aF; omega) ?_;refine ih2 _ ⟨by dsimp only; rw [List.length_append,List.length_take]; omega,.inr (.inl ⟨rfl,?_,by dsimp only; omega⟩)⟩ (by dsimp only; omega);dsimp only;rw [e,List.nil_append,e2,Nat.zero_add,List.take_length]
   ·rw [show (1:Int).toNat=1 from rfl,g1];refine aO (by simp) ?_;refine aO (by unfold big; omega) ?_;refine aO (by unfold aF; omega) ?_;refine ih2 _ ⟨by dsimp only; rw [List.length_append,List.length_take]; omega,.inr (.inr ⟨rfl,?_⟩)⟩ (by dsimp only; omega);dsimp only;rw [e,List.take_of_length_le (by rw [List.length_append]; omega)]
   ·omega
  ·simp only [List.length_cons,List.length_nil] at c2;dsimp only at c2 ⊢;rcases hj with ⟨rfl,e,e2⟩ | ⟨rfl,e,e2⟩ | ⟨rfl,e⟩
   ·omega
   ·omega
   ·exact av e
variable {given:List Int}
theorem PB.opl {p:bn} {l:List ByteArray} {x:eU} (h:PB p l given x):x.fT.length=l.length:=by rw [h.op,List.length_map]
theorem PB.opg {p:bn} {l:List ByteArray} {x:eU} (h:PB p l given x) (hi:i<l.length):x.fT.getD i []=Pe p (l.getD i ByteArray.empty) p.ay.length:=by
 rw [h.op,List.getD_eq_getElem?_getD,List.getElem?_map,List.getElem?_eq_getElem hi,List.getD_eq_getElem?_getD,List.getElem?_eq_getElem hi];rfl
theorem I9 {p:Prop} {c:Int} {A:Int→Prop} (hc:c≠0) (h:J2 p c A 0):¬p∧A 0:=by
 rcases h with ⟨_,h⟩ | h
 ·exact absurd h.symm hc
 ·exact h
theorem amZ {b:aS} {l:List aJ} {ms:List Int} {g:bF} {bt:Bool} (h:abA b l ms g bt 0):wD b.aR 0∧OL b.aR (g.dP.map aT.kH):=by
 obtain ⟨_,h⟩:=I9 (by decide) h;obtain ⟨_,h⟩:=I9 (by decide) h;obtain ⟨_,h⟩:=I9 (by decide) h;obtain ⟨_,h⟩:=I9 (by decide) h;obtain ⟨_,h⟩:=I9 (by decide) h;exact Classical.not_not.1 (I9 (by decide) h).1
def Dg (ms:List Int) (us:List aT):List aT:=us.filter λ u=>ms.contains u.gW
theorem tL (P:α→Bool) (l:List α) (d:α) (h:i<l.length):(l.take (i+1)).filter P=(l.take i).filter P++(if P (l.getD i d) then [l.getD i d] else []):=by
 rw [List.take_add_one,List.filter_append,List.getElem?_eq_getElem h,List.getD_eq_getElem?_getD,List.getElem?_eq_getElem h];congr 1;simp only [Option.toList_some,Option.getD_some,List.filter_cons,List.filter_nil]
abbrev GA:=List Int×List Bool×List Int×List Bool×List Bool×Int×Int×List aT
structure aud (r:GA):Prop where
 a:r.1.length≤16
 b:r.2.1.length≤16
 c:r.2.2.1.length≤16
 d:r.2.2.2.1.length≤32
 e:r.2.2.2.2.1.length≤16
def QJ (a:Int) (x:Nat):Bool:=(BitVec.ofInt 64 a).getLsbD x
theorem aoK (b:BitVec 64):BitVec.ofInt 64 (IntKind.u64.wrap ((b.toNat:Nat):Int))=b:=by
 have h:=b.isLt;rw [Sp.wrap_u64 ⟨om,om⟩,BitVec.ofInt_natCast,BitVec.ofNat_toNat];exact BitVec.setWidth_eq b
variable {b:Int} {x:Nat}
theorem alh {a:Int} (h:QJ (orI .u64 a b) x=true):QJ a x=true∨QJ b x=true:=by
 unfold QJ orI at h;rw [show IntKind.u64.bits=64 from rfl,aoK,BitVec.getLsbD_or,Bool.or_eq_true] at h;exact h
theorem am0 {a:Int} (h:LZ .u64 a b≠0):∃x,QJ a x=true∧QJ b x=true:=by
 apply Classical.byContradiction;intro hn;apply h;have e:BitVec.ofInt 64 a &&& BitVec.ofInt 64 b=BitVec.ofNat 64 0:=by
  apply BitVec.eq_of_getLsbD_eq;intro i _;rw [BitVec.getLsbD_and];cases ha:(BitVec.ofInt 64 a).getLsbD i with
  | false=>simp
  | true=>
   cases hb:(BitVec.ofInt 64 b).getLsbD i with
   | false=>simp
   | true=>exact absurd ⟨i,ha,hb⟩ hn
 unfold LZ;rw [show IntKind.u64.bits=64 from rfl,e];rfl
theorem afs (h:QJ 0 x=true):False:=by
 unfold QJ at h;simp at h
variable {k:Int}
theorem am1 (h0:0≤k) (h1:k<64) (h:QJ (Vp .u64 1 k) x=true):x=k.toNat:=by
 unfold QJ Vp at h;have hk:k.toNat<64:=by omega
 have hp:(2:Nat) ^ k.toNat<2 ^ 64:=Nat.pow_lt_pow_right om hk;have e:(1:Int)*2 ^ min k.toNat IntKind.u64.bits=((2 ^ k.toNat:Nat):Int):=by
  rw [show IntKind.u64.bits=64 from rfl,Nat.min_eq_left om,Int.one_mul];exact (Int.natCast_pow 2 k.toNat).symm
 have hw:=Sp.wrap_u64 (n:=((2 ^ k.toNat:Nat):Int)) ⟨Int.natCast_nonneg _,om⟩;rw [e,hw,BitVec.ofInt_natCast,BitVec.getLsbD_ofNat] at h;simp only [Bool.and_eq_true,Nat.testBit_two_pow,decide_eq_true_eq] at h;exact h.2.symm
theorem ali {l:List Int} (hl:∀p∈l,0≤p∧p<64):∀ {a:Int} {x:Nat},QJ (l.foldl orF a) x=true→QJ a x=true∨∃p∈l,p.toNat=x:=by
 induction l with
 | nil=>intro a x h; exact .inl h
 | cons p l ih=>
  intro a x h;rcases ih (λ q hq=>hl q (List.mem_cons_of_mem _ hq)) h with h | ⟨q,hq,e⟩
  ·rcases alh h with h | h
   ·exact .inl h
   ·have:=hl p (List.mem_cons_self ..);exact .inr ⟨p,List.mem_cons_self .., (am1 this.1 this.2 h).symm⟩
  ·exact .inr ⟨q,List.mem_cons_of_mem _ hq,e⟩
theorem aft {g:cK} (hl:∀p∈g.bS,0≤p∧p<64) (h:QJ (XH g) x=true):∃p∈g.bS,p.toNat=x:=by
 rcases ali hl h with h | h
 ·exact (afs h).elim
 ·exact h
theorem aiW {ms gs:List Int}:∀ {a:Int} {x:Nat},QJ (gs.foldl (λ a g=>orI .u64 a (ms.getD g.toNat 0)) a) x=true→QJ a x=true∨∃g∈gs,QJ (ms.getD g.toNat 0) x=true:=by
 induction gs with
 | nil=>intro a x h; exact .inl h
 | cons g gs ih=>
  intro a x h;rcases ih h with h | ⟨q,hq,e⟩
  ·rcases alh h with h | h
   ·exact .inl h
   ·exact .inr ⟨g,List.mem_cons_self .., h⟩
  ·exact .inr ⟨q,List.mem_cons_of_mem _ hq,e⟩
theorem aoL {p:bn} (hp:akR p) (hk:0≤k∧k<p.ay.length) (hg:∀g∈given,0≤g∧g<p.ay.length) (h:LZ .u64 (WV (p.ay.map XH) given) ((p.ay.map XH).getD k.toNat 0)≠0):
  ∃g∈given,∃x,x∈(p.ay.getD g.toNat aG).bS∧x∈(p.ay.getD k.toNat aG).bS:=by
 obtain ⟨x,h1,h2⟩:=am0 h;have hm:∀i:Nat,i<p.ay.length→(p.ay.map XH).getD i 0=XH (p.ay.getD i aG):=λ i hi=>by
  rw [List.getD_eq_getElem?_getD,List.getElem?_map,List.getElem?_eq_getElem hi,List.getD_eq_getElem?_getD,List.getElem?_eq_getElem hi];rfl
 have hpn:∀i:Nat,i<p.ay.length→∀q∈(p.ay.getD i aG).bS,0≤q∧q<64:=λ i hi q hq=>by
  have:=(hp.gr _ (getD_in (i:=i) aG hi)).pn q hq;have:=hp.pn;omega
 rw [hm _ om] at h2;obtain ⟨a,ha,ea⟩:=aft (hpn _ om) h2;unfold WV at h1;rcases aiW h1 with h1 | ⟨g,hgm,h1⟩
 ·exact (afs h1).elim
 have hgb:=hg g hgm;rw [hm _ om] at h1;obtain ⟨b,hb,eb⟩:=aft (hpn _ om) h1;have q1:=hpn _ om a ha;have q2:=hpn _ om b hb;have:a=b:=by omega
 subst this;exact ⟨g,hgm,a,hb,ha⟩
structure aue (b:aS) (fns:List ByteArray) (dev:Int) (old:List aT) (new:List aT):Prop where
 pa:wD b.aR 0
 len:new.length=fns.length
 bd:fns.length≤10
 at_:∀i:Nat,i<new.length→(new.getD i bB).gW=dev∧0≤(new.getD i bB).kH.dx∧(new.getD i bB).kH.dx<b.aR.ay.length∧(new.getD i bB).kH.gy=Yw (b.aR.ay.getD (new.getD i bB).kH.dx.toNat aG) (fns.getD i ByteArray.empty)
 lst:fns.length=1→∀k∈Pe b.aR (fns.getD 0 ByteArray.empty) b.aR.ay.length,k<(new.getD 0 bB).kH.dx→
  ∃u∈old,∃x,x∈(b.aR.ay.getD u.kH.dx.toNat aG).bS∧x∈(b.aR.ay.getD k.toNat aG).bS
theorem Sp.Qd {l:List aD} {d:List bq} (h:(Sp.jr l d).2=0):(Sp.jr l d).1.On.length=l.length∧(Sp.jr l d).1.dQ.length=l.length:=by
 unfold Sp.jr at h ⊢;cases h1:Sp.pK l d != 0 with
 | true=>rw [h1] at h; simp at h1; exact absurd h h1
 | false=>
  rw [h1] at h;cases h2:decide (0≤(Sp.IB l d).2)||!Sp.fC l ⟨Sp.fG l d,(Sp.IB l d).1.lv⟩ d with
  | true=>rw [h2] at h; cases h
  | false=>
   simp only [Bool.or_eq_false_iff,Bool.not_eq_false'] at h2;have hm:=h2.2;unfold Sp.fC at hm;cases h3:!Sp.vJ l ⟨Sp.fG l d,(Sp.IB l d).1.lv⟩||!Sp.jq l d with
   | true=>rw [h3] at hm; cases hm
   | false=>
    simp only [Bool.or_eq_false_iff,Bool.not_eq_false'] at h3;have:=(Sp.Dn.1 h3.1).2;exact ⟨this.On,this.len⟩
theorem anq {b:aS} (h:amu b):Ef b:=by
 obtain ⟨b1,b2,b3,b4,b5,b6,b7,b8,b9⟩:=h;exact ⟨om,λ i hi=>by have:=b2 _ (getD_in (i:=i) aK hi); omega,om,λ g hg=>by have:=b6 g hg; omega,om,λ g hg=>by have:=b8 g hg; omega,om⟩
theorem F8 {l_:List aJ} {ah:List Int} (h1:∀x∈l_,x.ak.length≤10) (h2:ah.length≤10000):W (qm l_ ah) (λ _=>True):=by
 unfold qm;refine bH (λ g1:Int×Int=>0≤g1.2∧0≤g1.1∧g1.1≤10*g1.2) (λ g1=>(ah.length - g1.2).toNat) ?_ ob;intro aj g1 ⟨a1,a2,a3⟩ ih1;unfold D5;refine bL (λ c=>?_) (λ c=>av trivial);have c:=nr c;refine wn<|bL ?_ ?_<;>intro c2
 ·have c2:=nr c2;have hx:=h1 _ (getD_in (i:=(ah.getD g1.2.toNat 0).toNat) aZ om);refine wn<|aO (by unfold aF; omega) ?_;refine aO (by unfold aF; omega) ?_;exact ih1 _ ⟨by dsimp only; omega,by dsimp only; omega,by dsimp only; omega⟩ (by dsimp only; omega)
 ·refine aO (by unfold aF; omega) ?_;exact ih1 _ ⟨by dsimp only; omega,by dsimp only; omega,by dsimp only; omega⟩ (by dsimp only; omega)
structure Ga2 (r:GA):Prop where
 a:r.1.length≤2000000
 b:r.2.1.length≤2000000
 c:r.2.2.1.length≤2000000
 d:r.2.2.2.1.length≤2000000
 e:r.2.2.2.2.1.length≤2000000
theorem zX (p e:Int):Ga2 ([],[],[],[],[],p,e,[]):=⟨by simp,by simp,by simp,by simp,by simp⟩
variable {l:List aI}
theorem Y3:∀ {s t:List Int},VS l s→VS l t→nR l s=nR l t→s=t:=by
 induction l with
 | nil=>
  intro s t hs ht _;rw [List.length_eq_zero_iff.1 hs.1,List.length_eq_zero_iff.1 ht.1]
 | cons c l ih=>
  intro s t hs ht e;obtain ⟨x,s,rfl,x0,x1,hs⟩:=Us hs;obtain ⟨y,t,rfl,y0,y1,ht⟩:=Us ht;have p1:=JZ hs;have p2:=JZ ht;rw [nR,nR] at e;have hd:x.toNat=y.toNat:=by
   rcases Nat.lt_trichotomy x.toNat y.toNat with q | q | q
   ·have:(x.toNat+1)*qV l≤y.toNat*qV l:=Nat.mul_le_mul_right _ om;rw [Nat.add_mul,Nat.one_mul] at this;omega
   ·exact q
   ·have:(y.toNat+1)*qV l≤x.toNat*qV l:=Nat.mul_le_mul_right _ om;rw [Nat.add_mul,Nat.one_mul] at this;omega
  rw [hd] at e;rw [show x=y by omega,ih hs ht om]
def agY (l:List aI) (m:List bM) (s:List Int):Prop:=VS l s∧fC l s m=true∧∀t,VS l t→fC l t m=true→nR l s≤nR l t
variable {s:List Int}
theorem agY.uniq {m m':List bM} {s':List Int} (h:agY l m s) (h':agY l m' s') (hm:∀t,fC l t m=fC l t m'):s=s':=
 Y3 h.1 h'.1 (Nat.le_antisymm (h.2.2 _ h'.1 (by rw [hm]; exact h'.2.1)) (h'.2.2 _ h.1 (by rw [← hm]; exact h.2.1)))
def bkB (rs:List bK) (b:jM):Bool:=bif (rs.getD b.AY.toNat dS).jX==0 then !b.ahv else !nV (rs.getD b.AY.toNat dS) b.flow b.ahu
def RV (l:List aI) (rs:List bK):Prop:=∀i:Nat,i<l.length→pJ (rs.getD i dS)=true
theorem afu {r:bK} (hv:pJ r=true):(r.jX==0)=nD r:=by
 cases h:nD r with
 | true=>
  unfold nD at h;simp only [Bool.and_eq_true] at h;exact h.1
 | false=>
  exact beq_eq_false_iff_ne.2 (acn hv h)
theorem any_take_succ (P:α→Bool) (l:List α) (d:α) (h:i<l.length):(l.take (i+1)).any P=((l.take i).any P||P (l.getD i d)):=by
 rw [List.take_add_one,List.any_append,List.getElem?_eq_getElem h,List.getD_eq_getElem?_getD,List.getElem?_eq_getElem h];simp
def ar7 (l:List aI) (m:List bM) (r:List jM):Prop:=∀rs,RV l rs→r.any (bkB rs)=(m.any (Si rs)||!ownB l rs)
variable {m_:List bM}
theorem abF (h1:l_.length≤2000000) (h2:m_.length≤2000000) (h3:∀x∈m_,0≤x.eZ∧x.eZ<l_.length):W (Jv l_ m_) (λ r=>r.length≤m_.length+l_.length∧(∀b∈r,0≤b.AY∧b.AY<l_.length)∧ar7 l_ m_ r):=by
 unfold Jv;refine bH (λ g1:Int×List jM=>0≤g1.1∧g1.1≤m_.length∧(g1.2.length:Int)≤g1.1∧(∀b∈g1.2,0≤b.AY∧b.AY<l_.length)∧∀rs,RV l_ rs→g1.2.any (bkB rs)=(m_.take g1.1.toNat).any (Si rs)) (λ g1=>(m_.length - g1.1).toNat) ?_ ⟨ob,ob,ob,nofun,λ _ _=>rfl⟩;intro aj g1 ⟨a1,a2,a3,a4,a5⟩ ih1;unfold QW;refine wi ?_ ?_<;>intro c
 ·have hx:=h3 _ (getD_in (i:=g1.1.toNat) cZ om);refine wm<|wn ?_;refine ih1 _ ⟨ob,ob,ob,λ b hb=>?_,λ rs hr=>?_⟩ ob
  ·rcases List.mem_append.1 hb with h | h
   ·exact a4 b h
   ·rw [List.mem_singleton] at h; subst h;exact hx
  ·dsimp only;rw [List.any_append,a5 rs hr,show (g1.1+1).toNat=g1.1.toNat+1 by omega,any_take_succ _ _ cZ om];congr 1;rw [List.any_cons,List.any_nil,Bool.or_false];unfold bkB Si;dsimp only;rw [afu (hr _ om)];cases nD (rs.getD (m_.getD g1.1.toNat cZ).eZ.toNat dS)<;>rfl
 ·refine bH (λ g2:Int×List jM=>0≤g2.1∧g2.1≤l_.length∧(g2.2.length:Int)≤m_.length+g2.1∧(∀b∈g2.2,0≤b.AY∧b.AY<l_.length)∧∀rs,RV l_ rs→g2.2.any (bkB rs)=(m_.any (Si rs)||(List.range g2.1.toNat).any λ i=>adi (rs.getD i dS) (l_.getD i aK))) (λ g2=>(l_.length - g2.1).toNat) ?_ ⟨ob,ob,by dsimp only; omega,a4,λ rs hr=>?_⟩
  ·intro dJ g2 ⟨b1,b2,b3,b4,b5⟩ ih2;unfold QV;refine wi ?_ ?_<;>intro c2
   ·have e:(g2.1+1).toNat=g2.1.toNat+1:=by omega
    refine wn<|bL ?_ ?_<;>intro c3
    ·refine wm<|wn ?_;refine ih2 _ ⟨ob,ob,ob,λ b hb=>?_,λ rs hr=>?_⟩ ob
     ·rcases List.mem_append.1 hb with h | h
      ·exact b4 b h
      ·rw [List.mem_singleton] at h; subst h;exact ⟨by dsimp only; omega,by dsimp only; omega⟩
     ·dsimp only;rw [List.any_append,b5 rs hr,e,List.range_succ,List.any_append,Bool.or_assoc];congr 2;rw [List.any_cons,List.any_nil,Bool.or_false,List.any_cons,List.any_nil,Bool.or_false];unfold bkB adi;dsimp only;rw [afu (hr _ om),c3];cases nD (rs.getD g2.1.toNat dS)<;>rfl
    ·refine wn<|ih2 _ ⟨ob,ob,ob,b4,λ rs hr=>?_⟩ ob;dsimp only;rw [b5 rs hr,e,List.range_succ,List.any_append,List.any_cons,List.any_nil,Bool.or_false,show adi (rs.getD g2.1.toNat dS) (l_.getD g2.1.toNat aK)=false by unfold adi; rw [c3,Bool.and_false]; rfl,Bool.or_false]
   ·refine av ⟨om,b4,λ rs hr=>?_⟩;rw [b5 rs hr,show g2.1.toNat=l_.length by omega,List.any_eq_not_all_not (l:=List.range l_.length)];rfl
  ·dsimp only;rw [a5 rs hr,show g1.1.toNat=m_.length by omega,List.take_length];simp
theorem Ja {b_:jM} {r_:bK}:W (nk b_ r_) (λ v=>v=bif r_.jX==0 then !b_.ahv else !nV r_ b_.flow b_.ahu):=by
 unfold nk;exact bL (λ c=>av (by rw [c]; rfl)) (λ c=>aH Gm λ v e=>av (by rw [c,e]; rfl))
theorem apZ (h0:0≤k) (h1:k<64):orI .u64 b (Vp .u64 1 k)≠0:=by
 intro h;have hk:k.toNat<64:=by omega
 have hp:(2:Nat) ^ k.toNat<2 ^ 64:=Nat.pow_lt_pow_right om hk;have e:(1:Int)*2 ^ min k.toNat IntKind.u64.bits=((2 ^ k.toNat:Nat):Int):=by
  rw [show IntKind.u64.bits=64 from rfl,Nat.min_eq_left om,Int.one_mul];exact (Int.natCast_pow 2 k.toNat).symm
 have hw:=Sp.wrap_u64 (n:=((2 ^ k.toNat:Nat):Int)) ⟨Int.natCast_nonneg _,om⟩;have hs:(BitVec.ofInt 64 (Vp .u64 1 k)).getLsbD k.toNat=true:=by
  unfold Vp;rw [e,hw,BitVec.ofInt_natCast,BitVec.getLsbD_ofNat];simp [Nat.testBit_two_pow,hk]
 have hb:(BitVec.ofInt 64 b ||| BitVec.ofInt 64 (Vp .u64 1 k)).getLsbD k.toNat=true:=by
  rw [BitVec.getLsbD_or,hs,Bool.or_true]
 unfold orI at h;rw [show IntKind.u64.bits=64 from rfl] at h;have hl:=(BitVec.ofInt 64 b ||| BitVec.ofInt 64 (Vp .u64 1 k)).isLt;rw [Sp.wrap_u64 ⟨om,om⟩] at h;have hz:BitVec.ofInt 64 b ||| BitVec.ofInt 64 (Vp .u64 1 k)=0:=BitVec.eq_of_toNat_eq (by rw [show (0:BitVec 64).toNat=0 from rfl]; omega);rw [hz] at hb;simp at hb
theorem U8 {o:List Int} (h:s.length≤2000000):W (wW k s o false) (λ r=>(k=0∧r=(false,s,true))∨(k≠0∧r=(true,o,false))):=by
 unfold wW;refine bL (λ c=>aH (Sv h) λ _ e=>av (.inl ⟨by simpa using c,by rw [e]; rfl⟩)) (λ c=>av (.inr ⟨by simpa using c,rfl⟩))
theorem agZ {m:List bM} (h1:lq l m=true) (h2:VS l s):fC l s m=!(m.any (Si (gD l s))||!ownB l (gD l s)):=by
 unfold fC;rw [h1,Ut h2];cases ownB l (gD l s)<;>cases m.any (Si (gD l s))<;>rfl
theorem Yy (h0:lq l_ m_=true):W (Ct l_ m_ [] false) (λ r=>(r.2=true∧agY l_ m_ r.1)∨(r.2=false∧∀t,VS l_ t→fC l_ t m_=false)):=by
 obtain ⟨h1,h2,_⟩:=xO h0;have h3:=ahE h0;have hf:=uW h1;have hlen:=hf.len;have hcb:∀i,i<l_.length→(l_.getD i aK).aM.length≤8:=λ i hi=>(hf.big i hi).2;unfold Ct;refine aH (abF om om h3) λ v1 ⟨hv1,hv2,hv3⟩=>?_;refine wn<|bH (λ g1:List Int×Bool×List Int=>VS l_ g1.2.2∧g1.1=[]∧g1.2.1=false∧∀t,VS l_ t→nR l_ t<nR l_ g1.2.2→fC l_ t m_=false) (λ g1=>qV l_ - nR l_ g1.2.2) ?_ ⟨ahD hf,rfl,rfl,λ t _ ht=>?_⟩
 ·intro aj g1 ⟨hvs,ho1,ho2,hlow⟩ ih1;obtain ⟨hsl,hsv⟩:=id hvs;have hpl:=JZ hvs;have hst:=Ut hvs;unfold Ky;refine aH (WU om om (λ i hi=>by have:=hcb i hi; omega)) λ v12 aae=>?_;have hre:v12.1=gD l_ g1.2.2:=by
   rw [aae]; unfold vI; rw [h1,hst]; rfl
  have hrl:v12.1.length=l_.length:=by
   rw [hre]; exact rZ _ _ _
  have hrv:RV l_ (gD l_ g1.2.2):=λ i hi=>(PZ hf hst i hi).2.2.1;have hmt:=agZ h0 hvs;rw [← hv3 _ hrv] at hmt;refine bH (λ g10:Int×Int=>0≤g10.2∧g10.2≤v1.length∧(g10.1=0↔(v1.take g10.2.toNat).any (bkB (gD l_ g1.2.2))=false)) (λ g10=>(v1.length - g10.2).toNat) ?_ ⟨ob,ob,by simp⟩;intro ac2 g10 ⟨a1,a2,a3⟩ ap0;unfold Kw;refine wi ?_ ?_<;>intro c
  ·have hb:=hv2 _ (getD_in (i:=g10.2.toNat) wN om);have e:(g10.2+1).toNat=g10.2.toNat+1:=by omega
   have hts:=any_take_succ (bkB (gD l_ g1.2.2)) v1 wN (i:=g10.2.toNat) om;refine wm<|aH Ja λ v15 T9=>?_;rw [hre] at T9;have T9:v15=bkB (gD l_ g1.2.2) (v1.getD g10.2.toNat wN):=T9;refine bL ?_ ?_<;>intro c2
   ·refine wm<|ap0 _ ⟨ob,ob,?_⟩ ob;dsimp only;rw [e,hts,← T9,c2,Bool.or_true];exact ⟨λ q=>absurd q (apZ a1 om),nofun⟩
   ·refine wn<|ap0 _ ⟨ob,ob,?_⟩ ob;dsimp only;rw [e,hts,← T9,c2,Bool.or_false];exact a3
  ·rw [show g10.2.toNat=v1.length by omega,List.take_length] at a3;rw [ho1,ho2];refine aH (U8 om) λ v16 agC=>?_;rcases agC with ⟨k0,rfl⟩ | ⟨k0,rfl⟩
   ·refine bL (λ c2=>av (.inl ⟨rfl,hvs,by rw [hmt,a3.1 k0]; rfl,λ t ht hm=>?_⟩)) (λ c2=>by cases c2);exact Nat.le_of_not_lt λ q=>by rw [hlow t ht q] at hm; cases hm
   have hno:fC l_ g1.2.2 m_=false:=by
    rw [hmt];cases q:v1.any (bkB (gD l_ g1.2.2)) with
    | true=>rfl
    | false=>exact absurd (a3.2 q) k0
   refine bL (λ c2=>by cases c2) (λ _=>?_);refine wn<|bH (λ g13:Int => -1≤g13∧g13<l_.length∧∀j:Nat,g13<(j:Int)→j<l_.length→g1.2.2.getD j 0+1=(l_.getD j aK).aM.length) (λ g13=>(g13+1).toNat) ?_ ⟨ob,ob,λ j h1 h2=>by omega⟩;intro agw g13 ⟨b1,b2,b3⟩ ar8;unfold Hq;refine aO (λ e=>by have e:=nr e; omega) ?_;refine aO (λ e=>by have e:=nr e; omega) ?_;refine aO (λ e=>by have e:=nr e; have:=hcb g13.toNat om; exact ob) ?_;refine bL ?_ ?_<;>intro c3
   ·have c3:=nr c3;refine wn<|ar8 _ ⟨om,om,λ j h1 h2=>?_⟩ om;by_cases q:g13<(j:Int)
    ·exact b3 j q h2
    ·have e:j=g13.toNat:=by omega
     subst e; omega
   ·unfold y7;refine bL ?_ ?_<;>intro c4
    ·have c4:=nr c4;have hmx:=adv hvs λ j hj=>b3 j om hj;refine av (.inr ⟨rfl,λ t ht=>?_⟩);have hpt:=JZ ht;by_cases q:nR l_ t<nR l_ g1.2.2
     ·exact hlow t ht q
     ·rw [Y3 ht hvs om]; exact hno
    have c4:=nr c4;have hg:=hsv g13.toNat om;have hc8:=hcb g13.toNat om;have hne:g1.2.2.getD g13.toNat 0+1<(l_.getD g13.toNat aK).aM.length:=by
     rw [Bool.and_eq_false_iff] at c3;rcases c3 with c3 | c3
     ·have c3:=nr c3; omega
     ·have c3:=nr c3; omega
    refine wm<|wm ?_;refine wn ?_;have hset:(g1.2.2.set g13.toNat (g1.2.2.getD g13.toNat 0+1)).length=l_.length:=by rw [List.length_set,hsl]
    have hgd:∀j:Nat,j<l_.length→(XQ (g1.2.2.set g13.toNat (g1.2.2.getD g13.toNat 0+1)) (0+(g13+1).toNat) (List.replicate (g1.2.2.length - (g13+1).toNat) 0)).getD j 0=if g13.toNat<j then 0 else if j=g13.toNat then g1.2.2.getD g13.toNat 0+1 else g1.2.2.getD j 0:=λ j hj=>by
     rw [VJ 0 om,List.length_replicate,Sp.gq,Sp.mF];by_cases q:g13.toNat<j
     ·rw [if_pos om,if_pos q]
     ·rw [if_neg om,if_neg q];by_cases q2:j=g13.toNat
      ·rw [if_pos ⟨q2,om⟩,if_pos q2]
      ·rw [if_neg (λ e=>q2 e.1),if_neg q2]
    have hn:=ahC hvs (k:=g13.toNat) (t:=XQ (g1.2.2.set g13.toNat (g1.2.2.getD g13.toNat 0+1)) (0+(g13+1).toNat) (List.replicate (g1.2.2.length - (g13+1).toNat) 0)) om (by rw [iP]; exact hset) (λ j hj=>by rw [hgd j om,if_neg om,if_neg om]) (by rw [hgd _ om,if_neg om,if_pos rfl]) (λ j h1 h2=>⟨by rw [hgd j h2,if_pos h1],b3 j om h2⟩) hne;have hp2:=JZ hn.1;refine ih1 _ ⟨hn.1,rfl,rfl,λ t ht hp=>?_⟩ (by dsimp only; omega);dsimp only at hp;rw [hn.2] at hp;by_cases q:nR l_ t<nR l_ g1.2.2
    ·exact hlow t ht q
    ·rw [Y3 ht hvs om]; exact hno
 ·dsimp only at ht;rw [aav λ j _=>Sp.mF _ _ _] at ht;omega
theorem Yz (h:lq l_ m_=true):W (Co l_ m_) (λ r=>r=0):=by
 obtain ⟨h1,h2,_⟩:=xO h;have hl:=(uW h1).len;unfold Co;refine aH (yw (uF om)) λ v1 hv1=>?_;subst v1;rw [h1];refine bL (λ c1=>by cases c1) (λ _=>?_);refine aH (Oq om om) λ v2 hv2=>?_;subst v2;rw [h];exact bL (λ c=>by cases c) (λ _=>av rfl)
theorem YA (h:lq l_ m_=true) (he:∃t,VS l_ t∧fC l_ t m_=true):W (Cu l_ m_) (λ r=>r.2=0∧agY l_ m_ r.1):=by
 unfold Cu;refine aH (Yz h) λ v1 hv1=>?_;subst v1;refine bL (λ c1=>by cases c1) (λ _=>?_);refine aH (Yy h) λ v2 hv2=>?_;rcases hv2 with ⟨k,hs⟩ | ⟨k,hn⟩
 ·rw [k]; exact bL (λ c=>by cases c) (λ _=>av ⟨rfl,hs⟩)
 ·obtain ⟨t,ht,hm⟩:=he;rw [hn t ht] at hm; cases hm
def tvo (g:List gP):List Int:=g.map gP.ni
theorem Y4 (g:List gP) (j:Nat):(g.getD j jN).ni=(tvo g).getD j 0:=by
 unfold tvo;rw [List.getD_eq_getElem?_getD,List.getD_eq_getElem?_getD,List.getElem?_map];cases g[j]? <;> rfl
theorem ahK (g:List gP) (j:Nat) (x:gP):tvo (g.set j x)=(tvo g).set j x.ni:=by
 unfold tvo;rw [List.map_set]
theorem adD (g:List gP):(tvo g).length=g.length:=List.length_map ..
theorem WW {z:gP} (hz:z.ni=0) {n:Nat} (h:n≤16):W (lZ [z] ((n:Nat):Int)) (λ r=>tvo r=List.replicate n 0):=by
 unfold lZ;refine aO (by simp) ?_;unfold mU;refine aH (yw (mul_one h)) λ v1 hv1=>?_;subst hv1;refine aO (by simp; omega) ?_;unfold mR;have hw:IntKind.i64.wrap ((n:Nat):Int)=n:=wrap_i64 ⟨om,om⟩;dsimp only;rw [hw];have hm:Nat.min [z].length ((n:Int).toNat)=min 1 n:=by simp
 have ap1:∀(a b:List gP) (p:Nat),(∀j,(a.getD j jN).ni=0)→(∀j,(b.getD j jN).ni=0)→∀j,((XQ a p b).getD j jN).ni=0:=λ a b p ha hb j=>by
  by_cases q:j<a.length
  ·rw [VJ jN q];split
   ·exact hb _
   ·exact ha _
  ·rw [List.getD_eq_getElem?_getD,List.getElem?_eq_none (by rw [iP]; omega)]; rfl
 have htk:∀(a:List gP) (k:Nat),(∀j,(a.getD j jN).ni=0)→∀j,((a.take k).getD j jN).ni=0:=λ a k ha j=>by
  have:=ha j;rw [List.getD_eq_getElem?_getD] at this ⊢;rw [List.getElem?_take];split
  ·exact this
  ·rfl
 refine wn<|bH (λ g3:Int×List gP=>0≤g3.1∧g3.1≤n∧g3.2.length=n∧(0<n→0<g3.1)∧∀j,(g3.2.getD j jN).ni=0) (λ g3=>(n - g3.1).toNat) ?_ ⟨by dsimp only; omega,by dsimp only; rw [hm]; omega,by simp [iP],λ hn=>by dsimp only; rw [hm]; omega,ap1 _ _ _ (λ j=>by rw [Sp.mF]; rfl) (htk _ _ λ j=>?_)⟩
 ·intro jV g3 ⟨a1,a2,a3,a4,a5⟩ ih;unfold tT;refine bL ?_ ?_<;>intro c
  ·have c:=nr c;have hmn:Nat.min g3.1.toNat (g3.2.length - g3.1.toNat)=min g3.1.toNat (g3.2.length - g3.1.toNat):=rfl;rw [hmn];refine aO om ?_;refine aO om ?_;refine aO (by unfold aF; omega) ?_;exact ih _ ⟨by dsimp only; omega,by dsimp only; omega,by dsimp only; rw [iP]; exact a3,λ _=>by dsimp only; omega,ap1 _ _ _ a5 (htk _ _ a5)⟩ (by dsimp only; omega)
  ·refine av (Sp.xP 0 (by rw [adD,List.length_replicate]; exact a3) λ j _=>?_);rw [← Y4,a5,Sp.mF]
 ·cases j with
  | zero=>exact hz
  | succ j=>rfl
theorem afv {a:Int} :W (cmp_Less_int a b) (λ r=>r=decide (a<b)):=by
 unfold cmp_Less_int;refine aH (P:=λ v=>v=false) (av (bne_self_eq_false a)) λ v1 e=>?_;subst e;exact aH (rA (P:=λ _=>True) λ _=>av trivial) λ v2 _=>av rfl
theorem Ez {x_:List Int} {t_:Int} (h1:x_.length≤2000000) (ha:∀i j,i<j→j<x_.length→x_.getD i 0<x_.getD j 0):W (slices_BinarySearch_int x_ t_) (λ r=>r.1=Sp.lvN x_ t_):=by
 unfold slices_BinarySearch_int;refine bH (λ g3:Int×Int=>0≤g3.1∧g3.1≤g3.2∧g3.2≤x_.length∧(∀j:Nat,(j:Int)<g3.1→x_.getD j 0<t_)∧∀j:Nat,g3.2≤(j:Int)→j<x_.length→t_≤x_.getD j 0) (λ g3=>(g3.2 - g3.1).toNat) ?_ ⟨ob,ob,ob,λ j h=>by (try dsimp only at h); omega,λ j h q=>by (try dsimp only at h); omega⟩;intro jV g3 ⟨a1,a2,a3,a4,a5⟩ ih;unfold rM;have hm:=aoI (x:=g3.1+g3.2) om om;refine wi ?_ ?_<;>intro c
 ·refine wn<|aO om ?_;rw [hm];refine aO om ?_;refine aH afv λ v8 uG=>?_;subst uG;refine wi ?_ ?_<;>intro c2
  ·refine aO (by unfold aF; omega) ?_;refine ih _ ⟨by dsimp only; omega,by dsimp only; omega,by dsimp only; omega,λ j hj=>?_,a5⟩ (by dsimp only; omega);dsimp only at hj;by_cases q:(j:Int)=(g3.1+g3.2) / 2
   ·rw [← q] at c2; exact c2
   ·exact Int.lt_trans (ha j ((g3.1+g3.2) / 2).toNat om om) c2
  ·refine ih _ ⟨by dsimp only; omega,by dsimp only; omega,by dsimp only; omega,a4,λ j hj hl=>?_⟩ (by dsimp only; omega);dsimp only at hj;by_cases q:(j:Int)=(g3.1+g3.2) / 2
   ·rw [← q] at c2; exact c2
   ·have:=ha ((g3.1+g3.2) / 2).toNat j om hl;omega
 ·unfold l9;refine aO (λ e=>by have e:=nr e; omega) ?_;refine aO (λ e _=>by have e:=nr e; omega) ?_;refine aH (rA (P:=λ _=>True) λ _=>M0 (rA (P:=λ _=>True) λ _=>av trivial) λ _ _=>trivial) λ v4 _=>?_;refine aH (rA (P:=λ _=>True) λ _=>M0 (rA (P:=λ _=>True) λ _=>M0 (rA (P:=λ _=>True) λ _=>av trivial) λ _ _=>trivial) λ _ _=>trivial) λ v5 _=>?_;have:=Sp.agI (v:=t_) (l:=x_) (k:=g3.1.toNat) om (λ j hj=>a4 j om) (λ hl=>a5 _ om hl);exact av (by dsimp only; omega)
theorem YB {s_:aD} {v_:Int} (h1:s_.bJ.length≤2000000) (ha:Sp.Ov 0 s_.bJ=true):W (Jz s_ v_) (λ r=>r=((Sp.lvN s_.bJ v_:Int),decide ((Sp.lvN s_.bJ v_:Int)<s_.bJ.length))):=
 aH (Ez h1 (Sp.akJ ha)) λ v hv=>av (by rw [hv])
open Sp in
theorem U9 {l_:List aD} {d_:List bq} (h:Ow l_ d_):W (wY l_ d_) (λ r=>r.2=((IB l_ d_).1.lv,(IB l_ d_).2)):=by
 obtain ⟨vl,vd,vs,va,vx⟩:=id h;have hul:=sV l_ d_;unfold wY;refine aH (WW rfl vl) λ v1 hv1=>?_;refine wn<|bH (λ g1:Int×List gP×List Int=>0≤g1.1∧g1.1≤d_.length∧tvo g1.2.1=Bo (xU l_.length d_ g1.1.toNat)∧g1.2.2=List.replicate l_.length 0) (λ g1=>(d_.length - g1.1).toNat) ?_ ⟨ob,ob,?_,rfl⟩
 ·intro aj g1 ⟨a1,a2,a3,a4⟩ ih;have hgl:g1.2.1.length=l_.length:=by rw [← adD,a3,Ul,P8]
  unfold E8;refine wi ?_ ?_<;>intro c
  ·have hx:=vx _ (Go.Proofs.YtccjmcmolnbiiaaGreatDoor.getD_in (i:=g1.1.toNat) dG om);have e:(g1.1+1).toNat=g1.1.toNat+1:=by omega
   refine wm ?_;rw [Y4,a3];refine bL ?_ ?_<;>intro c2
   ·have c2:=nr c2;refine wm<|ih _ ⟨ob,ob,?_,a4⟩ ob;dsimp only;rw [ahK,e,Sr,a3,if_pos c2]
   ·have c2:=nr c2;refine wn<|ih _ ⟨ob,ob,?_,a4⟩ ob;dsimp only;rw [e,Sr,a3,if_neg om,set_self]
  ·refine aH (Gn h) λ v2 hv2=>?_;subst hv2;refine aH mH λ v3 hv3=>?_;subst hv3;refine aO om ?_;refine akm (λ (k:Nat) (g:List gP×List Int)=>∃s:DS,tvo g.1=Bo s.a∧g.2=s.lv∧DOk v3 s∧Qp v3 (fG v3 d_) (v3.length - k) s=IB v3 d_) ?_ ?_ ⟨ds0 v3 d_,by dsimp only; rw [a3,show g1.1.toNat=d_.length by omega]; rfl,a4,agJ _ _,rfl⟩
   ·intro k2 dJ g2 hk ⟨s,e1,e2,e3,e5⟩ ih2;have hal:g2.1.length=v3.length:=by rw [← adD,e1,Ul,e3.al]
    have hll:g2.2.length=v3.length:=by rw [e2,e3.ll]
    unfold DK;have hi:v3.length - 1 - k2<v3.length:=by omega
    have hsi:=vs _ hi;have hk1:v3.length - k2=(v3.length - 1 - k2)+1:=by omega
    have hk2:v3.length - (k2+1)=v3.length - 1 - k2:=by omega
    rw [hk1,Qp] at e5;generalize hii:v3.length - 1 - k2=i at *;rw [show ((i:Nat):Int).toNat=i from rfl];refine aO om ?_;refine bL ?_ ?_<;>intro c2
    ·rw [ach c2,afk c2] at e5;exact ih2 _ ⟨s,e1,e2,e3,by rw [hk2]; exact e5⟩
    have hu:(fG v3 d_).getD i false=true:=by simpa using c2
    refine aO om ?_;rw [Y4,e1,Ee];refine aH (YB om (va _ hi)) λ v6 hv6=>?_;subst hv6;dsimp only;rw [show lvN (v3.getD i au).bJ (s.a.getD i Ou).xR=tZ v3 i s from rfl];refine bL ?_ ?_<;>intro c3
    ·have hf:wo v3 (fG v3 d_) i s=true:=by unfold wo; rw [hu]; exact c3
     rw [hf] at e5;exact av (by dsimp only; rw [← e5]; dsimp only [cond_true]; rw [e2])
    have hf:wo v3 (fG v3 d_) i s=false:=by unfold wo; rw [hu]; exact c3
    rw [hf] at e5;have c3:=nr c3;have hlv:=ado (va _ hi) (tZ v3 i s) om;refine aO om ?_;refine aO om ?_;rw [show ((tZ v3 i s:Nat):Int).toNat=tZ v3 i s from rfl,show (v3.getD i au).bJ.getD (tZ v3 i s) 0+(v3.getD i au).gB=mG v3 i s from rfl];refine aO (by unfold aF mG; omega) ?_;refine aO (λ e=>by have e:=nr e; omega) ?_;have hok:=adp (u:=fG v3 d_) (i:=i) e3;have hdl:(Bn v3 (fG v3 d_) i s).lv=s.lv.set i (tZ v3 i s:Int):=by unfold Bn; rw [hu]; rfl
    rw [Y4,e1];refine bL ?_ ?_<;>intro c4
    ·have sj:=c4;have c4:=nr c4;refine aO om ?_;refine ih2 _ ⟨Bn v3 (fG v3 d_) i s,?_,by dsimp only; rw [hdl,e2],hok,by rw [hk2]; exact e5⟩;dsimp only;rw [ahK,e1,← afj hu (decide_eq_true c4.1),if_pos c4.2]
    ·refine ih2 _ ⟨Bn v3 (fG v3 d_) i s,?_,by dsimp only; rw [hdl,e2],hok,by rw [hk2]; exact e5⟩;dsimp only;rw [e1];rw [Ee] at c4;unfold Bn;rw [hu,c4];rfl
   ·intro g2 ⟨s,e1,e2,e3,e5⟩;rw [Nat.sub_self,Qp] at e5;unfold DJ;exact av (by dsimp only; rw [← e5,e2])
 ·dsimp only;rw [hv1];show _=Bo (List.replicate l_.length (⟨0,-1,-1⟩:Dem));unfold Bo;rw [List.map_replicate]
open Sp in
theorem YC {l_:List aD} {d_:List bq} (h1:l_.length≤2000000) (h2:d_.length≤2000000):W (Cy l_ d_) (λ r=>r=jr l_ d_):=by
 unfold Cy;refine aH (P:=λ v=>v=pK l_ d_) ?_ λ v1 hv1=>?_
 ·unfold Jw;refine aH (xV h1) λ v1 hv1=>?_;subst hv1;refine bL (λ c1=>av (by unfold pK; rw [c1]; rfl)) (λ c1=>?_);refine aH (OA h1 h2) λ v2 hv2=>?_;subst hv2;exact bL (λ c2=>av (by unfold pK; rw [c1,c2]; rfl)) (λ c2=>av (by unfold pK; rw [c1,c2]; rfl))
 subst hv1;refine bL (λ c1=>av (by unfold jr; rw [c1]; rfl)) (λ c1=>?_);have hdr:=afa (show pK l_ d_=0 by simpa using c1);have hv:=Ed hdr;have hl:=hv.len;refine aH (U9 hv) λ v2 hv2=>?_;refine aH (Gn hv) λ v3 hv3=>?_;subst hv3;have hll:v2.2.1.length≤2000000:=by
  rw [hv2];have:=aiD (u:=fG l_ d_) (DOk l_) (λ i s _ h=>adp h) l_.length (ds0 l_ d_) (Nat.le_refl _) (agJ _ _);have:=this.ll;unfold IB;dsimp only;omega
 refine aH (rA λ _=>OB h1 h2 hll) λ v4 hv4=>?_;rw [hv2] at hv4 ⊢;dsimp only at hv4 ⊢;cases q:decide ((0:Int)≤(IB l_ d_).2) with
 | true=>exact bL (λ _=>av (by unfold jr; rw [c1,q]; rfl)) (λ c=>by cases c)
 | false=>
  rw [hv4 q];exact bL (λ c=>av (by unfold jr; rw [c1,q,c]; rfl)) (λ c=>av (by unfold jr; rw [c1,q,c]; rfl))
end Go.Proofs.YtccjmcmolnbiiaaGreatDoor
namespace Go.Proofs.YtccjmcmolnbiiaaGreatDoor
open Go.Ab
set_option maxRecDepth 100000
def Low (C:List Bool→Prop) (ls:List Int) (s:List Bool):Prop:=∀t:List Bool,C t→(∀x∈ls,t.getD x.toNat false=true)→∀i:Nat,s.getD i false=true→t.getD i false=true
structure Lst (n:Nat) (C:List Bool→Prop) (ls:List Int) (s:List Bool):Prop where
 ln:s.length=n
 cl:C s
 mm:∀x∈ls,s.getD x.toNat false=true
 lo:Low C ls s
variable {C:List Bool→Prop} {ls:List Int} {s:List Bool}
theorem Lst.uniq {n:Nat} {ls':List Int} {s':List Bool} (h:Lst n C ls s) (h':Lst n C ls' s') (hm:∀x,x∈ls↔x∈ls'):s=s':=by
 refine Sp.xP false (by rw [h.ln,h'.ln]) λ k _=>Bool.eq_iff_iff.2 ⟨h.lo s' h'.cl (λ x hx=>h'.mm x ((hm x).1 hx)) k,h'.lo s h.cl (λ x hx=>h.mm x ((hm x).2 hx)) k⟩
theorem Y5 {n:Nat}:Low C ls (List.replicate n false):=λ t _ _ i h=>by rw [Sp.mF] at h; cases h
variable {b:Bool}
theorem vg {a:Nat} (h:Low C ls s) (hb:b=true→∀t:List Bool,C t→(∀x∈ls,t.getD x.toNat false=true)→t.getD a false=true):Low C ls (s.set a b):=λ t h1 h2 i hi=>by
 by_cases e:i=a
 ·subst e;by_cases q:i<s.length
  ·rw [pU q] at hi; exact hb hi t h1 h2
  ·rw [List.set_eq_of_length_le om] at hi; exact h t h1 h2 i hi
 ·rw [kM e] at hi; exact h t h1 h2 i hi
theorem XI {i j:Nat} (hb:s.getD i false=true→b=true) (h:s.getD j false=true):(s.set i b).getD j false=true:=by
 by_cases e:j=i
 ·subst e;by_cases q:j<s.length
  ·rw [pU q]; exact hb h
  ·rw [List.set_eq_of_length_le om]; exact h
 ·rw [kM e]; exact h
theorem aoM {a:Bool} (h:a=true):(a||b)=true:=by rw [h]; rfl
theorem YD {l_:List eG} {eP:List Int} (h1:akQ l_) (h2:∀g∈l_,g.dY.length≤2000000) (h3:eP.length≤100000000000) (h4:∀x∈eP,0≤x∧x<l_.length):W (Cz l_ eP) (Lst l_.length (aax l_) eP):=by
 obtain ⟨p1,p2⟩:=h1;unfold Cz;refine wn<|bH (λ g1:Int×List Bool=>0≤g1.1∧g1.2.length=l_.length∧(∀j:Nat,(j:Int)<g1.1→g1.2.getD (eP.getD j 0).toNat false=true)∧Low (aax l_) eP g1.2) (λ g1=>(eP.length - g1.1).toNat) ?_ ⟨ob,by simp,λ j hj=>by (try dsimp only at hj); omega,Y5⟩;intro aj g1 ⟨a1,a2,a3,a4⟩ ih1;unfold KH;refine wi ?_ ?_<;>intro c
 ·have hm:=getD_in (l:=eP) (i:=g1.1.toNat) 0 om;have hx:=h4 _ hm;refine wm<|wn ?_;refine ih1 _ ⟨ob,by dsimp only; rw [List.length_set]; exact a2,λ j hj=>FT ?_ om,vg a4 λ _ t _ ht=>ht _ hm⟩ ob;by_cases q:(j:Int)<g1.1
  ·exact .inl (a3 j q)
  ·have e:j=g1.1.toNat:=by (try dsimp only at hj); omega
   subst e; exact .inr rfl
 ·have hmm:∀x∈eP,g1.2.getD x.toNat false=true:=kC 0 λ j hj=>a3 j om;refine wn<|bH (λ g2:Int×List Bool => -1≤g2.1∧g2.1<l_.length∧g2.2.length=l_.length∧(∀x∈eP,g2.2.getD x.toNat false=true)∧Low (aax l_) eP g2.2∧(∀i:Nat,g2.1<(i:Int)→(i:Int)<l_.length→g2.2.getD i false=true→∀x∈(l_.getD i dn).dY,g2.2.getD x.toNat false=true)) (λ g2=>(g2.1+1).toNat) ?_ ⟨ob,ob,a2,hmm,a4,λ i h1 h2=>by (try dsimp only at h1); omega⟩;intro dJ g2 ⟨b1,b2,b3,b4,b5,b6⟩ ih2;unfold KG;refine wi ?_ ?_<;>intro c2
  ·refine wn ?_;have hal:=h2 _ (getD_in (i:=g2.1.toNat) dn om);have haf:=p2 g2.1.toNat om;refine bH (λ g5:Int×List Bool=>0≤g5.1∧g5.2.length=l_.length∧(∀x∈eP,g5.2.getD x.toNat false=true)∧Low (aax l_) eP g5.2∧(∀i:Nat,g2.1<(i:Int)→(i:Int)<l_.length→g5.2.getD i false=true→∀x∈(l_.getD i dn).dY,g5.2.getD x.toNat false=true)∧(∀k:Nat,(k:Int)<g5.1→g5.2.getD g2.1.toNat false=true→g5.2.getD (((l_.getD g2.1.toNat dn).dY).getD k 0).toNat false=true)) (λ g5=>((l_.getD g2.1.toNat dn).dY.length - g5.1).toNat) ?_ ⟨ob,b3,b4,b5,b6,λ k hk=>by (try dsimp only at hk); omega⟩;intro j5 g5 ⟨d1,d2,d3,d4,d5,d6⟩ ih5;unfold Hw;refine wi ?_ ?_<;>intro c3
   ·have hxm:=getD_in (l:=(l_.getD g2.1.toNat dn).dY) (i:=g5.1.toNat) 0 om;have hx:=haf _ hxm;refine wm<|aO (λ _=>by omega) ?_;refine wm<|ih5 _ ⟨ob,by dsimp only; rw [List.length_set]; exact d2,λ x hx2=>XI aoM (d3 x hx2),vg d4 λ hb t h1 h2=>?_,λ i h3 h4 h5 x hx2=>?_,λ k hk h5=>?_⟩ ob
    ·rcases Bool.or_eq_true_iff.1 hb with hb | hb
     ·exact d4 t h1 h2 _ hb
     ·exact h1 g2.1.toNat om (d4 t h1 h2 _ hb) _ hxm
    ·rw [kM om] at h5; exact XI aoM (d5 i h3 h4 h5 x hx2)
    ·rw [kM om] at h5;by_cases q:(k:Int)<g5.1
     ·exact XI aoM (d6 k q h5)
     ·have e:k=g5.1.toNat:=by (try dsimp only at hk); omega
      subst e; rw [pU om,h5,Bool.or_true]
   ·refine wn<|ih2 _ ⟨ob,ob,d2,d3,d4,λ i h3 h4 h5=>?_⟩ ob;by_cases q:g2.1<(i:Int)
    ·exact d5 i q h4 h5
    ·have e:i=g2.1.toNat:=by (try dsimp only at h3); omega
     subst e; exact kC 0 λ k hk=>d6 k om h5
  ·exact av ⟨b3,λ i hi=>b6 i om hi,b4,b5⟩
theorem YE {l_:List eG} {eP:List Int} (h1:RsA l_ 0) (h2:∀g∈l_,g.dY.length≤2000000) (h3:eP.length≤100000000000) (h4:∀x∈eP,0≤x∧x<l_.length):W (CB l_ eP) (λ r=>Lst l_.length (aax l_) eP r.1):=by
 unfold CB;refine aH (El h2) λ v1 hv1=>?_;have e1:=RsA.fun _ _ hv1 h1;subst e1;refine bL (λ c1=>by cases c1) (λ _=>?_);refine bH (λ g1:Int=>0≤g1) (λ g1=>(eP.length - g1).toNat) ?_ (Int.le_refl _);intro aj g1 a1 ih1;unfold KI;refine bL ?_ ?_<;>intro c
 ·have c:=nr c;have hx:=h4 _ (getD_in (i:=g1.toNat) 0 om);refine wn<|bL (λ c2=>by have c2:=nr c2; omega) (λ c2=>?_);refine wn ?_;exact ih1 _ om om
 ·exact aH (YD h1.ok h2 h3 h4) λ v2 hv2=>av hv2
theorem Va {l_:List dD} {eO:List Int} (h1:DmA l_ 0) (h3:eO.length≤100000000000) (h4:∀x∈eO,0≤x∧x<l_.length):W (w9 l_ eO) (λ r=>r=0):=by
 unfold w9;refine aH Bt λ v1 hv1=>?_;have e1:=DmA.fun _ _ hv1 h1;subst e1;refine bL (λ c1=>by cases c1) (λ _=>?_);refine bH (λ g1:Int=>0≤g1) (λ g1=>(eO.length - g1).toNat) ?_ (Int.le_refl _);intro aj g1 a1 ih1;unfold E9;refine bL (λ c=>?_) (λ c=>av rfl);have c:=nr c;have hx:=h4 _ (getD_in (i:=g1.toNat) 0 om);refine wn<|bL (λ c2=>by have c2:=nr c2; omega) (λ c2=>?_);refine wn ?_;exact ih1 _ om om
theorem alj {l:List dD} {g k:Nat} (hg:g<s.length) (hb1:s.getD g false=true→b=true) (hb2:(l.getD g dH).fK=true→b=true) (hn:¬ (b=true∧0≤(l.getD g dH).aN)) (h:k≠g→RgK l s k):RgK l (s.set g b) k:=by
 by_cases e:k=g
 ·subst e;refine ⟨λ h1=>by rw [pU hg]; exact hb2 h1,λ h1 h2=>?_⟩;rw [pU hg] at h1;exact absurd ⟨h1,h2⟩ hn
 ·obtain ⟨h1,h2⟩:=h e;refine ⟨λ q=>by rw [kM e]; exact h1 q,λ q1 q2=>?_⟩;rw [kM e] at q1;exact XI hb1 (h2 q1 q2)
theorem am4 {l:List dD} {g k p:Nat} (hg:g<s.length) (hp:p<g) (e:(l.getD g dH).aN.toNat=p) (hb1:s.getD g false=true→b=true) (hb:b=true) (hk:k≠p) (h:k≠g→RgK l s k):RgK l ((s.set g b).set p true) k:=by
 have hl:p<(s.set g b).length:=by rw [List.length_set]; omega
 by_cases q:k=g
 ·subst q;refine ⟨λ _=>by rw [kM hk,pU hg]; exact hb,λ _ _=>?_⟩;rw [e]; exact pU hl
 ·obtain ⟨h1,h2⟩:=h q;refine ⟨λ q1=>by rw [kM hk,kM q]; exact h1 q1,λ q1 q2=>?_⟩;rw [kM hk,kM q] at q1;exact XI (λ _=>rfl) (XI hb1 (h2 q1 q2))
theorem adE {l_:List dD} {eO:List Int} (h1:DmA l_ 0) (h3:eO.length≤2000000) (h4:∀x∈eO,0≤x∧x<l_.length):W (PG l_ eO) (λ r=>Lst l_.length (afo l_) eO r.1):=by
 obtain ⟨p1,p2⟩:=h1.ok;unfold PG;refine aH (Va h1 om h4) λ v1 hv1=>?_;subst hv1;refine bL (λ c1=>by cases c1) (λ _=>?_);refine wm<|bH (λ g1:Int×List Bool => -1≤g1.1∧g1.1<l_.length∧g1.2.length=l_.length∧(∀x∈eO,g1.1<x→g1.2.getD x.toNat false=true)∧Low (afo l_) eO g1.2∧∀k:Nat,g1.1<(k:Int)→(k:Int)<l_.length→RgK l_ g1.2 k) (λ g1=>(g1.1+1).toNat) ?_ ⟨ob,ob,by simp,λ x hx q=>by have:=h4 x hx; (try dsimp only at q); omega,Y5,λ k h1 h2=>by (try dsimp only at h1); omega⟩;intro aj g1 ⟨a1,a2,a3,a4,a5,a6⟩ ih1;unfold TK;refine wi ?_ ?_<;>intro c
 ·have hp:=p2 g1.1.toNat om;refine wn<|aO (λ _=>by omega) ?_;refine aH (rA λ _=>yw (iT om)) λ v7 hv7=>?_;refine wn ?_;unfold JB;generalize hb:((g1.2.getD g1.1.toNat false||(l_.getD g1.1.toNat dH).fK)||v7)=b;have hb1:g1.2.getD g1.1.toNat false=true→b=true:=λ e=>by rw [← hb,e]; rfl
  have hb2:(l_.getD g1.1.toNat dH).fK=true→b=true:=λ e=>by rw [← hb,e,Bool.or_true]; rfl
  have hb3:g1.1∈eO→b=true:=λ e=>by
   cases q:(g1.2.getD g1.1.toNat false||(l_.getD g1.1.toNat dH).fK) with
   | true=>rw [← hb,q]; rfl
   | false=>rw [← hb,q,hv7 q,List.contains_iff_mem.2 e]; rfl
  have hb4:b=true→∀t:List Bool,afo l_ t→(∀x∈eO,t.getD x.toNat false=true)→t.getD g1.1.toNat false=true:=λ e t h1 h2=>by
   cases q:(g1.2.getD g1.1.toNat false||(l_.getD g1.1.toNat dH).fK) with
   | true=>
    rcases Bool.or_eq_true_iff.1 q with q | q
    ·exact a5 t h1 h2 _ q
    ·exact h1.al _ om q
   | false=>
    rw [q,hv7 q] at hb;rw [← hb] at e;exact h2 _ (List.contains_iff_mem.1 e)
  have hsl:(g1.2.set g1.1.toNat b).length=l_.length:=by rw [List.length_set]; exact a3
  have hus:∀x∈eO,g1.1 - 1<x→(g1.2.set g1.1.toNat b).getD x.toNat false=true:=λ x hx q=>by
   by_cases e:x=g1.1
   ·subst e; rw [pU om]; exact hb3 hx
   ·exact XI hb1 (a4 x hx om)
  refine aO om ?_;refine aO (λ _=>by omega) ?_;refine bL ?_ ?_<;>intro c2
  ·rw [pU om] at c2;have c2:=nr c2;refine wn<|aO om ?_;refine wn<|ih1 _ ⟨ob,ob,by dsimp only; rw [List.length_set]; exact hsl,λ x hx q=>XI (λ _=>rfl) (hus x hx q),vg (vg a5 hb4) λ _ t h1 h2=>h1.pa _ om (hb4 c2.1 t h1 h2) c2.2,λ k h1 h2=>?_⟩ ob;exact am4 om om rfl hb1 c2.1 (by (try dsimp only at h1); omega) λ e=>a6 k (by (try dsimp only at h1); omega) h2
  ·rw [pU om] at c2;refine wn<|ih1 _ ⟨ob,ob,hsl,hus,vg a5 hb4,λ k h1 h2=>?_⟩ ob;exact alj om hb1 hb2 (λ q=>by rw [q.1,decide_eq_true q.2] at c2; cases c2) λ e=>a6 k (by (try dsimp only at h1); omega) h2
 ·exact av ⟨a3,⟨λ i hi=>(a6 i om hi).1,λ i hi=>(a6 i om hi).2⟩,λ x hx=>a4 x hx (by have:=h4 x hx; omega),a5⟩
def jn {α:Type} (f:aJ→List α) (l:List aJ) (ms:List Int):List α:=ms.flatMap λ m=>f (l.getD m.toNat aZ)
variable {α:Type} {l:List aJ} {ms:List Int}
theorem qY {f:aJ→List α} {i:Nat} (h:i<ms.length):jn f l (ms.take (i+1))=jn f l (ms.take i)++f (l.getD (ms.getD i 0).toNat aZ):=by
 unfold jn;rw [iC 0 h,List.flatMap_append,List.flatMap_cons,List.flatMap_nil,List.append_nil]
theorem zD {f:aJ→List α} {c:Nat}:∀ {ms:List Int},(∀m∈ms,(f (l.getD m.toNat aZ)).length≤c)→(jn f l ms).length≤c*ms.length:=by
 intro ms;induction ms with
 | nil=>intro _; exact Nat.zero_le _
 | cons m ms ih=>
  intro h;have h1:=h m List.mem_cons_self;have h2:=ih λ x hx=>h x (List.mem_cons_of_mem _ hx);unfold jn at h2 ⊢;rw [List.flatMap_cons,List.length_append,List.length_cons,Nat.mul_succ];omega
theorem Vb {of:aJ→M (List α)} {f:aJ→List α} {k:Nat} (hof:∀x,W (of x) (λ r=>r=f x)) (hf:∀x∈l,(f x).length≤2000000) (hin:∀m∈ms,0≤m∧m<l.length) (hm:ms.length≤10000) (hk:k≤64):W (cO (λ (self:Int×List α→M (List α)) g1=>
 bif (decide (g1.1<(ms.length:Int))) then
  need (0≤g1.1∧g1.1<(ms.length:Int))<|
  bif ((decide ((0:Int)≤(ms.getD g1.1.toNat 0)))&&(decide ((ms.getD g1.1.toNat 0)<(l.length:Int)))) then
   need (0≤(ms.getD g1.1.toNat 0)∧(ms.getD g1.1.toNat 0)<(l.length:Int))<|
   bnd (of (l.getD ((ms.getD g1.1.toNat 0).toNat) aZ)) λ v3=>
   need ((g1.2.length+v3.length)*k≤big)<|
   need (aF (g1.1+(1:Int)))<|
   self ((g1.1+(1:Int)),(g1.2++v3))
  else
   need (aF (g1.1+(1:Int)))<|
   self ((g1.1+(1:Int)),g1.2)
 else
  ret g1.2) ((0:Int),([]:List α))) (λ r=>r=jn f l ms):=by
 refine bH (λ g1:Int×List α=>0≤g1.1∧g1.1≤ms.length∧g1.2=jn f l (ms.take g1.1.toNat)) (λ g1=>(ms.length - g1.1).toNat) ?_ ⟨ob,ob,rfl⟩;intro self g1 ⟨h1,h2,h3⟩ ih;refine wi ?_ ?_<;>intro c
 ·have hx:=hin _ (getD_in (i:=g1.1.toNat) 0 om);have hl:=zD (f:=f) (l:=l) (c:=2000000) (ms:=ms.take g1.1.toNat) λ m q=>hf _ (getD_in aZ (by have:=hin m (List.mem_of_mem_take q); omega));rw [← h3,List.length_take] at hl;refine wn<|bL (λ c2=>?_) (λ c2=>by rw [decide_eq_true hx.1,decide_eq_true hx.2] at c2; cases c2);refine aO hx ?_;refine aH (hof _) λ v hv=>?_;have hv2:=hf _ (getD_in (i:=(ms.getD g1.1.toNat 0).toNat) aZ om);rw [← hv] at hv2;have hb:(g1.2.length+v.length)*k≤(g1.2.length+v.length)*64:=Nat.mul_le_mul_left _ hk;refine aO (by unfold big; omega) ?_;refine wn ?_;exact ih _ ⟨ob,ob,by dsimp only; rw [show (g1.1+1).toNat=g1.1.toNat+1 by omega,qY om,h3,hv]⟩ ob
 ·exact av (by rw [h3,List.take_of_length_le om])
def Y6 (n:aJ):List Int:=bif decide (n.fI<0) then [] else [n.fI]
theorem Vd (n:aJ):(Y6 n).length≤1:=by
 unfold Y6;cases decide (n.fI<0)<;>simp
structure AgA (b:aS) (l:List aJ) (ms:List Int) (us:List aT) (x:bF):Prop where
 st:agY b.bR (jn aJ.bY l ms) x.dA
 ra:Sp.jr b.bD (jn aJ.fJ l ms)=(x.fA,0)
 us:x.dP=Dg ms us
 re:Lst b.aY.length (aax b.aY) (jn aJ.aY l ms) x.dU
 po:Lst b.cB.length (afo b.cB) (jn Y6 l ms) x.fq
def SmN (l:List aJ):Prop:=∀x∈l,x.bY.length≤1∧x.fJ.length≤1∧x.ak.length≤2
structure abG (b:aS) (l:List aJ) (ms:List Int):Prop where
 df:yA l ms
 ml:ms.length≤6
 ft:∃t,VS b.bR t∧fC b.bR t (jn aJ.bY l ms)=true
 le:(Sp.jr b.bD (jn aJ.fJ l ms)).2=0
 fc:(jn aJ.ak l ms).length≤10
theorem SV (h:yA l ms):∀m∈ms,0≤m∧m<l.length:=kC 0 λ j hj=>(h j om).1
theorem yj (h:yA l ms) {m:Int} (hm:m∈ms):l.getD m.toNat aZ∈l:=getD_in aZ (by have:=SV h m hm; omega)
variable {b_:aS} {l_:List aJ}
theorem Pf {ah:List Int} (h1:Ef b_) (h2:GSz b_.aR) (h3:Md l_) (hn:mQ b_ l_ 0) (hd:yA l_ ah) (h4:ah.length≤10000):W (Ah b_ l_ ah) (λ r=>r=0):=by
 unfold Ah;refine aH (Rs h1 h2 h3) λ v1 hv1=>?_;have e:=mQ.fun _ _ hv1 hn;subst e;refine bL (λ c1=>by cases c1) (λ _=>?_);refine bH (λ g1:Int=>0≤g1) (λ g1=>(ah.length - g1).toNat) ?_ (Int.le_refl _);intro aj g1 a1 ih1;unfold Np;refine bL (λ c=>?_) (λ c=>av rfl);have c:=nr c;obtain ⟨hx,hk⟩:=hd g1.toNat om;refine wn<|aO (λ _=>by omega) ?_;have hz:(decide (ah.getD g1.toNat 0<0)||decide ((l_.length:Int)≤ah.getD g1.toNat 0))=false:=by
  rw [Bool.or_eq_false_iff,decide_eq_false_iff_not,decide_eq_false_iff_not]; omega
 refine aH (rA λ _=>yw (iT (by rw [List.length_take]; omega))) λ v4 hv4=>?_;have e4:v4=false:=by
  rw [hv4 hz];cases q:(ah.take g1.toNat).contains (ah.getD g1.toNat 0) with
  | false=>rfl
  | true=>
   obtain ⟨k,k1,k2⟩:=(Gt om).1 q;exact absurd k2 (hk k k1)
 rw [hz,e4];refine bL (λ c2=>by cases c2) (λ _=>?_);exact aO ob (ih1 _ om om)
theorem adF {b:aS} (hn:mQ b l 0) (hs:SmN l) (hd:yA l ms) (h4:ms.length≤6):lq b.bR (jn aJ.bY l ms)=true∧(jn aJ.bY l ms).length≤6:=by
 obtain ⟨hb,_,hnd⟩:=tq hn;have hl:=zD (f:=aJ.bY) (l:=l) (c:=1) (ms:=ms) λ m hm=>(hs _ (yj hd hm)).1;refine ⟨?_,om⟩;unfold lq;rw [hb.cl,decide_eq_true om,List.any_eq_false.2 λ x hx=>?_]
 ·rfl
 obtain ⟨m,hm,hx⟩:=List.mem_flatMap.1 hx;obtain ⟨x1,x2,x3,x4,x5⟩:=(hnd _ (yj hd hm)).lm x hx;rw [aeZ];simp only [Bool.or_eq_true,decide_eq_true_eq];omega
theorem adG {b:aS} (hn:mQ b l 0) (hs:SmN l) (hd:yA l ms) (h4:ms.length≤6):Sp.jq b.bD (jn aJ.fJ l ms)=true∧(jn aJ.fJ l ms).length≤6:=by
 obtain ⟨hb,_,hnd⟩:=tq hn;have hl:=zD (f:=aJ.fJ) (l:=l) (c:=1) (ms:=ms) λ m hm=>(hs _ (yj hd hm)).2.1;refine ⟨?_,om⟩;unfold Sp.jq;rw [hb.su,decide_eq_true om,List.any_eq_false.2 λ x hx=>?_]
 ·rfl
 obtain ⟨m,hm,hx⟩:=List.mem_flatMap.1 hx;obtain ⟨x1,x2,x3,x4,x5,x6,x7⟩:=(hnd _ (yj hd hm)).dw x hx;unfold Sp.aal Sp.dK;simp only [Bool.or_eq_true,Bool.not_eq_true',Bool.and_eq_false_iff,decide_eq_false_iff_not];omega
theorem Qe {b:aS} (h:mQ b l 0):wD b.aR 0∧RsA b.aY 0∧DmA b.cB 0:=by
 obtain ⟨h1,_⟩:=OO h;obtain ⟨_,h3⟩:=OO h1;obtain ⟨_,h4⟩:=OO h3;obtain ⟨b3,h5⟩:=OO h4;exact ⟨b3,OO h5⟩
theorem Ph {Mw:List Int} {iQ:List aT} (h1:Ef b_) (h3:Md l_) (hn:mQ b_ l_ 0) (hs:SmN l_) (ha:abG b_ l_ Mw) (h5:iQ.length≤2000000):W (rP b_ l_ Mw iQ) (λ r=>r.2.2.2.2.2.2.1=0∧AgA b_ l_ Mw iQ ⟨r.1,⟨r.2.1,r.2.2.1⟩,r.2.2.2.2.2.2.2,r.2.2.2.1,r.2.2.2.2.1⟩):=by
 obtain ⟨z1,z2,z3,z4,z5,z6,z7⟩:=h1;obtain ⟨hd,h4,hft,hle,hfl⟩:=ha;have hin:=SV hd;obtain ⟨hb,_,hnd⟩:=tq hn;obtain ⟨_,hra,hda⟩:=Qe hn;obtain ⟨hlb,hll⟩:=adF hn hs hd h4;obtain ⟨hdb,hdl⟩:=adG hn hs hd h4;have hul:=zD (f:=Y6) (l:=l_) (c:=1) (ms:=Mw) λ m _=>Vd _;have hrl:=zD (f:=aJ.aY) (l:=l_) (c:=2000000) (ms:=Mw) λ m hm=>(h3.nd _ (yj hd hm)).1;unfold rP;refine aH (P:=λ r=>r=jn aJ.bY l_ Mw) (aH (Vb (k:=24) (of:=DC) (f:=aJ.bY) (λ x=>av rfl) (λ x hx=>by have:=(hs x hx).1; omega) hin om om) λ _ h=>av h) λ v1 hv1=>?_;refine aH (P:=λ r=>r=jn aJ.fJ l_ Mw) (aH (Vb (k:=32) (of:=Gf) (f:=aJ.fJ) (λ x=>av rfl) (λ x hx=>by have:=(hs x hx).2.1; omega) hin om om) λ _ h=>av h) λ v2 hv2=>?_;subst hv1 hv2;have hz:(decide ((32:Int)<(((jn aJ.bY l_ Mw).length:Nat):Int))||decide ((32:Int)<(((jn aJ.fJ l_ Mw).length:Nat):Int)))=false:=by
  rw [Bool.or_eq_false_iff,decide_eq_false_iff_not,decide_eq_false_iff_not]; omega
 rw [hz];refine bL (λ _=>?_) (λ c=>by cases c);refine aH (P:=λ r=>r=jn aJ.ak l_ Mw) (aH (Vb (k:=16) (of:=wQ) (f:=aJ.ak) (λ x=>av rfl) (λ x hx=>by have:=(hs x hx).2.2; omega) hin om om) λ _ h=>av h) λ v3 hv3=>?_;subst hv3;refine bL (λ c2=>by rw [Bool.false_or] at c2; have:=of_decide_eq_true c2; omega) (λ _=>?_);refine aH (YA hlb hft) λ v4 ⟨e4,hv4⟩=>?_;rw [e4];refine bL (λ c3=>by cases c3) (λ _=>?_);refine aH (YC z3 om) λ v5 hv5=>?_;have e5:v5.2=0:=by rw [hv5]; exact hle
 rw [e5];refine bL (λ c3=>by cases c3) (λ _=>?_);refine bH (λ g1:Int×List aT=>0≤g1.1∧g1.1≤iQ.length∧g1.2=Dg Mw (iQ.take g1.1.toNat)) (λ g1=>(iQ.length - g1.1).toNat) ?_ ⟨ob,ob,rfl⟩;intro aj g1 ⟨a1,a2,a3⟩ ih1;have hl:g1.2.length≤g1.1.toNat:=by
  rw [a3]; unfold Dg;exact Nat.le_trans (List.length_filter_le _ _) (by rw [List.length_take]; omega)
 unfold KJ;refine wi ?_ ?_<;>intro c
 ·refine wn ?_;have hs:=tL (λ u:aT=>Mw.contains u.gW) iQ bB (i:=g1.1.toNat) om;have e:(g1.1+1).toNat=g1.1.toNat+1:=by omega
  refine aH (yw (iT om)) λ v8 uG=>?_;refine bL ?_ ?_<;>intro c2
  ·rw [c2] at uG;refine aO (by unfold big; omega) ?_;refine wn<|ih1 _ ⟨ob,ob,?_⟩ ob;dsimp only;unfold Dg at a3 ⊢;rw [e,hs,← a3,if_pos uG.symm]
  ·rw [c2] at uG;refine wn<|ih1 _ ⟨ob,ob,?_⟩ ob;dsimp only;unfold Dg at a3 ⊢;rw [e,hs,← a3,if_neg (by rw [← uG]; exact Bool.false_ne_true),List.append_nil]
 ·refine aH (Vb (k:=8) (of:=Gg) (f:=aJ.aY) (λ x=>av rfl) (λ x hx=>(h3.nd x hx).1) hin om om) λ v9 Sl=>?_;subst Sl;refine aH (YE hra z6 om λ x hx=>?_) λ v10 ED=>?_
  ·obtain ⟨m,hm,hx⟩:=List.mem_flatMap.1 hx;exact (hnd _ (yj hd hm)).rs x hx
  refine aH (Vb (k:=8) (of:=Gh) (f:=Y6) (λ x=>bL (λ c=>av (by unfold Y6; rw [c]; rfl)) (λ c=>av (by unfold Y6; rw [c]; rfl))) (λ x _=>by have:=Vd x; omega) hin om om) λ v11 akY=>?_;subst akY;refine aH (adE hda om λ x hx=>?_) λ v12 aae=>?_
  ·obtain ⟨m,hm,hx⟩:=List.mem_flatMap.1 hx;have hdm:=(hnd _ (yj hd hm)).dm;unfold Y6 at hx;cases q:decide ((l_.getD m.toNat aZ).fI<0) with
   | true=>rw [q] at hx; cases hx
   | false=>
    rw [q] at hx;have:=of_decide_eq_false q;have hx:=List.mem_singleton.1 hx;omega
  refine av ⟨rfl,⟨hv4,?_,?_,ED,aae⟩⟩
  ·dsimp only;rw [← hv5];exact Prod.ext rfl e5
  ·dsimp only;rw [a3,List.take_of_length_le om]
theorem aaU {Mw:List Int} {g_:bF} (h1:Ef b_) (h2:GSz b_.aR) (h3:Md l_) (hn:mQ b_ l_ 0) (hs:SmN l_) (ha:abG b_ l_ Mw) (h5:g_.dP.length≤2000000):W (FN b_ l_ Mw g_) (λ r=>r.2.2=0∧AgA b_ l_ Mw g_.dP r.1):=by
 unfold FN;refine aH (Pf h1 h2 h3 hn ha.df (by have:=ha.ml; omega)) λ v1 hv1=>?_;subst hv1;refine bL (λ c=>by cases c) (λ _=>?_);exact aH (Ph h1 h3 hn hs ha h5) λ v2 hv2=>av hv2
theorem WX {l:List aI} {s:List Int} {m:List bM}:fC l s m=true↔lq l m=true∧lU l s=true∧ownB l (gD l s)=true∧∀x∈m,Si (gD l s) x=false:=by
 unfold fC;rw [Bool.and_eq_true,Bool.and_eq_true,Bool.and_eq_true,Bool.not_eq_true',and_assoc];refine and_congr_right λ _=>and_congr_right λ _=>and_congr_right λ _=>?_;constructor
 ·intro h x hx;cases q:Si (gD l s) x with
  | false=>rfl
  | true=>rw [List.any_eq_true.2 ⟨x,hx,q⟩] at h; cases h
 ·intro h;exact List.any_eq_false.2 λ x hx=>by rw [h x hx]; decide
theorem Qf {l:List aI} {s:List Int} {m m':List bM} (h:fC l s m=true) (hl:lq l m'=true) (hm:∀x∈m',x∈m):fC l s m'=true:=by
 obtain ⟨_,h2,h3,h4⟩:=WX.1 h;exact WX.2 ⟨hl,h2,h3,λ x hx=>h4 x (hm x hx)⟩
variable {ms':List Int}
theorem alm {f:aJ→List α} (h:∀m∈ms',m∈ms):∀x∈jn f l ms',x∈jn f l ms:=λ x hx=>by
 obtain ⟨m,hm,hx⟩:=List.mem_flatMap.1 hx;exact List.mem_flatMap.2 ⟨m,h m hm,hx⟩
theorem aln {b:aS} (hn:mQ b l 0) (hs:SmN l) (hp:ms.Perm ms') (h1:yA l ms) (h2:ms.length≤6):Sp.jr b.bD (jn aJ.fJ l ms)=Sp.jr b.bD (jn aJ.fJ l ms'):=Sp.agM (hp.flatMap_right _) (adG hn hs h1 h2).1
theorem aoN {f:aJ→List α} {a c:List Int}:jn f l (a++c)=jn f l a++jn f l c:=by
 unfold jn;rw [List.flatMap_append]
theorem ant (hs:SmN l) (hd:yA l ms) (h:ms.length≤5):(jn aJ.ak l ms).length≤10:=by
 have:=zD (f:=aJ.ak) (l:=l) (c:=2) (ms:=ms) λ m hm=>(hs _ (yj hd hm)).2.2;omega
theorem alo {b:aS} {us:List aT} {x y:bF} (hn:mQ b l 0) (hs:SmN l) (ha:abG b l ms) (ha':abG b l ms') (hp:ms.Perm ms') (h:AgA b l ms us x) (h':AgA b l ms' us y):
  x.dA=y.dA∧x.fA=y.fA∧x.dU=y.dU∧x.fq=y.fq:=by
 have hm:∀ {α:Type} (f:aJ→List α) (x:α),x∈jn f l ms↔x∈jn f l ms':=λ f x=>⟨alm (λ m hm=>hp.mem_iff.1 hm) x,alm (λ m hm=>hp.mem_iff.2 hm) x⟩
 refine ⟨h.st.uniq h'.st λ t=>Bool.eq_iff_iff.2 ⟨λ q=>Qf q (adF hn hs ha'.df ha'.ml).1 λ x hx=>(hm _ x).2 hx,λ q=>Qf q (adF hn hs ha.df ha.ml).1 λ x hx=>(hm _ x).1 hx⟩,?_,h.re.uniq h'.re (hm _),h.po.uniq h'.po (hm _)⟩;have:=h.ra;rw [aln hn hs hp ha.df ha.ml] at this;exact (Prod.mk.inj (this.symm.trans h'.ra)).1
theorem lD {p:Prop} {c:Int} {A:Int→Prop} (h:¬p) (a:A 0):J2 p c A 0:=.inr ⟨h,a⟩
theorem alp {b:aS} {us:List aT} {x:bF} (hn:mQ b l 0) (hs:SmN l) (ha:abG b l ms) (h:AgA b l ms us x) (ho:OL b.aR (x.dP.map aT.kH)) (hf:amU b l ms x):abA b l ms x false 0:=by
 obtain ⟨hd,h4,_,_,_⟩:=ha;obtain ⟨s1,s2,s3⟩:=h.st;obtain ⟨hpa,hra,hda⟩:=Qe hn;obtain ⟨_,_,hnd⟩:=tq hn;obtain ⟨m1,m2,m3,m4⟩:=WX.1 s2;have hmt:fC b.bR x.dA []=true:=Qf s2 (by unfold lq; rw [(xO m1).1]; rfl) nofun;have hll:(Sp.jr b.bD (jn aJ.fJ l ms)).2=0:=by rw [h.ra]
 have hlr:=Sp.Qd hll;rw [h.ra] at hlr;have hmi:∀i:Nat,(i:Int)<ms.length→ms.getD i 0∈ms:=λ i hi=>getD_in 0 om;have hin:∀ {α:Type} (f:aJ→List α) (i:Nat),(i:Int)<ms.length→∀x∈f (l.getD (ms.getD i 0).toNat aZ),x∈jn f l ms:=λ f i hi x hx=>List.mem_flatMap.2 ⟨_,hmi i hi,hx⟩;refine lD (λ q=>q hn) (lD (λ q=>q ⟨hd,⟨by rw [s1.1],by rw [hlr.1],by rw [hlr.2],by rw [h.re.ln],by rw [h.po.ln]⟩,λ i hi=>s1.2 i (by rw [s1.1] at hi; omega),λ i hi=>?_⟩) (lD (by rw [hmt]; decide) (lD (λ q=>q λ i hi j hj=>?_) (lD ?_ (lD (λ q=>q ⟨hpa,ho⟩) (lD (λ q=>q hf) (lD (λ q=>q ⟨⟨hra,by rw [h.re.ln],λ i hi j hj e=>h.re.cl i hi e _ (getD_in 0 om)⟩,λ i hi j hj=>?_⟩) (lD (λ q=>q ⟨⟨hda,by rw [h.po.ln],λ i hi=>⟨λ e=>h.po.cl.al i hi e,λ e=>h.po.cl.pa i hi e⟩⟩,λ i hi e=>?_⟩) rfl))))))))
 ·have hu:=getD_in (l:=x.dP) (i:=i) bB om;have hu2:x.dP.getD i bB∈Dg ms us:=by rw [← h.us]; exact hu
  have hx:=SV hd _ (List.contains_iff_mem.1 (List.mem_filter.1 hu2).2);omega
 ·have hx:=getD_in (l:=(l.getD (ms.getD i 0).toNat aZ).bY) (i:=j) cZ om;refine (Sz hmt ((hnd _ (yj hd (hmi i hi))).lm _ hx)).1 (Qf s2 ?_ λ y hy=>?_)
  ·obtain ⟨q1,q2,q3⟩:=xO m1;have:=Iy m1 _ (hin aJ.bY i hi _ hx);unfold lq;rw [q1,List.any_cons,List.any_nil,Bool.or_false];rw [show Ma b.bR.length ⟨((l.getD (ms.getD i 0).toNat aZ).bY.getD j cZ).eZ,((l.getD (ms.getD i 0).toNat aZ).bY.getD j cZ).Low,((l.getD (ms.getD i 0).toNat aZ).bY.getD j cZ).fO⟩=false from this];rfl
  ·rw [List.mem_singleton] at hy;rw [hy]; exact hin aJ.bY i hi _ hx
 ·rcases Sp.JU (adG hn hs hd h4).1 with ⟨_,q⟩ | ⟨q,_⟩
  ·rw [h.ra] at q;have:=q.ok;show ¬ Sp.fC b.bD x.fA (jn aJ.fJ l ms)=false;rw [this]; decide
  ·rw [h.ra] at q; exact absurd (Prod.mk.inj q).2 (by decide)
 ·exact h.re.mm _ (hin aJ.aY i hi _ (getD_in 0 om))
 ·refine h.po.mm _ (hin Y6 i hi _ ?_);unfold Y6;rw [decide_eq_false om];exact List.mem_singleton.2 rfl
theorem aaV {ah:List Int} {g_:bF} {bI:Int} (h1:Ef b_) (h2:GSz b_.aR) (h3:Md l_) (h4:ah.length≤10000) (h5:Qq g_):W (CX b_ l_ ah g_ bI) (λ r=>r=0→mQ b_ l_ 0∧(wD b_.aR 0∧OL b_.aR (g_.dP.map aT.kH))∧0≤bI∧bI<l_.length):=by
 unfold CX;refine aH (zW h1 h2 h3) λ v1 hv1=>?_;refine bL ?_ ?_<;>intro c1
 ·have c1:=nr c1;exact av λ e=>absurd e c1
 have c1:=nr c1;rw [c1] at hv1;have hl:=(tq hv1).2.1;refine aH (sW om om) λ v2 _=>?_;refine bL (λ c2=>av nofun) (λ c2=>?_);refine aH (P:=λ v=>v=true→wD b_.aR 0∧OL b_.aR (g_.dP.map aT.kH)) ?_ λ v3 hv3=>?_
 ·unfold N8;refine aH (Yi h1 h2 h3 h4 h5) λ v hv=>av λ e=>?_;have e:v=0:=by simpa using e
  rw [e] at hv;exact amZ hv
 refine bL (λ c3=>av nofun) (λ c3=>?_);have c3:=nr c3;refine bL (λ c4=>av nofun) (λ c4=>?_);have c4:=nr c4;exact av λ _=>⟨hv1,hv3 c3,c4.1,c4.2⟩
end Go.Proofs.YtccjmcmolnbiiaaGreatDoor

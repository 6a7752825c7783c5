/- An abstract machine over the model's code, that it is sound; models of the functions and their proofs. -/
import Derived.Test.YtccjmcmolnbiiaaGreatDoorA8
import Derived.Test.YtccjmcmolnbiiaaGreatDoorA7
import Derived.Test.YtccjmcmolnbiiaaGreatDoorA6
set_option linter.unusedVariables false
set_option linter.unusedSimpArgs false
namespace Go.Proofs.YtccjmcmolnbiiaaGreatDoor
open Go.Ab
set_option maxRecDepth 100000
set_option maxHeartbeats 20000000
theorem SS {l_:(List Int)} {x_:Int} {r:Bool} (hm:OJ l_ x_ r):S 250 [aD l_,iV x_] [] (.bool r) [] :=sp Tryz.func250 rfl<|l0 hm (fun g1=>⟨[(0,aD l_),(1,iV x_),(5,iV g1)],[],0⟩) <|fun aj g1 hm=>si hm (fun _ hm=>sn hm fun _ hm=>si hm (fun _ hm=>by cases hm;exact re) fun _ hm=>sn hm fun _ hm=>le hm) fun _ hm=>by cases hm;exact re
theorem kE {l_:(List Int)} {qE:Int} {sD:Int} {r:Bool} (hm:jC l_ qE sD r):S 232 [aD l_,iV qE,iV sD] [] (.bool r) [] :=sp Tryz.func232 rfl<|l0 hm (fun g1=>⟨[(0,aD l_),(1,iV qE),(2,iV sD),(9,aD l_),(10,iV (l_.length:Int)),(11,iV g1)],[],0⟩) <|fun aj g1 hm=>si hm (fun _ hm=>s2 hm fun _ _ hm=>sb hm fun v3 hv3 hm=>cl (fun q0=>((SS (hv3 q0)).le ⟨(.sl oz (fun _=>rfl) nofun (jI (f:=iV) (d:=0) (by first | omega | exact Nat.min_le_left _ _ | exact Nat.le_trans (Nat.min_le_left _ _) om | (simp; omega)))),.refl _,trivial⟩ trivial))<|si hm (fun _ hm=>by cases hm;exact re) fun _ hm=>sn hm fun _ hm=>le hm) fun _ hm=>by cases hm;exact re
theorem Ij {a_:(List Int)} {b_:(List Int)} {r:Bool} (hm:Cr a_ b_ r):S 233 [aD a_,aD b_] [] (.bool r) [] :=sp Tryz.func233 rfl<|si hm (fun _ hm=>by cases hm;exact re) fun _ hm=>l0 hm (fun g1=>⟨[(0,aD a_),(1,aD b_),(5,iV g1)],[],0⟩) <|fun aj g1 hm=>si hm (fun _ hm=>s2 hm fun _ _ hm=>si hm (fun _ hm=>by cases hm;exact re) fun _ hm=>sn hm fun _ hm=>le hm) fun _ hm=>by cases hm;exact re
theorem Kz {c_:aH} {r:Bool} (hm:uF c_ r):S 208 [Gb c_] [] (.bool r) [] :=sp Tryz.func208 rfl<|si hm (fun _ hm=>s2 hm fun _ _ hm=>by cases hm;exact re) fun _ hm=>si hm (fun _ hm=>si hm (fun _ hm=>sb hm fun v1 hv1 hm=>cl (fun q0=>(kE (hv1 q0)))<|by cases hm;exact re) fun _ hm=>si hm (fun _ hm=>sn hm fun _ hm=>sb hm fun v2 hv2 hm=>cl (fun q0=>(kE (hv2 q0)))<|by cases hm;exact re) fun _ hm=>si hm (fun _ hm=>si hm (fun _ hm=>sb hm fun v3 hv3 hm=>cl (fun q0=>((Ij (hv3 q0)).le ⟨.refl _,(.sl rfl (fun _=>rfl) nofun (fB iV 0 [(0:Int),(1:Int)])),trivial⟩ trivial))<|by cases hm;exact re) fun c6 hm=>by
 refine ⟨.bool false,[],(fun q0=>absurd q0 (Uk c6)),?_⟩
 (conv=>whnf)
 have hm:r=(((c_.aN.length:Int)==(1:Int))&&false):=hm
 subst hm
 refine ⟨[],[],?_⟩
 (conv=>whnf)
 exact ⟨⟨rfl,trivial,trivial⟩,rfl⟩) fun _ hm=>by cases hm;exact re) fun _ hm=>si hm (fun _ hm=>sb hm fun v4 hv4 hm=>cl (fun q0=>(kE (hv4 q0)))<|by cases hm;exact re) fun _ hm=>si hm (fun _ hm=>sn hm fun _ hm=>sb hm fun v5 hv5 hm=>cl (fun q0=>(kE (hv5 q0)))<|by cases hm;exact re) fun _ hm=>si hm (fun _ hm=>si hm (fun _ hm=>sb hm fun v6 hv6 hm=>cl (fun q0=>((Ij (hv6 q0)).le ⟨.refl _,(.sl rfl (fun _=>rfl) nofun (fB iV 0 [(0:Int),(1:Int)])),trivial⟩ trivial))<|by cases hm;exact re) fun c10 hm=>by
 refine ⟨.bool false,[],(fun q0=>absurd q0 (Uk c10)),?_⟩
 (conv=>whnf)
 have hm:r=(((c_.aN.length:Int)==(1:Int))&&false):=hm
 subst hm
 refine ⟨[],[],?_⟩
 (conv=>whnf)
 exact ⟨⟨rfl,trivial,trivial⟩,rfl⟩) fun _ hm=>by cases hm;exact re
theorem KA {l_:(List aH)} {r:(List Int)} (hm:uG l_ r):S 209 [bn l_] [] (aD r) [] :=Rl [13] Tryz.func209 rfl<|Md [13] hm (fun g1=>⟨[(3,.osl 0 0 g1.2.length false),(9,bn l_),(10,iV (l_.length:Int)),(11,iV g1.1)],[(0,some (.row 1 g1.2.length (rowG iV 0 g1.2)))],1⟩) [(0,none)] [] <|fun aj g1 hm=>si hm (fun _ hm=>sn hm fun _ hm=>Md [13] hm (fun g6=>⟨[(3,.osl 0 0 g1.2.length false),(5,.ptr 1 0 0),(6,iV g6.1),(9,bn l_),(10,iV (l_.length:Int)),(11,iV g1.1),(16,aD ((l_.getD g1.1.toNat aI).aN)),(17,iV ((((l_.getD g1.1.toNat aI).aN).length:Nat):Int)),(18,iV g6.2)],[(0,some (.row 1 g1.2.length (rowG iV 0 g1.2))),(1,some (.box [iV ((l_.getD g1.1.toNat aI).eU),aD ((l_.getD g1.1.toNat aI).aN),aD ((l_.getD g1.1.toNat aI).aK),iV ((l_.getD g1.1.toNat aI).jw),iV ((l_.getD g1.1.toNat aI).eP)]))],2⟩) [(1,some 25)] [] <|fun gU g6 hm=>si hm (fun _ hm=>s2 hm fun _ _ hm=>sn hm fun _ hm=>le hm) fun _ hm=>ck [13] (ko g1 aj) r (fun g7=>⟨[(3,.osl 0 0 g1.2.length false),(6,iV g7),(9,bn l_),(10,iV (l_.length:Int)),(11,iV g1.1)],[(0,some (.row 1 g1.2.length (rowG iV 0 g1.2)))],1⟩) (si hm (fun _ hm=>sn hm fun _ hm=>le hm) fun _ hm=>le hm) fun g7 hm=>s2 hm fun _ _ hm=>lc [(0,some 25)] [] hm) fun _ hm=>by cases hm;exact rt [0] []
theorem nY {l_:(List aH)} {r:Int} (hm:nI l_ r):S 159 [bn l_] [] (iV r) [] :=sp Tryz.func159 rfl<|si hm (fun _ hm=>by cases hm;exact re) fun _ hm=>l0 hm (fun g1=>⟨[(0,bn l_),(15,bn l_),(16,iV (l_.length:Int)),(17,iV g1)],[],0⟩) <|fun aj g1 hm=>si hm (fun _ hm=>sn hm fun _ hm=>si hm (fun _ hm=>by cases hm;exact re) fun _ hm=>sn hm fun _ hm=>le hm) fun _ hm=>l0 hm (fun g2=>⟨[(0,bn l_),(5,iV g2.1),(32,bn l_),(33,iV (l_.length:Int)),(34,iV g2.2)],[],0⟩) <|fun cO g2 hm=>si hm (fun _ hm=>sn hm fun _ hm=>lf hm (fun g5=>⟨[(0,bn l_),(5,iV g2.1),(6,iV g2.2),(7,.ptr 0 0 0),(32,bn l_),(33,iV (l_.length:Int)),(34,iV g2.2),(40,aD ((l_.getD g2.2.toNat aI).aN)),(41,iV ((((l_.getD g2.2.toNat aI).aN).length:Nat):Int)),(42,iV g5)],[(0,some (.box [iV ((l_.getD g2.2.toNat aI).eU),aD ((l_.getD g2.2.toNat aI).aN),aD ((l_.getD g2.2.toNat aI).aK),iV ((l_.getD g2.2.toNat aI).jw),iV ((l_.getD g2.2.toNat aI).eP)]))],1⟩) [(0,some 32)] [] <|fun iF g5 hm=>si hm (fun _ hm=>sn hm fun _ hm=>si hm (fun _ hm=>by cases hm;exact re) fun _ hm=>sn hm fun _ hm=>le hm) fun _ hm=>sq hm Kz fun v3 hm=>si hm (fun _ hm=>by cases hm;exact re) fun _ hm=>s2 hm fun _ _ hm=>le hm) fun _ hm=>si hm (fun _ hm=>by cases hm;exact re) fun _ hm=>sq hm KA fun v4 hm=>l0 hm (fun g6=>⟨[(84,aD v4),(85,iV (v4.length:Int)),(86,iV g6)],[],0⟩) <|fun gU g6 hm=>si hm (fun _ hm=>sn hm fun _ hm=>si hm (fun _ hm=>by cases hm;exact re) fun _ hm=>sn hm fun _ hm=>le hm) fun _ hm=>by cases hm;exact re
theorem iZ {x_:Int} {qE:Int} {sD:Int} {r:Bool} (hm:mg x_ qE sD r):S 166 [iV x_,iV qE,iV sD] [] (.bool r) [] :=sp Tryz.func166 rfl<|by cases hm;exact re
theorem nZ {l_:(List aG)} {r:Int} (hm:nJ l_ r):S 160 [aT l_] [] (iV r) [] :=sp Tryz.func160 rfl<|si hm (fun _ hm=>by cases hm;exact re) fun _ hm=>l0 hm (fun g1=>⟨[(0,aT l_),(12,aT l_),(13,iV (l_.length:Int)),(14,iV g1)],[],0⟩) <|fun aj g1 hm=>si hm (fun _ hm=>sn hm fun _ hm=>si hm (fun _ hm=>by cases hm;exact re) fun _ hm=>sn hm fun _ hm=>le hm) fun _ hm=>l0 hm (fun g2=>⟨[(23,aT l_),(24,iV (l_.length:Int)),(25,iV g2)],[],0⟩) <|fun cO g2 hm=>si hm (fun _ hm=>s2 hm fun _ _ hm=>sq hm iZ fun v13 hm=>sb hm fun v14 QN hm=>cl (fun q0=>(iZ (QN q0)))<|sb hm fun v15 Sy hm=>cl (fun q0=>(iZ (Sy q0)))<|si hm (fun _ hm=>by cases hm;exact re) fun _ hm=>lf hm (fun g5=>⟨[(6,.ptr 0 0 0),(23,aT l_),(24,iV (l_.length:Int)),(25,iV g2),(65,aD ((l_.getD g2.toNat aC).bN)),(66,iV ((((l_.getD g2.toNat aC).bN).length:Nat):Int)),(67,iV g5)],[(0,some (.box [iV ((l_.getD g2.toNat aC).aQ),aD ((l_.getD g2.toNat aC).bN),iV ((l_.getD g2.toNat aC).fG),iV ((l_.getD g2.toNat aC).gB),.bool ((l_.getD g2.toNat aC).fI)]))],1⟩) [(0,some 32)] [] <|fun iF g5 hm=>si hm (fun _ hm=>sn hm fun _ hm=>sq hm iZ fun v18 hm=>s2 hm fun _ _ hm=>si hm (fun _ hm=>by cases hm;exact re) fun _ hm=>sn hm fun _ hm=>le hm) fun _ hm=>sn hm fun _ hm=>le hm) fun _ hm=>by cases hm;exact re
theorem pQ {s_:ByteArray} {r:Bool} (hm:lW s_ r):S 150 [.str s_] [] (.bool r) [] :=sp Tryz.func150 rfl<|s2 hm fun _ _ hm=>si hm (fun _ hm=>by cases hm;exact re) fun _ hm=>l0 hm (fun g1=>⟨[(0,.str s_),(3,iV g1)],[],0⟩) <|fun aj g1 hm=>si hm (fun _ hm=>s2 hm fun _ _ hm=>s2 hm fun _ _ hm=>sn hm fun _ hm=>si hm (fun _ hm=>by cases hm;exact re) fun _ hm=>sn hm fun _ hm=>le hm) fun _ hm=>by cases hm;exact re
theorem MU {p_:aX} {i_:Int} {r:Int} (hm:qA p_ i_ r):S 104 [jq p_,iV i_] [] (iV r) [] :=sp Tryz.func104 rfl<|sn hm fun _ hm=>sq hm pQ fun v1 hm=>si hm (fun _ hm=>by cases hm;exact re) fun _ hm=>lf hm (fun g1=>⟨[(1,iV i_),(2,.ptr 0 0 0),(5,.ptr 1 0 0),(6,iV g1)],[(0,some (.box [iV p_.bG,bg p_.av])),(1,some (.box [.str ((p_.av.getD i_.toNat ay).qK),aD ((p_.av.getD i_.toNat ay).bG),eZ ((p_.av.getD i_.toNat ay).ak)]))],2⟩) [(1,some 56)] [] <|fun aj g1 hm=>si hm (fun _ hm=>sn hm fun _ hm=>si hm (fun _ hm=>by cases hm;exact re) fun _ hm=>sn hm fun _ hm=>le hm) fun _ hm=>si hm (fun _ hm=>by cases hm;exact re) fun _ hm=>si hm (fun _ hm=>by cases hm;exact re) fun _ hm=>l0 hm (fun g2=>⟨[(2,.ptr 0 0 0),(5,.ptr 1 0 0),(7,iV g2)],[(0,some (.box [iV p_.bG,bg p_.av])),(1,some (.box [.str ((p_.av.getD i_.toNat ay).qK),aD ((p_.av.getD i_.toNat ay).bG),eZ ((p_.av.getD i_.toNat ay).ak)]))],2⟩) <|fun cO g2 hm=>si hm (fun _ hm=>s2 hm fun _ _ hm=>si hm (fun _ hm=>by cases hm;exact re) fun _ hm=>sn hm fun _ hm=>le hm) fun _ hm=>lf hm (fun g3=>⟨[(5,.ptr 0 0 0),(8,iV g3)],[(0,some (.box [.str ((p_.av.getD i_.toNat ay).qK),aD ((p_.av.getD i_.toNat ay).bG),eZ ((p_.av.getD i_.toNat ay).ak)]))],1⟩) [(0,some 1)] [] <|fun iy g3 hm=>si hm (fun _ hm=>s2 hm fun _ _ hm=>sn hm fun _ hm=>si hm (fun _ hm=>by cases hm;exact re) fun _ hm=>sn hm fun _ hm=>le hm) fun _ hm=>l0 hm (fun g4=>⟨[(5,.ptr 0 0 0),(9,iV g4)],[(0,some (.box [.str ((p_.av.getD i_.toNat ay).qK),aD ((p_.av.getD i_.toNat ay).bG),eZ ((p_.av.getD i_.toNat ay).ak)]))],1⟩) <|fun gL g4 hm=>si hm (fun _ hm=>sn hm fun _ hm=>sq hm pQ fun v4 hm=>si hm (fun _ hm=>by cases hm;exact re) fun _ hm=>sn hm fun _ hm=>le hm) fun _ hm=>l0 hm (fun g5=>⟨[(5,.ptr 0 0 0),(10,iV g5)],[(0,some (.box [.str ((p_.av.getD i_.toNat ay).qK),aD ((p_.av.getD i_.toNat ay).bG),eZ ((p_.av.getD i_.toNat ay).ak)]))],1⟩) <|fun iF g5 hm=>si hm (fun _ hm=>l0 hm (fun g8=>⟨[(5,.ptr 0 0 0),(10,iV g5),(11,iV g8)],[(0,some (.box [.str ((p_.av.getD i_.toNat ay).qK),aD ((p_.av.getD i_.toNat ay).bG),eZ ((p_.av.getD i_.toNat ay).ak)]))],1⟩) <|fun Nw g8 hm=>si hm (fun _ hm=>s2 hm fun _ _ hm=>si hm (fun _ hm=>by cases hm;exact re) fun _ hm=>sn hm fun _ hm=>le hm) fun _ hm=>sn hm fun _ hm=>le hm) fun _ hm=>by cases hm;exact re
theorem og {p_:aX} {r:Int} (hm:kr p_ r):S 52 [jq p_] [] (iV r) [] :=sp Tryz.func52 rfl<|si hm (fun _ hm=>by cases hm;exact re) fun _ hm=>si hm (fun _ hm=>by cases hm;exact re) fun _ hm=>l0 hm (fun g1=>⟨[(1,.ptr 0 0 0),(3,iV g1)],[(0,some (.box [iV p_.bG,bg p_.av]))],1⟩) <|fun aj g1 hm=>si hm (fun _ hm=>sq hm MU fun v3 hm=>si hm (fun _ hm=>by cases hm;exact re) fun _ hm=>sn hm fun _ hm=>le hm) fun _ hm=>by cases hm;exact re
theorem uq {l_:(List dN)} {r:Int} (hm:kY l_ r):S 77 [bZ l_] [] (iV r) [] :=sp Tryz.func77 rfl<|si hm (fun _ hm=>by cases hm;exact re) fun _ hm=>l0 hm (fun g1=>⟨[(0,bZ l_),(3,iV g1)],[],0⟩) <|fun aj g1 hm=>si hm (fun _ hm=>l0 hm (fun g6=>⟨[(0,bZ l_),(3,iV g1),(4,iV g6)],[],0⟩) <|fun gU g6 hm=>sn hm fun _ hm=>si hm (fun _ hm=>s2 hm fun _ _ hm=>s2 hm fun _ _ hm=>si hm (fun _ hm=>by cases hm;exact re) fun _ hm=>sn hm fun _ hm=>le hm) fun _ hm=>l0 hm (fun g7=>⟨[(0,bZ l_),(3,iV g1),(5,iV g7)],[],0⟩) <|fun jU g7 hm=>sn hm fun _ hm=>si hm (fun _ hm=>s2 hm fun _ _ hm=>s2 hm fun _ _ hm=>sn hm fun _ hm=>si hm (fun _ hm=>by cases hm;exact re) fun _ hm=>sn hm fun _ hm=>le hm) fun _ hm=>sn hm fun _ hm=>le hm) fun _ hm=>by cases hm;exact re
theorem uw {l_:(List dx)} {r:Int} (hm:kZ l_ r):S 131 [bO l_] [] (iV r) [] :=sp Tryz.func131 rfl<|si hm (fun _ hm=>by cases hm;exact re) fun _ hm=>l0 hm (fun g1=>⟨[(0,bO l_),(3,iV g1)],[],0⟩) <|fun aj g1 hm=>si hm (fun _ hm=>s2 hm fun _ _ hm=>si hm (fun _ hm=>by cases hm;exact re) fun _ hm=>sn hm fun _ hm=>le hm) fun _ hm=>by cases hm;exact re
theorem MV {b_:bf} {r:Int} (hm:Al b_ r):S 111 [gZ b_] [] (iV r) [] :=sp Tryz.func111 rfl<|sq hm nY fun v1 hm=>si hm (fun _ hm=>by cases hm;exact re) fun _ hm=>sq hm nZ fun v2 hm=>si hm (fun _ hm=>by cases hm;exact re) fun _ hm=>sq hm og fun v3 hm=>si hm (fun _ hm=>by cases hm;exact re) fun _ hm=>sq hm uq fun v4 hm=>si hm (fun _ hm=>by cases hm;exact re) fun _ hm=>sq hm uw fun v5 hm=>by cases hm;exact re
theorem Ou {b_:bf} {l_:(List aL)} {x_:aL} {r:Int} (hm:DN b_ l_ x_ r):S 112 [gZ b_,dI l_,qM x_] [] (iV r) [] :=sp Tryz.func112 rfl<|si hm (fun _ hm=>by cases hm;exact re) fun _ hm=>lf hm (fun g1=>⟨[(1,dI l_),(3,.ptr 0 0 0),(5,.ptr 1 0 0),(35,dY x_.bP),(36,iV (x_.bP.length:Int)),(37,iV g1)],[(0,some (.box [bn b_.bQ,aT b_.bI,iV b_.aP.bG,bg b_.aP.av,bZ b_.aY,bO b_.dh])),(1,some (.box [dY x_.bP,eF x_.d9,eZ x_.ak,aD x_.aY,iV x_.fq,aD x_.aW]))],2⟩) [(1,some 8)] [] <|fun aj g1 hm=>si hm (fun _ hm=>sn hm fun _ hm=>si hm (fun _ hm=>by cases hm;exact re) fun _ hm=>sn hm fun _ hm=>le hm) fun _ hm=>l0 hm (fun g2=>⟨[(1,dI l_),(3,.ptr 0 0 0),(5,.ptr 1 0 0),(71,eF x_.d9),(72,iV (x_.d9.length:Int)),(73,iV g2)],[(0,some (.box [bn b_.bQ,aT b_.bI,iV b_.aP.bG,bg b_.aP.av,bZ b_.aY,bO b_.dh])),(1,some (.box [dY x_.bP,eF x_.d9,eZ x_.ak,aD x_.aY,iV x_.fq,aD x_.aW]))],2⟩) <|fun cO g2 hm=>si hm (fun _ hm=>sn hm fun _ hm=>si hm (fun _ hm=>by cases hm;exact re) fun _ hm=>sn hm fun _ hm=>le hm) fun _ hm=>l0 hm (fun g3=>⟨[(1,dI l_),(3,.ptr 0 0 0),(5,.ptr 1 0 0),(117,eZ x_.ak),(118,iV (x_.ak.length:Int)),(119,iV g3)],[(0,some (.box [bn b_.bQ,aT b_.bI,iV b_.aP.bG,bg b_.aP.av,bZ b_.aY,bO b_.dh])),(1,some (.box [dY x_.bP,eF x_.d9,eZ x_.ak,aD x_.aY,iV x_.fq,aD x_.aW]))],2⟩) <|fun iy g3 hm=>si hm (fun _ hm=>sn hm fun _ hm=>sq hm pQ fun v3 hm=>si hm (fun _ hm=>by cases hm;exact re) fun _ hm=>sn hm fun _ hm=>le hm) fun _ hm=>l0 hm (fun g4=>⟨[(1,dI l_),(3,.ptr 0 0 0),(5,.ptr 1 0 0),(128,aD x_.aY),(129,iV (x_.aY.length:Int)),(130,iV g4)],[(0,some (.box [bn b_.bQ,aT b_.bI,iV b_.aP.bG,bg b_.aP.av,bZ b_.aY,bO b_.dh])),(1,some (.box [dY x_.bP,eF x_.d9,eZ x_.ak,aD x_.aY,iV x_.fq,aD x_.aW]))],2⟩) <|fun gL g4 hm=>si hm (fun _ hm=>sn hm fun _ hm=>si hm (fun _ hm=>by cases hm;exact re) fun _ hm=>sn hm fun _ hm=>le hm) fun _ hm=>si hm (fun _ hm=>by cases hm;exact re) fun _ hm=>lf hm (fun g5=>⟨[(1,dI l_),(5,.ptr 0 0 0),(156,aD x_.aW),(157,iV (x_.aW.length:Int)),(158,iV g5)],[(0,some (.box [dY x_.bP,eF x_.d9,eZ x_.ak,aD x_.aY,iV x_.fq,aD x_.aW]))],1⟩) [(0,some 1)] [] <|fun iF g5 hm=>si hm (fun _ hm=>sn hm fun _ hm=>si hm (fun _ hm=>by cases hm;exact re) fun _ hm=>sn hm fun _ hm=>le hm) fun _ hm=>l0 hm (fun g6=>⟨[(5,.ptr 0 0 0),(17,iV g6)],[(0,some (.box [dY x_.bP,eF x_.d9,eZ x_.ak,aD x_.aY,iV x_.fq,aD x_.aW]))],1⟩) <|fun gU g6 hm=>si hm (fun _ hm=>s2 hm fun _ _ hm=>sn hm fun _ hm=>si hm (fun _ hm=>by cases hm;exact re) fun _ hm=>sn hm fun _ hm=>le hm) fun _ hm=>by cases hm;exact re
theorem pR {b_:bf} {l_:(List aL)} {r:Int} (hm:p9 b_ l_ r):S 62 [gZ b_,dI l_] [] (iV r) [] :=sp Tryz.func62 rfl<|sq hm MV fun v1 hm=>si hm (fun _ hm=>by cases hm;exact re) fun _ hm=>si hm (fun _ hm=>by cases hm;exact re) fun _ hm=>l0 hm (fun g1=>⟨[(1,dI l_),(2,.ptr 0 0 0),(6,iV g1)],[(0,some (.box [bn b_.bQ,aT b_.bI,iV b_.aP.bG,bg b_.aP.av,bZ b_.aY,bO b_.dh]))],1⟩) <|fun aj g1 hm=>si hm (fun _ hm=>sn hm fun _ hm=>sq hm Ou fun v4 hm=>si hm (fun _ hm=>by cases hm;exact re) fun _ hm=>sn hm fun _ hm=>le hm) fun _ hm=>by cases hm;exact re
theorem l5 {l_:(List aL)} {ah:(List Int)} {r:Bool} (hm:kG l_ ah r):S 63 [dI l_,aD ah] [] (.bool r) [] :=sp Tryz.func63 rfl<|l0 hm (fun g1=>⟨[(0,dI l_),(1,aD ah),(5,iV g1)],[],0⟩) <|fun aj g1 hm=>si hm (fun _ hm=>s2 hm fun _ _ hm=>si hm (fun _ hm=>by cases hm;exact re) fun _ hm=>l0 hm (fun g4=>⟨[(0,dI l_),(1,aD ah),(5,iV g1),(6,iV g4)],[],0⟩) <|fun gL g4 hm=>si hm (fun _ hm=>s2 hm fun _ _ hm=>si hm (fun _ hm=>by cases hm;exact re) fun _ hm=>sn hm fun _ hm=>le hm) fun _ hm=>sn hm fun _ hm=>le hm) fun _ hm=>by cases hm;exact re
theorem LJ {l_:(List aL)} {ah:(List Int)} {r:(List bK)} (hm:DR l_ ah r):S 22 [dI l_,aD ah] [] (dY r) [] :=sp Tryz.func22 rfl<|lf hm (fun g1=>⟨[(0,dI l_),(5,.osl 0 0 g1.2.length false),(8,aD ah),(9,iV (ah.length:Int)),(10,iV g1.1)],[(0,some (.row 3 g1.2.length (rowG tC cB g1.2)))],1⟩) [(0,none)] [] <|fun aj g1 hm=>si hm (fun _ hm=>sn hm fun _ hm=>si hm (fun _ hm=>s2 hm fun _ _ hm=>sn hm fun _ hm=>lc [(0,some 145)] [] hm) fun _ hm=>sn hm fun _ hm=>le hm) fun _ hm=>by cases hm;exact rt [0] []
theorem MW {l_:(List aL)} {ah:(List Int)} {r:(List bE)} (hm:GH l_ ah r):S 24 [dI l_,aD ah] [] (eF r) [] :=sp Tryz.func24 rfl<|lf hm (fun g1=>⟨[(0,dI l_),(5,.osl 0 0 g1.2.length false),(8,aD ah),(9,iV (ah.length:Int)),(10,iV g1.1)],[(0,some (.row 4 g1.2.length (rowG Ca dD g1.2)))],1⟩) [(0,none)] [] <|fun aj g1 hm=>si hm (fun _ hm=>sn hm fun _ hm=>si hm (fun _ hm=>s2 hm fun _ _ hm=>sn hm fun _ hm=>lc [(0,some 145)] [] hm) fun _ hm=>sn hm fun _ hm=>le hm) fun _ hm=>by cases hm;exact rt [0] []
theorem vD {l_:(List aL)} {ah:(List Int)} {r:Int} (hm:mh l_ ah r):S 64 [dI l_,aD ah] [] (iV r) [] :=sp Tryz.func64 rfl<|l0 hm (fun g1=>⟨[(0,dI l_),(5,iV g1.1),(8,aD ah),(9,iV (ah.length:Int)),(10,iV g1.2)],[],0⟩) <|fun aj g1 hm=>si hm (fun _ hm=>sn hm fun _ hm=>si hm (fun _ hm=>s2 hm fun _ _ hm=>sn hm fun _ hm=>le hm) fun _ hm=>sn hm fun _ hm=>le hm) fun _ hm=>by cases hm;exact re
theorem A9 {l_:(List aH)} {m_:(List bK)} {r:Bool} (hm:rF l_ m_ r):S 161 [bn l_,dY m_] [] (.bool r) [] :=sp Tryz.func161 rfl<|sq hm nY fun v1 hm=>si hm (fun _ hm=>by cases hm;exact re) fun _ hm=>l0 hm (fun g1=>⟨[(0,bn l_),(15,dY m_),(16,iV (m_.length:Int)),(17,iV g1)],[],0⟩) <|fun aj g1 hm=>si hm (fun _ hm=>sn hm fun _ hm=>si hm (fun _ hm=>by cases hm;exact re) fun _ hm=>sn hm fun _ hm=>le hm) fun _ hm=>by cases hm;exact re
theorem MX {l_:(List aH)} {m_:(List bK)} {r:Int} (hm:Am l_ m_ r):S 113 [bn l_,dY m_] [] (iV r) [] :=sp Tryz.func113 rfl<|sq hm nY fun v1 hm=>si hm (fun _ hm=>by cases hm;exact re) fun _ hm=>sq hm A9 fun v2 hm=>si hm (fun _ hm=>by cases hm;exact re) fun _ hm=>by cases hm;exact re
theorem LK {c_:aH} {pG:Int} {r:Int} (hm:xQ c_ pG r):S 217 [Gb c_,iV pG] [] (iV r) [] :=sp Tryz.func217 rfl<|si hm (fun _ hm=>by cases hm;exact re) fun _ hm=>si hm (fun _ hm=>s2 hm fun _ _ hm=>by cases hm;exact re) fun _ hm=>sn hm fun _ hm=>by cases hm;exact re
theorem qg {a_:Int} {b_:Int} {r:Int} (hm:mE a_ b_ r):S 240 [iV a_,iV b_] [] (iV r) [] :=sp Tryz.func240 rfl<|l0 hm (fun g1=>⟨[(0,iV g1.1),(1,iV g1.2)],[],0⟩) <|fun aj g1 hm=>si hm (fun _ hm=>sn hm fun _ hm=>le hm) fun _ hm=>by cases hm;exact re
theorem oh {r_:bH} {r:Bool} (hm:nK r_ r):S 220 [l7 r_] [] (.bool r) [] :=sp Tryz.func220 rfl<|sb hm fun v1 hv1 hm=>cl (fun q0=>(qg (hv1 q0)))<|by cases hm;exact re
theorem Ba {k_:Int} {r:Bool} (hm:rG k_ r):S 238 [iV k_] [] (.bool r) [] :=sp Tryz.func238 rfl<|by cases hm;exact re
theorem Ik {qQ:Int} {qR:Int} {r:(bH×Int)} (hm:Cy qQ qR r):S 239 [iV qQ,iV qR] [] (.tup [l7 r.1,iV r.2]) [] :=sp Tryz.func239 rfl<|si hm (fun _ hm=>by cases hm;exact re) fun _ hm=>sq hm qg fun v1 hm=>s2 hm fun _ _ hm=>sq hm oh fun v2 hm=>si hm (fun _ hm=>by cases hm;exact re) fun _ hm=>by cases hm;exact re
theorem Ov {r_:bH} {k_:Int} {r:(bH×Int)} (hm:DT r_ k_ r):S 218 [l7 r_,iV k_] [] (.tup [l7 r.1,iV r.2]) [] :=sp Tryz.func218 rfl<|sq hm oh fun v1 hm=>si hm (fun _ hm=>by cases hm;exact re) fun _ hm=>sq hm Ba fun v2 hm=>si hm (fun _ hm=>by cases hm;exact re) fun _ hm=>sn hm fun _ hm=>sq hm Ik fun v3 hm=>by cases hm;exact re
theorem MZ {r_:bH} {k_:Int} {r:(bH×Int)} (hm:Ao r_ k_ r):S 219 [l7 r_,iV k_] [] (.tup [l7 r.1,iV r.2]) [] :=sp Tryz.func219 rfl<|sq hm oh fun v1 hm=>si hm (fun _ hm=>by cases hm;exact re) fun _ hm=>sq hm Ba fun v2 hm=>si hm (fun _ hm=>by cases hm;exact re) fun _ hm=>sq hm qg fun v3 hm=>s2 hm fun _ _ hm=>si hm (fun _ hm=>by cases hm;exact re) fun _ hm=>s2 hm fun _ _ hm=>sn hm fun _ hm=>sq hm Ik fun v4 hm=>by cases hm;exact re
theorem Bb {l_:(List aH)} {s_:(List Int)} {r:((List bH)×(List Bool))} (hm:rH l_ s_ r):S 176 [bn l_,aD s_] [] (.tup [mZ r.1,aU r.2]) [] :=Rl [10,21] Tryz.func176 rfl<|Md [10,21] hm (fun g1=>⟨[(1,aD s_),(6,.osl 0 0 g1.2.1.length false),(7,.osl 1 0 g1.2.2.length false),(14,bn l_),(15,iV (l_.length:Int)),(16,iV g1.1)],[(0,some (.row 2 g1.2.1.length (rowG l7 dO g1.2.1))),(1,some (.row 1 g1.2.2.length (rowG AV.bool false g1.2.2)))],2⟩) [(0,none),(1,none)] [] <|fun aj g1 hm=>si hm (fun _ hm=>sn hm fun _ hm=>ck [10,21] (kR l_ s_ g1 aj) r (fun g6=>⟨[(1,aD s_),(6,.osl 0 0 g1.2.1.length false),(7,.osl 1 0 g1.2.2.length false),(8,iV g1.1),(9,.ptr 2 0 0),(10,.ptr 3 0 0),(11,.bool g6.1),(14,bn l_),(15,iV (l_.length:Int)),(16,iV g1.1)],[(0,some (.row 2 g1.2.1.length (rowG l7 dO g1.2.1))),(1,some (.row 1 g1.2.2.length (rowG AV.bool false g1.2.2))),(2,some (.box [iV ((l_.getD g1.1.toNat aI).eU),aD ((l_.getD g1.1.toNat aI).aN),aD ((l_.getD g1.1.toNat aI).aK),iV ((l_.getD g1.1.toNat aI).jw),iV ((l_.getD g1.1.toNat aI).eP)])),(3,some (.box [iV g6.2.1,iV g6.2.2]))],4⟩) (sn hm fun _ hm=>sq hm LK fun v18 hm=>si hm (fun _ hm=>s2 hm fun _ _ hm=>lc [(2,some 34),(3,some 66)] [] hm) fun _ hm=>lc [(2,some 34),(3,some 66)] [] hm) fun g6 hm=>s2 hm fun _ _ hm=>ck [10,21] (gT g1 aj) r (fun g7=>⟨[(1,aD s_),(6,.osl 0 0 g1.2.1.length false),(7,.osl 1 0 g1.2.2.length false),(10,.ptr 2 0 0),(11,.bool g7.1),(14,bn l_),(15,iV (l_.length:Int)),(16,iV g1.1)],[(0,some (.row 2 g1.2.1.length (rowG l7 dO g1.2.1))),(1,some (.row 1 g1.2.2.length (rowG AV.bool false g1.2.2))),(2,some (.box [iV g7.2.1,iV g7.2.2]))],3⟩) (si hm (fun _ hm=>lc [(2,some 3)] [] hm) fun _ hm=>si hm (fun _ hm=>sq hm Ov fun v16 hm=>lc [(2,some 3)] [] hm) fun _ hm=>si hm (fun _ hm=>sq hm MZ fun v17 hm=>lc [(2,some 3)] [] hm) fun _ hm=>si hm (fun _ hm=>si hm (fun _ hm=>lc [(2,some 3)] [] hm) fun _ hm=>lc [(2,some 3)] [] hm) fun _ hm=>lc [(2,some 3)] [] hm) fun g7 hm=>s2 hm fun _ _ hm=>sn hm fun _ hm=>lc [(0,some 27),(1,some 59)] [] hm) fun _ hm=>by cases hm;exact rt [0,1] []
theorem r9 {r_:bH} {xw:Int} {kN:Int} {r:Bool} (hm:nV r_ xw kN r):S 177 [l7 r_,iV xw,iV kN] [] (.bool r) [] :=sp Tryz.func177 rfl<|sq hm oh fun v1 hm=>si hm (fun _ hm=>by cases hm;exact re) fun _ hm=>s2 hm fun _ _ hm=>by cases hm;exact re
theorem Il {l_:(List aH)} {r_:(List bH)} {mP:(List Bool)} {r:Bool} (hm:Cz l_ r_ mP r):S 178 [bn l_,mZ r_,aU mP] [] (.bool r) [] :=sp Tryz.func178 rfl<|l0 hm (fun g1=>⟨[(1,mZ r_),(2,aU mP),(9,bn l_),(10,iV (l_.length:Int)),(11,iV g1)],[],0⟩) <|fun aj g1 hm=>si hm (fun _ hm=>s2 hm fun _ _ hm=>sn hm fun _ hm=>sb hm fun v3 hv3 hm=>cl (fun q0=>(r9 (hv3 q0)))<|si hm (fun _ hm=>by cases hm;exact re) fun _ hm=>sn hm fun _ hm=>le hm) fun _ hm=>by cases hm;exact re
theorem Ow {l_:(List aH)} {s_:(List Int)} {m_:(List bK)} {r:Bool} (hm:DU l_ s_ m_ r):S 162 [bn l_,aD s_,dY m_] [] (.bool r) [] :=sp Tryz.func162 rfl<|sq hm Bb fun v1 hm=>l0 hm (fun g1=>⟨[(0,bn l_),(7,mZ v1.1),(8,aU v1.2),(17,dY m_),(18,iV (m_.length:Int)),(19,iV g1)],[],0⟩) <|fun aj g1 hm=>si hm (fun _ hm=>s2 hm fun _ _ hm=>sn hm fun _ hm=>sb hm fun v4 hv4 hm=>cl (fun q0=>(r9 (hv4 q0)))<|si hm (fun _ hm=>by cases hm;exact re) fun _ hm=>sn hm fun _ hm=>le hm) fun _ hm=>sq hm Il fun v5 hm=>by cases hm;exact re
theorem Ox {l_:(List aH)} {s_:(List Int)} {r:((List Int)×Bool)} (hm:DV l_ s_ r):S 163 [bn l_,aD s_] [] (.tup [aD r.1,.bool r.2]) [] :=Rl [6] Tryz.func163 rfl<|s2 hm fun _ _ hm=>Md [6] hm (fun g1=>⟨[(0,bn l_),(6,.osl 0 0 g1.2.length false),(7,iV g1.1)],[(0,some (.row 1 g1.2.length (rowG iV 0 g1.2)))],1⟩) [(0,some 32)] [] <|fun aj g1 hm=>si hm (fun _ hm=>ck [6] (BF l_ g1 aj) r (fun g4=>⟨[(0,bn l_),(6,.osl 0 0 g4.length false),(7,iV g1.1)],[(0,some (.row 1 g4.length (rowG iV 0 g4)))],1⟩) (s2 hm fun _ _ hm=>sn hm fun _ hm=>le hm) fun g4 hm=>s2 hm fun _ _ hm=>si hm (fun _ hm=>by cases hm;exact rt [0] []) fun _ hm=>s2 hm fun _ _ hm=>le hm) fun _ hm=>by cases hm;exact re
theorem Qn {l_:(List aH)} {m_:(List bK)} {r:(List (List Int))} (hm:II l_ m_ r):S 114 [bn l_,dY m_] [] (tF r) [] :=Rl [4,6] Tryz.func114 rfl<|sn hm fun _ hm=>Md [4,6] hm (fun g1=>⟨[(0,bn l_),(1,dY m_),(5,.osl 0 0 g1.2.2.length false),(6,aD g1.1),(7,.bool g1.2.1)],[(0,some (.row 1 g1.2.2.length (rowG aD [] g1.2.2)))],1⟩) [(0,none)] [32] <|fun aj g1 hm=>ck [4,6] (DW l_ m_ g1 aj) r (fun g6=>⟨[(0,bn l_),(1,dY m_),(5,.osl 0 0 g1.2.2.length false),(6,aD g1.1)],[(0,some (.row 1 g1.2.2.length (rowG aD [] g1.2.2)))],1⟩) (si hm (fun _ hm=>le hm) fun _ hm=>by cases hm;exact rt [0] []) fun g6 hm=>ck [4,6] (rJ l_ g1 aj) r (fun g7=>⟨[(0,bn l_),(1,dY m_),(5,.osl 0 0 g7.length false),(6,aD g1.1)],[(0,some (.row 1 g7.length (rowG aD [] g7)))],1⟩) (sq hm Ow fun v9 hm=>si hm (fun _ hm=>sn hm fun _ hm=>lc [(0,some 57)] [] hm) fun _ hm=>le hm) fun g7 hm=>sq hm Ox fun v8 hm=>le hm
theorem Dj {l_:(List aH)} {m_:(List bK)} {r:((List Int)×Int)} (hm:u7 l_ m_ r):S 65 [bn l_,dY m_] [] (.tup [aD r.1,iV r.2]) [] :=sp Tryz.func65 rfl<|sq hm MX fun v1 hm=>si hm (fun _ hm=>by cases hm;exact re) fun _ hm=>sq hm Qn fun v2 hm=>si hm (fun _ hm=>by cases hm;exact re) fun _ hm=>sn hm fun _ hm=>by cases hm;exact re
theorem Dk {l_:(List aG)} {d_:(List bE)} {r:Bool} (hm:vg l_ d_ r):S 164 [aT l_,eF d_] [] (.bool r) [] :=sp Tryz.func164 rfl<|sq hm nZ fun v1 hm=>si hm (fun _ hm=>by cases hm;exact re) fun _ hm=>l0 hm (fun g1=>⟨[(0,aT l_),(15,eF d_),(16,iV (d_.length:Int)),(17,iV g1)],[],0⟩) <|fun aj g1 hm=>si hm (fun _ hm=>s2 hm fun _ _ hm=>sq hm iZ fun v8 hm=>sb hm fun v9 SB hm=>cl (fun q0=>(iZ (SB q0)))<|sb hm fun v10 CZ hm=>cl (fun q0=>(iZ (CZ q0)))<|si hm (fun _ hm=>by cases hm;exact re) fun _ hm=>sn hm fun _ hm=>le hm) fun _ hm=>by cases hm;exact re
theorem M0 {l_:(List aG)} {d_:(List bE)} {r:Int} (hm:Ap l_ d_ r):S 115 [aT l_,eF d_] [] (iV r) [] :=sp Tryz.func115 rfl<|sq hm nZ fun v1 hm=>si hm (fun _ hm=>by cases hm;exact re) fun _ hm=>sq hm Dk fun v2 hm=>si hm (fun _ hm=>by cases hm;exact re) fun _ hm=>by cases hm;exact re
theorem FB {l_:(List aG)} {d_:(List bE)} {r:(List Bool)} (hm:y8 l_ d_ r):S 116 [aT l_,eF d_] [] (aU r) [] :=sp Tryz.func116 rfl<|s2 hm fun _ _ hm=>lf hm (fun g1=>⟨[(0,aT l_),(1,eF d_),(5,.osl 0 0 g1.2.length false),(6,iV g1.1)],[(0,some (.row 1 g1.2.length (rowG AV.bool false g1.2)))],1⟩) [(0,some 24)] [] <|fun aj g1 hm=>si hm (fun _ hm=>s2 hm fun _ _ hm=>sn hm fun _ hm=>l0 hm (fun g4=>⟨[(0,aT l_),(1,eF d_),(5,.osl 0 0 g4.2.length false),(6,iV g1.1),(34,eF d_),(35,iV (d_.length:Int)),(36,iV g4.1)],[(0,some (.row 1 g4.2.length (rowG AV.bool false g4.2)))],1⟩) <|fun gL g4 hm=>si hm (fun _ hm=>s2 hm fun _ _ hm=>s2 hm fun _ _ hm=>le hm) fun _ hm=>s2 hm fun _ _ hm=>si hm (fun _ hm=>s2 hm fun _ _ hm=>le hm) fun _ hm=>sn hm fun _ hm=>le hm) fun _ hm=>by cases hm;exact rt [0] []
theorem M4 {s_:aG} {v_:Int} {r:Int} (hm:Aq s_ v_ r):S 117 [xg s_,iV v_] [] (iV r) [] :=sp Tryz.func117 rfl<|l0 hm (fun g1=>⟨[(1,iV v_),(8,aD s_.bN),(9,iV (s_.bN.length:Int)),(10,iV g1)],[],0⟩) <|fun aj g1 hm=>si hm (fun _ hm=>sn hm fun _ hm=>si hm (fun _ hm=>by cases hm;exact re) fun _ hm=>sn hm fun _ hm=>le hm) fun _ hm=>by cases hm;exact re
theorem ou {l_:(List aG)} {r_:dB} {k_:Int} {r:Int} (hm:nL l_ r_ k_ r):S 118 [aT l_,Bl r_,iV k_] [] (iV r) [] :=sp Tryz.func118 rfl<|s2 hm fun _ _ hm=>sn hm fun _ hm=>by cases hm;exact re
theorem M5 {l_:(List aG)} {d_:(List bE)} {r:(List Int)} (hm:Ar l_ d_ r):S 165 [aT l_,eF d_] [] (aD r) [] :=sp Tryz.func165 rfl<|s2 hm fun _ _ hm=>lf hm (fun g1=>⟨[(0,aT l_),(1,eF d_),(5,.osl 0 0 g1.2.length false),(6,iV g1.1)],[(0,some (.row 1 g1.2.length (rowG iV 0 g1.2)))],1⟩) [(0,some 24)] [] <|fun aj g1 hm=>si hm (fun _ hm=>l0 hm (fun g4=>⟨[(0,aT l_),(1,eF d_),(5,.osl 0 0 g4.2.length false),(6,iV g1.1),(20,eF d_),(21,iV (d_.length:Int)),(22,iV g4.1)],[(0,some (.row 1 g4.2.length (rowG iV 0 g4.2)))],1⟩) <|fun gL g4 hm=>si hm (fun _ hm=>sn hm fun _ hm=>si hm (fun _ hm=>s2 hm fun _ _ hm=>s2 hm fun _ _ hm=>le hm) fun _ hm=>sn hm fun _ hm=>le hm) fun _ hm=>sn hm fun _ hm=>si hm (fun _ hm=>s2 hm fun _ _ hm=>s2 hm fun _ _ hm=>sn hm fun _ hm=>le hm) fun _ hm=>sn hm fun _ hm=>le hm) fun _ hm=>by cases hm;exact rt [0] []
theorem Dl {l_:(List aG)} {r_:dB} {d_:(List bE)} {r:Bool} (hm:vk l_ r_ d_ r):S 119 [aT l_,Bl r_,eF d_] [] (.bool r) [] :=sp Tryz.func119 rfl<|sq hm FB fun v1 hm=>sq hm M5 fun v2 hm=>l0 hm (fun g1=>⟨[(0,aT l_),(2,eF d_),(4,.ptr 0 0 0),(7,aU v1),(8,aD v2),(19,aT l_),(20,iV (l_.length:Int)),(21,iV g1)],[(0,some (.box [aU r_.On,aD r_.dQ]))],1⟩) <|fun aj g1 hm=>si hm (fun _ hm=>s2 hm fun _ _ hm=>sn hm fun _ hm=>si hm (fun _ hm=>by cases hm;exact re) fun _ hm=>sn hm fun _ hm=>si hm (fun _ hm=>sn hm fun _ hm=>le hm) fun _ hm=>s2 hm fun _ _ hm=>sb hm fun v7 hv7 hm=>cl (fun q0 q1 q2=>(ou (hv7 q0 q1 q2)))<|sb hm fun v8 BH hm=>cl (fun q0 q1 q2=>(ou (BH q0 q1 q2)))<|sn hm fun _ hm=>si hm (fun _ hm=>by cases hm;exact re) fun _ hm=>sn hm fun _ hm=>le hm) fun _ hm=>l0 hm (fun g2=>⟨[(0,aT l_),(4,.ptr 0 0 0),(81,eF d_),(82,iV (d_.length:Int)),(83,iV g2)],[(0,some (.box [aU r_.On,aD r_.dQ]))],1⟩) <|fun cO g2 hm=>si hm (fun _ hm=>sn hm fun _ hm=>sq hm ou fun v13 hm=>sq hm iZ fun v14 hm=>si hm (fun _ hm=>by cases hm;exact re) fun _ hm=>sn hm fun _ hm=>le hm) fun _ hm=>by cases hm;exact re
theorem Dn {l_:(List aG)} {d_:(List bE)} {r:(dB×Int)} (hm:vo l_ d_ r):S 66 [aT l_,eF d_] [] (.tup [Bl r.1,iV r.2]) [] :=Rl [17] Tryz.func66 rfl<|sq hm M0 fun v1 hm=>si hm (fun _ hm=>by cases hm;exact re) fun _ hm=>sq hm FB fun v2 hm=>s2 hm fun _ _ hm=>Md [17] hm (fun g1=>⟨[(0,aT l_),(1,eF d_),(4,.ptr 0 0 0),(7,aU v2),(8,.ptr 1 0 0),(9,.osl 2 0 g1.2.1.length false),(32,eF d_),(33,iV (d_.length:Int)),(34,iV g1.1)],[(0,some (.box [.sl 0 0 true nilG,.sl 0 0 true nilG])),(1,some (.box [aU v2,.osl 3 0 g1.2.2.length false])),(2,some (.row 1 g1.2.1.length (rowG iV 0 g1.2.1))),(3,some (.row 1 g1.2.2.length (rowG iV 0 g1.2.2)))],4⟩) [(1,some 136),(2,some 168),(3,some 120)] [] <|fun aj g1 hm=>si hm (fun _ hm=>s2 hm fun _ _ hm=>s2 hm fun _ _ hm=>le hm) fun _ hm=>sn hm fun _ hm=>Md [17] hm (fun g2=>⟨[(0,aT l_),(1,eF d_),(4,.ptr 0 0 0),(7,aU v2),(8,.ptr 1 0 0),(9,.osl 2 0 g2.2.1.length false),(12,iV g2.1)],[(0,some (.box [.sl 0 0 true nilG,.sl 0 0 true nilG])),(1,some (.box [aU v2,.osl 3 0 g2.2.2.length false])),(2,some (.row 1 g2.2.1.length (rowG iV 0 g2.2.1))),(3,some (.row 1 g2.2.2.length (rowG iV 0 g2.2.2)))],4⟩) [] [] <|fun cO g2 hm=>si hm (fun _ hm=>sn hm fun _ hm=>si hm (fun _ hm=>sn hm fun _ hm=>le hm) fun _ hm=>ck [17] (vU l_ v2 g2 cO) r (fun g5=>⟨[(0,aT l_),(1,eF d_),(4,.ptr 0 0 0),(7,aU v2),(8,.ptr 1 0 0),(9,.osl 2 0 g2.2.1.length false),(12,iV g2.1)],[(0,some (.box [.sl 0 0 true nilG,.sl 0 0 true nilG])),(1,some (.box [aU v2,.osl 3 0 g5.length false])),(2,some (.row 1 g2.2.1.length (rowG iV 0 g2.2.1))),(3,some (.row 1 g5.length (rowG iV 0 g5)))],4⟩) (s2 hm fun _ _ hm=>sq hm M4 fun v11 hm=>sn hm fun _ hm=>le hm) fun g5 hm=>sn hm fun _ hm=>si hm (fun _ hm=>by cases hm;exact re) fun _ hm=>sn hm fun _ hm=>si hm (fun _ hm=>sn hm fun _ hm=>sq hm ou fun v10 hm=>s2 hm fun _ _ hm=>s2 hm fun _ _ hm=>le hm) fun _ hm=>sn hm fun _ hm=>le hm) fun _ hm=>sq hm Dl fun v12 hm=>si hm (fun _ hm=>by cases hm;exact re) fun _ hm=>by cases hm;exact rt [3] []
end Go.Proofs.YtccjmcmolnbiiaaGreatDoor
namespace Go.Proofs.YtccjmcmolnbiiaaGreatDoor
open Go.Ab
theorem ozz {p:Prop} (h:p:=by first | omega | (simp [gM]; done) | (simp [gM,addN_eq]; done) | (simp [gM]; omega) | (simp [gM,addN_eq]; omega)):p:=h
end Go.Proofs.YtccjmcmolnbiiaaGreatDoor
namespace Go.Proofs.YtccjmcmolnbiiaaGreatDoor
open Go.Ab
set_option maxRecDepth 100000
set_option maxHeartbeats 20000000
theorem Bc {l_:(List dN)} {eO:(List Int)} {r:((List Bool)×Int)} (hm:rM l_ eO r):S 40 [bZ l_,aD eO] [] (.tup [aU r.1,iV r.2]) [] :=sp Tryz.func40 rfl<|sq hm uq fun v1 hm=>si hm (fun _ hm=>by cases hm;exact re) fun _ hm=>sn hm fun _ hm=>lf hm (fun g1=>⟨[(0,bZ l_),(1,aD eO),(6,.osl 0 0 g1.2.length false),(7,iV g1.1)],[(0,some (.row 1 g1.2.length (rowG AV.bool false g1.2)))],1⟩) [(0,some 56)] [] <|fun aj g1 hm=>si hm (fun _ hm=>s2 hm fun _ _ hm=>si hm (fun _ hm=>by cases hm;exact re) fun _ hm=>s2 hm fun _ _ hm=>sn hm fun _ hm=>le hm) fun _ hm=>sn hm fun _ hm=>l0 hm (fun g2=>⟨[(0,bZ l_),(6,.osl 0 0 g2.2.length false),(8,iV g2.1)],[(0,some (.row 1 g2.2.length (rowG AV.bool false g2.2)))],1⟩) <|fun cO g2 hm=>si hm (fun _ hm=>l0 hm (fun g5=>⟨[(0,bZ l_),(6,.osl 0 0 g5.2.length false),(8,iV g2.1),(9,iV g5.1)],[(0,some (.row 1 g5.2.length (rowG AV.bool false g5.2)))],1⟩) <|fun iF g5 hm=>s2 hm fun _ _ hm=>si hm (fun _ hm=>s2 hm fun _ _ hm=>s2 hm fun _ _ hm=>le hm) fun _ hm=>sn hm fun _ hm=>le hm) fun _ hm=>by cases hm;exact rt [0] []
theorem Qo {l_:(List dx)} {dX:(List Int)} {r:Int} (hm:IJ l_ dX r):S 78 [bO l_,aD dX] [] (iV r) [] :=sp Tryz.func78 rfl<|sq hm uw fun v1 hm=>si hm (fun _ hm=>by cases hm;exact re) fun _ hm=>l0 hm (fun g1=>⟨[(0,bO l_),(1,aD dX),(5,iV g1)],[],0⟩) <|fun aj g1 hm=>si hm (fun _ hm=>s2 hm fun _ _ hm=>si hm (fun _ hm=>by cases hm;exact re) fun _ hm=>sn hm fun _ hm=>le hm) fun _ hm=>by cases hm;exact re
theorem JY {l_:(List dx)} {dX:(List Int)} {r:((List Bool)×Int)} (hm:GR l_ dX r):S 41 [bO l_,aD dX] [] (.tup [aU r.1,iV r.2]) [] :=Rl [13] Tryz.func41 rfl<|sq hm Qo fun v1 hm=>si hm (fun _ hm=>by cases hm;exact re) fun _ hm=>sn hm fun _ hm=>Md [13] hm (fun g1=>⟨[(0,bO l_),(1,aD dX),(7,.osl 0 0 g1.2.length false),(8,iV g1.1)],[(0,some (.row 1 g1.2.length (rowG AV.bool false g1.2)))],1⟩) [(0,some 80)] [] <|fun aj g1 hm=>si hm (fun _ hm=>s2 hm fun _ _ hm=>sn hm fun _ hm=>le hm) fun _ hm=>sn hm fun _ hm=>Md [13] hm (fun g2=>⟨[(0,bO l_),(7,.osl 0 0 g2.2.length false),(9,iV g2.1)],[(0,some (.row 1 g2.2.length (rowG AV.bool false g2.2)))],1⟩) [] [] <|fun cO g2 hm=>si hm (fun _ hm=>ck [13] (DX l_ g2 cO) r (fun g5=>⟨[(0,bO l_),(7,.osl 0 0 g5.length false),(9,iV g2.1)],[(0,some (.row 1 g5.length (rowG AV.bool false g5)))],1⟩) (s2 hm fun _ _ hm=>sn hm fun _ hm=>le hm) fun g5 hm=>s2 hm fun _ _ hm=>si hm (fun _ hm=>s2 hm fun _ _ hm=>sn hm fun _ hm=>le hm) fun _ hm=>sn hm fun _ hm=>le hm) fun _ hm=>by cases hm;exact rt [0] []
theorem BZ {l_:(List Int)} {x_:Int} {r:Bool} (hm:CG l_ x_ r):S 72 [aD l_,iV x_] [] (.bool r) [] :=sp Tryz.func72 rfl<|l0 hm (fun g1=>⟨[(0,aD l_),(1,iV x_),(5,iV g1)],[],0⟩) <|fun aj g1 hm=>si hm (fun _ hm=>sn hm fun _ hm=>si hm (fun _ hm=>by cases hm;exact re) fun _ hm=>sn hm fun _ hm=>le hm) fun _ hm=>by cases hm;exact re
theorem Qp {l_:(List aS)} {ah:(List Int)} {r:(List aS)} (hm:IK l_ ah r):S 67 [dG l_,aD ah] [] (.osl 0 0 r.length false) [.row 3 r.length (rowG mK bA r)] :=sp Tryz.func67 rfl<|lf hm (fun g1=>⟨[(1,aD ah),(5,.osl 0 0 g1.2.length false),(8,dG l_),(9,iV (l_.length:Int)),(10,iV g1.1)],[(0,some (.row 3 g1.2.length (rowG mK bA g1.2)))],1⟩) [(0,none)] [] <|fun aj g1 hm=>si hm (fun _ hm=>sn hm fun _ hm=>sq hm BZ fun v3 hm=>si hm (fun _ hm=>s2 hm fun _ _ hm=>lc [(0,some 97)] [] hm) fun _ hm=>sn hm fun _ hm=>le hm) fun _ hm=>by cases hm;exact re
theorem M6 {b_:bf} {l_:(List aL)} {ah:(List Int)} {g_:bM} {r:((List Int)×(List Bool)×(List Int)×(List Bool)×(List Bool)×Int×Int×(List aS))} (hm:Au b_ l_ ah g_ r):S 27 [gZ b_,dI l_,aD ah,jW g_] [] (.tup [.agg [aD r.1,aU r.2.1,aD r.2.2.1,.osl 0 0 r.2.2.2.2.2.2.2.length false,aU r.2.2.2.1,aU r.2.2.2.2.1],iV r.2.2.2.2.2.1,iV r.2.2.2.2.2.2.1]) [.row 3 r.2.2.2.2.2.2.2.length (rowG mK bA r.2.2.2.2.2.2.2)] :=sp Tryz.func27 rfl<|sq hm pR fun v1 hm=>si hm (fun _ hm=>by cases hm;exact rt [] [(0,none)]) fun _ hm=>sq hm l5 fun v2 hm=>si hm (fun _ hm=>by cases hm;exact rt [] [(0,none)]) fun _ hm=>sq hm LJ fun v3 hm=>sq hm MW fun v4 hm=>sb hm fun v5 hv5 hm=>cl (fun q0=>(vD (hv5 q0)))<|si hm (fun _ hm=>by cases hm;exact rt [] [(0,none)]) fun _ hm=>sq hm Dj fun v6 hm=>si hm (fun _ hm=>by cases hm;exact rt [] [(0,none)]) fun _ hm=>sq hm Dn fun v7 hm=>si hm (fun _ hm=>by cases hm;exact rt [] [(0,none)]) fun _ hm=>lf hm (fun g1=>⟨[(1,dI l_),(2,aD ah),(4,.ptr 0 0 0),(7,.ptr 1 0 0),(8,.ptr 2 0 0),(14,aD v6.1),(16,.ptr 3 0 0),(17,.osl 4 0 g1.2.1.length false),(18,.osl 5 0 g1.2.2.length false),(78,aD ah),(79,iV (ah.length:Int)),(80,iV g1.1)],[(0,some (.box [bn b_.bQ,aT b_.bI,iV b_.aP.bG,bg b_.aP.av,bZ b_.aY,bO b_.dh])),(1,some (.box [aD g_.dF,aU g_.eD.On,aD g_.eD.dQ,dG g_.bX,aU g_.dV,aU g_.eG])),(2,some (.box [.sl 0 0 true nilG,.sl 0 0 true nilG,.sl 0 0 true nilG,.sl 0 0 true nilG,.sl 0 0 true nilG,.sl 0 0 true nilG])),(3,some (.box [aU v7.1.On,aD v7.1.dQ])),(4,some (.row 1 g1.2.1.length (rowG iV 0 g1.2.1))),(5,some (.row 1 g1.2.2.length (rowG iV 0 g1.2.2)))],6⟩) [(1,some 8),(2,some 16),(3,some 440),(4,none),(5,none)] [] <|fun aj g1 hm=>si hm (fun _ hm=>s2 hm fun _ _ hm=>s2 hm fun _ _ hm=>si hm (fun _ hm=>s2 hm fun _ _ hm=>sn hm fun _ hm=>lc [(4,some 86),(5,some 206)] [] hm) fun _ hm=>sn hm fun _ hm=>lc [(4,some 86)] [] hm) fun _ hm=>sq hm Bc fun v8 hm=>sq hm JY fun v9 hm=>sq hm Qp fun v10 hm=>by cases hm;exact rt [] [(0,some 198)]
theorem FC {b_:bf} {r:(bM×Int)} (hm:y9 b_ r):S 12 [gZ b_] [] (.tup [jW r.1,iV r.2]) [] :=sp Tryz.func12 rfl<|sb hm fun v1 hv1 hm=>cl ((M6 hv1).le ⟨.refl _,(.sl rfl (fun h=>absurd rfl h) nofun (fun _ h=>absurd h (Nat.not_lt_zero _))),(.sl rfl (fun h=>absurd rfl h) nofun (fun _ h=>absurd h (Nat.not_lt_zero _))),(Le.aggL ⟨(.sl rfl (fun h=>absurd rfl h) nofun (fun _ h=>absurd h (Nat.not_lt_zero _))),(.sl rfl (fun h=>absurd rfl h) nofun (fun _ h=>absurd h (Nat.not_lt_zero _))),(.sl rfl (fun h=>absurd rfl h) nofun (fun _ h=>absurd h (Nat.not_lt_zero _))),(.sl rfl (fun h=>absurd rfl h) nofun (fun _ h=>absurd h (Nat.not_lt_zero _))),(.sl rfl (fun h=>absurd rfl h) nofun (fun _ h=>absurd h (Nat.not_lt_zero _))),(.sl rfl (fun h=>absurd rfl h) nofun (fun _ h=>absurd h (Nat.not_lt_zero _))),trivial⟩),trivial⟩ trivial)<|by cases hm;exact rt [40] []
theorem LM {b_:bf} {l_:(List aL)} {g_:bM} {r:Bool} (hm:xR b_ l_ g_ r):S 121 [gZ b_,dI l_,jW g_] [] (.bool r) [] :=sp Tryz.func121 rfl<|si hm (fun _ hm=>by cases hm;exact re) fun _ hm=>lf hm (fun g1=>⟨[(1,dI l_),(3,.ptr 0 0 0),(5,.ptr 1 0 0),(7,iV g1)],[(0,some (.box [bn b_.bQ,aT b_.bI,iV b_.aP.bG,bg b_.aP.av,bZ b_.aY,bO b_.dh])),(1,some (.box [aD g_.dF,aU g_.eD.On,aD g_.eD.dQ,dG g_.bX,aU g_.dV,aU g_.eG]))],2⟩) [(1,some 8)] [] <|fun aj g1 hm=>si hm (fun _ hm=>s2 hm fun _ _ hm=>sn hm fun _ hm=>si hm (fun _ hm=>by cases hm;exact re) fun _ hm=>sn hm fun _ hm=>le hm) fun _ hm=>lf hm (fun g2=>⟨[(1,dI l_),(5,.ptr 0 0 0),(8,iV g2)],[(0,some (.box [aD g_.dF,aU g_.eD.On,aD g_.eD.dQ,dG g_.bX,aU g_.dV,aU g_.eG]))],1⟩) [(0,some 1)] [] <|fun cO g2 hm=>si hm (fun _ hm=>s2 hm fun _ _ hm=>si hm (fun _ hm=>by cases hm;exact re) fun _ hm=>sn hm fun _ hm=>le hm) fun _ hm=>by cases hm;exact re
theorem KC {l_:(List aH)} {s_:(List Int)} {r:Bool} (hm:uH l_ s_ r):S 175 [bn l_,aD s_] [] (.bool r) [] :=sp Tryz.func175 rfl<|sq hm nY fun v1 hm=>si hm (fun _ hm=>by cases hm;exact re) fun _ hm=>l0 hm (fun g1=>⟨[(1,aD s_),(17,bn l_),(18,iV (l_.length:Int)),(19,iV g1)],[],0⟩) <|fun aj g1 hm=>si hm (fun _ hm=>s2 hm fun _ _ hm=>sn hm fun _ hm=>si hm (fun _ hm=>by cases hm;exact re) fun _ hm=>sn hm fun _ hm=>le hm) fun _ hm=>by cases hm;exact re
theorem Dp {l_:(List aH)} {s_:(List Int)} {m_:(List bK)} {r:Bool} (hm:vv l_ s_ m_ r):S 122 [bn l_,aD s_,dY m_] [] (.bool r) [] :=sp Tryz.func122 rfl<|sq hm KC fun v1 hm=>sb hm fun v2 hv2 hm=>cl (fun q0=>(A9 (hv2 q0)))<|si hm (fun _ hm=>by cases hm;exact re) fun _ hm=>sq hm Bb fun v3 hm=>l0 hm (fun g1=>⟨[(0,bn l_),(7,mZ v3.1),(8,aU v3.2),(27,dY m_),(28,iV (m_.length:Int)),(29,iV g1)],[],0⟩) <|fun aj g1 hm=>si hm (fun _ hm=>s2 hm fun _ _ hm=>sn hm fun _ hm=>sb hm fun v6 hv6 hm=>cl (fun q0=>(r9 (hv6 q0)))<|si hm (fun _ hm=>by cases hm;exact re) fun _ hm=>sn hm fun _ hm=>le hm) fun _ hm=>sq hm Il fun v7 hm=>by cases hm;exact re
theorem LP {b_:bf} {g_:bM} {x_:aL} {fD:Bool} {r:Bool} (hm:xS b_ g_ x_ fD r):S 123 [gZ b_,jW g_,qM x_,.bool fD] [] (.bool r) [] :=Rl [6] Tryz.func123 rfl<|Md [6] hm (fun g1=>⟨[(3,.bool fD),(4,.ptr 0 0 0),(5,.ptr 1 0 0),(12,dY x_.bP),(13,iV (x_.bP.length:Int)),(14,iV g1)],[(0,some (.box [bn b_.bQ,aT b_.bI,iV b_.aP.bG,bg b_.aP.av,bZ b_.aY,bO b_.dh])),(1,some (.box [aD g_.dF,aU g_.eD.On,aD g_.eD.dQ,dG g_.bX,aU g_.dV,aU g_.eG]))],2⟩) [(1,some 8)] [] <|fun aj g1 hm=>si hm (fun _ hm=>sn hm fun _ hm=>ck [6] (mo b_ g_ x_ g1 aj) r (fun g4=>⟨[(3,.bool fD),(4,.ptr 0 0 0),(5,.ptr 1 0 0),(10,.ptr 2 0 0),(12,dY x_.bP),(13,iV (x_.bP.length:Int)),(14,iV g1)],[(0,some (.box [bn b_.bQ,aT b_.bI,iV b_.aP.bG,bg b_.aP.av,bZ b_.aY,bO b_.dh])),(1,some (.box [aD g_.dF,aU g_.eD.On,aD g_.eD.dQ,dG g_.bX,aU g_.dV,aU g_.eG])),(2,some (.box [iV ((x_.bP.getD g1.toNat cB).dW),iV g4,iV ((x_.bP.getD g1.toNat cB).eP)]))],3⟩) (si hm (fun _ hm=>lc [(2,some 26)] [] hm) fun _ hm=>lc [(2,some 26)] [] hm) fun g4 hm=>sb hm fun v3 hv3 hm=>cl ((Dp hv3).le ⟨.refl _,.refl _,(.sl rfl (fun _=>rfl) nofun (fB tC cB [(⟨(x_.bP.getD g1.toNat cB).dW,g4,(x_.bP.getD g1.toNat cB).eP⟩:bK)])),trivial⟩ trivial)<|si hm (fun _ hm=>by cases hm;exact re) fun _ hm=>sn hm fun _ hm=>le hm) fun _ hm=>by cases hm;exact re
theorem M7 {l_:(List aG)} {r_:dB} {r:Bool} (hm:Av l_ r_ r):S 179 [aT l_,Bl r_] [] (.bool r) [] :=sp Tryz.func179 rfl<|sq hm nZ fun v1 hm=>si hm (fun _ hm=>by cases hm;exact re) fun _ hm=>l0 hm (fun g1=>⟨[(3,.ptr 0 0 0),(26,aT l_),(27,iV (l_.length:Int)),(28,iV g1)],[(0,some (.box [aU r_.On,aD r_.dQ]))],1⟩) <|fun aj g1 hm=>si hm (fun _ hm=>s2 hm fun _ _ hm=>sn hm fun _ hm=>sq hm iZ fun v4 hm=>si hm (fun _ hm=>by cases hm;exact re) fun _ hm=>sn hm fun _ hm=>le hm) fun _ hm=>by cases hm;exact re
theorem M8 {l_:(List aG)} {r_:dB} {d_:(List bE)} {r:Bool} (hm:Aw l_ r_ d_ r):S 124 [aT l_,Bl r_,eF d_] [] (.bool r) [] :=sp Tryz.func124 rfl<|sq hm Dk fun v1 hm=>sb hm fun v2 hv2 hm=>cl (fun q0=>(M7 (hv2 q0)))<|sb hm fun v3 hv3 hm=>cl (fun q0=>(Dl (hv3 q0)))<|by cases hm;exact re
theorem FD {l_:(List aS)} {r:(List jH)} (hm:za l_ r):S 17 [dG l_] [] (.osl 0 0 r.length false) [.row 2 r.length (rowG Xh eT r)] :=sp Tryz.func17 rfl<|lf hm (fun g1=>⟨[(0,dG l_),(3,.osl 0 0 g1.2.length false),(4,iV g1.1)],[(0,some (.row 2 g1.2.length (rowG Xh eT g1.2)))],1⟩) [(0,none)] [] <|fun aj g1 hm=>si hm (fun _ hm=>s2 hm fun _ _ hm=>sn hm fun _ hm=>lc [(0,some 89)] [] hm) fun _ hm=>by cases hm;exact re
theorem Bd {p_:aX} {l_:(List jH)} {r:((List Int)×Int)} (hm:rO p_ l_ r):S 16 [jq p_,Jw l_] [] (.tup [aD r.1,iV r.2]) [] :=sp Tryz.func16 rfl<|sq hm og fun v1 hm=>si hm (fun _ hm=>by cases hm;exact re) fun _ hm=>sn hm fun _ hm=>lf hm (fun g1=>⟨[(1,Jw l_),(2,.ptr 0 0 0),(6,.osl 1 0 g1.2.length false),(7,iV g1.1)],[(0,some (.box [iV p_.bG,bg p_.av])),(1,some (.row 1 g1.2.length (rowG iV 0 g1.2)))],2⟩) [(1,some 64)] [] <|fun aj g1 hm=>si hm (fun _ hm=>s2 hm fun _ _ hm=>le hm) fun _ hm=>l0 hm (fun g2=>⟨[(1,Jw l_),(2,.ptr 0 0 0),(6,.osl 1 0 g2.2.length false),(8,iV g2.1)],[(0,some (.box [iV p_.bG,bg p_.av])),(1,some (.row 1 g2.2.length (rowG iV 0 g2.2)))],2⟩) <|fun cO g2 hm=>si hm (fun _ hm=>s2 hm fun _ _ hm=>s2 hm fun _ _ hm=>si hm (fun _ hm=>by cases hm;exact re) fun _ hm=>l0 hm (fun g7=>⟨[(1,Jw l_),(2,.ptr 0 0 0),(6,.osl 1 0 g2.2.length false),(8,iV g2.1),(9,iV ((l_.getD g2.1.toNat eT).bU)),(10,iV g7)],[(0,some (.box [iV p_.bG,bg p_.av])),(1,some (.row 1 g2.2.length (rowG iV 0 g2.2)))],2⟩) <|fun jU g7 hm=>si hm (fun _ hm=>sn hm fun _ hm=>si hm (fun _ hm=>by cases hm;exact re) fun _ hm=>sn hm fun _ hm=>le hm) fun _ hm=>sn hm fun _ hm=>l0 hm (fun g8=>⟨[(1,Jw l_),(2,.ptr 0 0 0),(6,.osl 1 0 g8.2.length false),(8,iV g2.1),(9,iV ((l_.getD g2.1.toNat eT).bU)),(88,aD ((p_.av.getD (((l_.getD g2.1.toNat eT).bU).toNat) ay).bG)),(89,iV ((((p_.av.getD (((l_.getD g2.1.toNat eT).bU).toNat) ay).bG).length:Nat):Int)),(90,iV g8.1)],[(0,some (.box [iV p_.bG,bg p_.av])),(1,some (.row 1 g8.2.length (rowG iV 0 g8.2)))],2⟩) <|fun Nw g8 hm=>si hm (fun _ hm=>s2 hm fun _ _ hm=>si hm (fun _ hm=>by cases hm;exact re) fun _ hm=>s2 hm fun _ _ hm=>le hm) fun _ hm=>sn hm fun _ hm=>le hm) fun _ hm=>by cases hm;exact rt [1] []
theorem Im {b_:bf} {g_:bM} {x_:aL} {aR:Int} {r:Bool} (hm:pI b_ g_ x_ aR r):S 125 [gZ b_,jW g_,qM x_,iV aR] [] (.bool r) [] :=sp Tryz.func125 rfl<|lf hm (fun g1=>⟨[(3,iV aR),(4,.ptr 0 0 0),(5,.ptr 1 0 0),(6,.ptr 2 0 0),(18,eZ x_.ak),(19,iV (x_.ak.length:Int)),(20,iV g1)],[(0,some (.box [bn b_.bQ,aT b_.bI,iV b_.aP.bG,bg b_.aP.av,bZ b_.aY,bO b_.dh])),(1,some (.box [aD g_.dF,aU g_.eD.On,aD g_.eD.dQ,dG g_.bX,aU g_.dV,aU g_.eG])),(2,some (.box [dY x_.bP,eF x_.d9,eZ x_.ak,aD x_.aY,iV x_.fq,aD x_.aW]))],3⟩) [(1,some 8),(2,some 16)] [] <|fun aj g1 hm=>si hm (fun _ hm=>sn hm fun _ hm=>l0 hm (fun g6=>⟨[(3,iV aR),(4,.ptr 0 0 0),(5,.ptr 1 0 0),(6,.ptr 2 0 0),(10,.str (x_.ak.getD g1.toNat ByteArray.empty)),(11,iV g6.1),(12,iV (0:Int)),(18,eZ x_.ak),(19,iV (x_.ak.length:Int)),(20,iV g1),(25,eZ x_.ak),(26,iV (x_.ak.length:Int)),(27,iV g6.2)],[(0,some (.box [bn b_.bQ,aT b_.bI,iV b_.aP.bG,bg b_.aP.av,bZ b_.aY,bO b_.dh])),(1,some (.box [aD g_.dF,aU g_.eD.On,aD g_.eD.dQ,dG g_.bX,aU g_.dV,aU g_.eG])),(2,some (.box [dY x_.bP,eF x_.d9,eZ x_.ak,aD x_.aY,iV x_.fq,aD x_.aW]))],3⟩) <|fun gU g6 hm=>si hm (fun _ hm=>sn hm fun _ hm=>si hm (fun _ hm=>s2 hm fun _ _ hm=>le hm) fun _ hm=>sn hm fun _ hm=>le hm) fun _ hm=>l0 hm (fun g7=>⟨[(3,iV aR),(4,.ptr 0 0 0),(5,.ptr 1 0 0),(6,.ptr 2 0 0),(10,.str (x_.ak.getD g1.toNat ByteArray.empty)),(11,iV g6.1),(12,iV g7.1),(18,eZ x_.ak),(19,iV (x_.ak.length:Int)),(20,iV g1),(38,dG g_.bX),(39,iV (g_.bX.length:Int)),(40,iV g7.2)],[(0,some (.box [bn b_.bQ,aT b_.bI,iV b_.aP.bG,bg b_.aP.av,bZ b_.aY,bO b_.dh])),(1,some (.box [aD g_.dF,aU g_.eD.On,aD g_.eD.dQ,dG g_.bX,aU g_.dV,aU g_.eG])),(2,some (.box [dY x_.bP,eF x_.d9,eZ x_.ak,aD x_.aY,iV x_.fq,aD x_.aW]))],3⟩) <|fun jU g7 hm=>si hm (fun _ hm=>s2 hm fun _ _ hm=>sn hm fun _ hm=>si hm (fun _ hm=>s2 hm fun _ _ hm=>le hm) fun _ hm=>sn hm fun _ hm=>le hm) fun _ hm=>si hm (fun _ hm=>by cases hm;exact re) fun _ hm=>sn hm fun _ hm=>le hm) fun _ hm=>by cases hm;exact re
theorem LQ {l_:(List dN)} {dA:(List Bool)} {r:Bool} (hm:xU l_ dA r):S 126 [bZ l_,aU dA] [] (.bool r) [] :=sp Tryz.func126 rfl<|sq hm uq fun v1 hm=>si hm (fun _ hm=>by cases hm;exact re) fun _ hm=>l0 hm (fun g1=>⟨[(0,bZ l_),(1,aU dA),(5,iV g1)],[],0⟩) <|fun aj g1 hm=>si hm (fun _ hm=>l0 hm (fun g4=>⟨[(0,bZ l_),(1,aU dA),(5,iV g1),(6,iV g4)],[],0⟩) <|fun gL g4 hm=>sn hm fun _ hm=>si hm (fun _ hm=>s2 hm fun _ _ hm=>s2 hm fun _ _ hm=>si hm (fun _ hm=>by cases hm;exact re) fun _ hm=>sn hm fun _ hm=>le hm) fun _ hm=>sn hm fun _ hm=>le hm) fun _ hm=>by cases hm;exact re
theorem M9 {l_:(List dx)} {mP:(List Bool)} {r:Bool} (hm:Ay l_ mP r):S 127 [bO l_,aU mP] [] (.bool r) [] :=sp Tryz.func127 rfl<|sq hm uw fun v1 hm=>si hm (fun _ hm=>by cases hm;exact re) fun _ hm=>l0 hm (fun g1=>⟨[(0,bO l_),(1,aU mP),(5,iV g1)],[],0⟩) <|fun aj g1 hm=>si hm (fun _ hm=>s2 hm fun _ _ hm=>s2 hm fun _ _ hm=>s2 hm fun _ _ hm=>si hm (fun _ hm=>by cases hm;exact re) fun _ hm=>sn hm fun _ hm=>le hm) fun _ hm=>by cases hm;exact re
theorem LU {b_:bf} {l_:(List aL)} {ah:(List Int)} {g_:bM} {fD:Bool} {r:Int} (hm:xV b_ l_ ah g_ fD r):S 69 [gZ b_,dI l_,aD ah,jW g_,.bool fD] [] (iV r) [] :=sp Tryz.func69 rfl<|sq hm pR fun v1 hm=>sb hm fun v2 hv2 hm=>cl (fun q0=>(l5 (hv2 q0)))<|sb hm fun v3 hv3 hm=>cl (fun q0=>(LM (hv3 q0)))<|si hm (fun _ hm=>by cases hm;exact re) fun _ hm=>sb hm fun v4 hv4 hm=>cl ((Dp hv4).le ⟨.refl _,.refl _,(.sl rfl (fun h=>absurd rfl h) nofun (fun _ h=>absurd h (Nat.not_lt_zero _))),trivial⟩ trivial)<|si hm (fun _ hm=>by cases hm;exact re) fun _ hm=>lf hm (fun g1=>⟨[(1,dI l_),(2,aD ah),(4,.bool fD),(5,.ptr 0 0 0),(8,.ptr 1 0 0),(11,.osl 2 0 g1.2.length false),(48,aD ah),(49,iV (ah.length:Int)),(50,iV g1.1)],[(0,some (.box [bn b_.bQ,aT b_.bI,iV b_.aP.bG,bg b_.aP.av,bZ b_.aY,bO b_.dh])),(1,some (.box [aD g_.dF,aU g_.eD.On,aD g_.eD.dQ,dG g_.bX,aU g_.dV,aU g_.eG])),(2,some (.row 4 g1.2.length (rowG Ca dD g1.2)))],3⟩) [(1,some 8),(2,none)] [] <|fun aj g1 hm=>si hm (fun _ hm=>s2 hm fun _ _ hm=>sq hm LP fun v7 hm=>si hm (fun _ hm=>by cases hm;exact re) fun _ hm=>s2 hm fun _ _ hm=>sn hm fun _ hm=>lc [(2,some 155)] [] hm) fun _ hm=>sq hm M8 fun v8 hm=>si hm (fun _ hm=>by cases hm;exact re) fun _ hm=>sq hm FD fun v9 hm=>sq hm Bd fun v10 hm=>si hm (fun _ hm=>by cases hm;exact re) fun _ hm=>l0 hm (fun g2=>⟨[(1,dI l_),(2,aD ah),(5,.ptr 0 0 0),(8,.ptr 1 0 0),(89,aD ah),(90,iV (ah.length:Int)),(91,iV g2)],[(0,some (.box [bn b_.bQ,aT b_.bI,iV b_.aP.bG,bg b_.aP.av,bZ b_.aY,bO b_.dh])),(1,some (.box [aD g_.dF,aU g_.eD.On,aD g_.eD.dQ,dG g_.bX,aU g_.dV,aU g_.eG]))],2⟩) <|fun cO g2 hm=>si hm (fun _ hm=>s2 hm fun _ _ hm=>sq hm Im fun v13 hm=>si hm (fun _ hm=>by cases hm;exact re) fun _ hm=>sn hm fun _ hm=>le hm) fun _ hm=>sq hm LQ fun v14 hm=>si hm (fun _ hm=>by cases hm;exact re) fun _ hm=>l0 hm (fun g3=>⟨[(1,dI l_),(2,aD ah),(5,.ptr 0 0 0),(8,.ptr 1 0 0),(111,aD ah),(112,iV (ah.length:Int)),(113,iV g3)],[(0,some (.box [bn b_.bQ,aT b_.bI,iV b_.aP.bG,bg b_.aP.av,bZ b_.aY,bO b_.dh])),(1,some (.box [aD g_.dF,aU g_.eD.On,aD g_.eD.dQ,dG g_.bX,aU g_.dV,aU g_.eG]))],2⟩) <|fun iy g3 hm=>si hm (fun _ hm=>s2 hm fun _ _ hm=>l0 hm (fun g6=>⟨[(1,dI l_),(2,aD ah),(5,.ptr 0 0 0),(8,.ptr 1 0 0),(111,aD ah),(112,iV (ah.length:Int)),(113,iV g3),(121,aD ((l_.getD ((ah.getD g3.toNat 0).toNat) bB).aY)),(122,iV ((((l_.getD ((ah.getD g3.toNat 0).toNat) bB).aY).length:Nat):Int)),(123,iV g6)],[(0,some (.box [bn b_.bQ,aT b_.bI,iV b_.aP.bG,bg b_.aP.av,bZ b_.aY,bO b_.dh])),(1,some (.box [aD g_.dF,aU g_.eD.On,aD g_.eD.dQ,dG g_.bX,aU g_.dV,aU g_.eG]))],2⟩) <|fun gU g6 hm=>si hm (fun _ hm=>s2 hm fun _ _ hm=>si hm (fun _ hm=>by cases hm;exact re) fun _ hm=>sn hm fun _ hm=>le hm) fun _ hm=>sn hm fun _ hm=>le hm) fun _ hm=>sq hm M9 fun v15 hm=>si hm (fun _ hm=>by cases hm;exact re) fun _ hm=>lf hm (fun g7=>⟨[(1,dI l_),(8,.ptr 0 0 0),(141,aD ah),(142,iV (ah.length:Int)),(143,iV g7)],[(0,some (.box [aD g_.dF,aU g_.eD.On,aD g_.eD.dQ,dG g_.bX,aU g_.dV,aU g_.eG]))],1⟩) [(0,some 1)] [] <|fun jU g7 hm=>si hm (fun _ hm=>s2 hm fun _ _ hm=>sn hm fun _ hm=>si hm (fun _ hm=>by cases hm;exact re) fun _ hm=>sn hm fun _ hm=>le hm) fun _ hm=>by cases hm;exact re
theorem Na {b_:bf} {l_:(List aL)} {ah:(List Int)} {g_:bM} {r:Bool} (hm:GY b_ l_ ah g_ r):S 29 [gZ b_,dI l_,aD ah,jW g_] [] (.bool r) [] :=sp Tryz.func29 rfl<|sq hm LU fun v1 hm=>by cases hm;exact re
theorem LV {b_:bf} {l_:(List aL)} {ah:(List Int)} {g_:bM} {aR:Int} {r:Int} (hm:xW b_ l_ ah g_ aR r):S 71 [gZ b_,dI l_,aD ah,jW g_,iV aR] [] (iV r) [] :=sp Tryz.func71 rfl<|sq hm pR fun v1 hm=>si hm (fun _ hm=>by cases hm;exact re) fun _ hm=>sq hm l5 fun v2 hm=>si hm (fun _ hm=>by cases hm;exact re) fun _ hm=>sq hm Na fun v3 hm=>si hm (fun _ hm=>by cases hm;exact re) fun _ hm=>si hm (fun _ hm=>by cases hm;exact re) fun _ hm=>by cases hm;exact re
theorem Io {l_:(List aL)} {dz:(List Int)} {r:(List bK)} (hm:vV l_ dz r):S 22 [dI l_,.osl 0 0 dz.length false] [.row 1 dz.length (rowG iV 0 dz)] (dY r) [.row 1 dz.length (rowG iV 0 dz)] :=sp Tryz.func22 rfl<|lf hm (fun g1=>⟨[(0,dI l_),(5,.osl 1 0 g1.2.length false),(8,.osl 0 0 dz.length false),(9,iV (dz.length:Int)),(10,iV g1.1)],[(0,some (.row 1 dz.length (rowG iV 0 dz))),(1,some (.row 3 g1.2.length (rowG tC cB g1.2)))],2⟩) [(1,none)] [] <|fun aj g1 hm=>si hm (fun _ hm=>sn hm fun _ hm=>si hm (fun _ hm=>s2 hm fun _ _ hm=>sn hm fun _ hm=>lc [(1,some 146)] [] hm) fun _ hm=>sn hm fun _ hm=>le hm) fun _ hm=>by cases hm;exact rt [1] []
theorem Jt {l_:(List aL)} {dz:(List Int)} {r:(List bE)} (hm:zk l_ dz r):S 24 [dI l_,.osl 0 0 dz.length false] [.row 1 dz.length (rowG iV 0 dz)] (eF r) [.row 1 dz.length (rowG iV 0 dz)] :=sp Tryz.func24 rfl<|lf hm (fun g1=>⟨[(0,dI l_),(5,.osl 1 0 g1.2.length false),(8,.osl 0 0 dz.length false),(9,iV (dz.length:Int)),(10,iV g1.1)],[(0,some (.row 1 dz.length (rowG iV 0 dz))),(1,some (.row 4 g1.2.length (rowG Ca dD g1.2)))],2⟩) [(1,none)] [] <|fun aj g1 hm=>si hm (fun _ hm=>sn hm fun _ hm=>si hm (fun _ hm=>s2 hm fun _ _ hm=>sn hm fun _ hm=>lc [(1,some 146)] [] hm) fun _ hm=>sn hm fun _ hm=>le hm) fun _ hm=>by cases hm;exact rt [1] []
theorem Bf {l_:(List aS)} {dz:(List Int)} {r:(List aS)} (hm:rP l_ dz r):S 67 [dG l_,.osl 0 0 dz.length false] [.row 1 dz.length (rowG iV 0 dz)] (.osl 1 0 r.length false) [.row 1 dz.length (rowG iV 0 dz),.row 3 r.length (rowG mK bA r)] :=sp Tryz.func67 rfl<|lf hm (fun g1=>⟨[(1,.osl 0 0 dz.length false),(5,.osl 1 0 g1.2.length false),(8,dG l_),(9,iV (l_.length:Int)),(10,iV g1.1)],[(0,some (.row 1 dz.length (rowG iV 0 dz))),(1,some (.row 3 g1.2.length (rowG mK bA g1.2)))],2⟩) [(1,none)] [] <|fun aj g1 hm=>si hm (fun _ hm=>sn hm fun _ hm=>sq hm BZ fun v3 hm=>si hm (fun _ hm=>s2 hm fun _ _ hm=>lc [(1,some 98)] [] hm) fun _ hm=>sn hm fun _ hm=>le hm) fun _ hm=>by cases hm;exact re
theorem Ju {b_:bf} {l_:(List aL)} {g_:bM} {dz:(List Int)} {r:((List Int)×(List Bool)×(List Int)×(List Bool)×(List Bool)×Int×Int×(List aS))} (hm:rQ b_ l_ g_ dz r):S 27 [gZ b_,dI l_,.osl 0 0 dz.length false,jW g_] [.row 1 dz.length (rowG iV 0 dz)] (.tup [.agg [aD r.1,aU r.2.1,aD r.2.2.1,.osl 1 0 r.2.2.2.2.2.2.2.length false,aU r.2.2.2.1,aU r.2.2.2.2.1],iV r.2.2.2.2.2.1,iV r.2.2.2.2.2.2.1]) [.row 1 dz.length (rowG iV 0 dz),.row 3 r.2.2.2.2.2.2.2.length (rowG mK bA r.2.2.2.2.2.2.2)] :=sp Tryz.func27 rfl<|sq hm pR fun v1 hm=>si hm (fun _ hm=>by cases hm;exact rt [] [(1,none)]) fun _ hm=>sq hm l5 fun v2 hm=>si hm (fun _ hm=>by cases hm;exact rt [] [(1,none)]) fun _ hm=>sq hm Io fun v3 hm=>sq hm Jt fun v4 hm=>sb hm fun v5 hv5 hm=>cl (fun q0=>(vD (hv5 q0)))<|si hm (fun _ hm=>by cases hm;exact rt [] [(1,none)]) fun _ hm=>sq hm Dj fun v6 hm=>si hm (fun _ hm=>by cases hm;exact rt [] [(1,none)]) fun _ hm=>sq hm Dn fun v7 hm=>si hm (fun _ hm=>by cases hm;exact rt [] [(1,none)]) fun _ hm=>lf hm (fun g1=>⟨[(1,dI l_),(2,.osl 0 0 dz.length false),(4,.ptr 1 0 0),(7,.ptr 2 0 0),(8,.ptr 3 0 0),(14,aD v6.1),(16,.ptr 4 0 0),(17,.osl 5 0 g1.2.1.length false),(18,.osl 6 0 g1.2.2.length false),(78,.osl 0 0 dz.length false),(79,iV (dz.length:Int)),(80,iV g1.1)],[(0,some (.row 1 dz.length (rowG iV 0 dz))),(1,some (.box [bn b_.bQ,aT b_.bI,iV b_.aP.bG,bg b_.aP.av,bZ b_.aY,bO b_.dh])),(2,some (.box [aD g_.dF,aU g_.eD.On,aD g_.eD.dQ,dG g_.bX,aU g_.dV,aU g_.eG])),(3,some (.box [.sl 0 0 true nilG,.sl 0 0 true nilG,.sl 0 0 true nilG,.sl 0 0 true nilG,.sl 0 0 true nilG,.sl 0 0 true nilG])),(4,some (.box [aU v7.1.On,aD v7.1.dQ])),(5,some (.row 1 g1.2.1.length (rowG iV 0 g1.2.1))),(6,some (.row 1 g1.2.2.length (rowG iV 0 g1.2.2)))],7⟩) [(2,some 9),(3,some 17),(4,some 441),(5,none),(6,none)] [] <|fun aj g1 hm=>si hm (fun _ hm=>s2 hm fun _ _ hm=>s2 hm fun _ _ hm=>si hm (fun _ hm=>s2 hm fun _ _ hm=>sn hm fun _ hm=>lc [(5,some 87),(6,some 207)] [] hm) fun _ hm=>sn hm fun _ hm=>lc [(5,some 87)] [] hm) fun _ hm=>sq hm Bc fun v8 hm=>sq hm JY fun v9 hm=>sq hm Bf fun v10 hm=>by cases hm;exact rt [] [(1,some 199)]
theorem Nb {b_:bf} {l_:(List aS)} {r:((List ByteArray)×(List Int))} (hm:Az b_ l_ r):S 73 [gZ b_,dG l_] [] (.tup [.osl 0 0 r.1.length false,.osl 1 0 r.2.length false]) [.row 1 r.1.length (rowG AV.str ByteArray.empty r.1),.row 1 r.2.length (rowG iV 0 r.2)] :=sp Tryz.func73 rfl<|lf hm (fun g1=>⟨[(2,.ptr 0 0 0),(6,.osl 1 0 g1.2.1.length false),(7,.osl 2 0 g1.2.2.length false),(10,dG l_),(11,iV (l_.length:Int)),(12,iV g1.1)],[(0,some (.box [bn b_.bQ,aT b_.bI,iV b_.aP.bG,bg b_.aP.av,bZ b_.aY,bO b_.dh])),(1,some (.row 1 g1.2.1.length (rowG AV.str ByteArray.empty g1.2.1))),(2,some (.row 1 g1.2.2.length (rowG iV 0 g1.2.2)))],3⟩) [(1,none),(2,none)] [] <|fun aj g1 hm=>si hm (fun _ hm=>s2 hm fun _ _ hm=>s2 hm fun _ _ hm=>s2 hm fun _ _ hm=>lc [(1,some 171),(2,some 227)] [] hm) fun _ hm=>by cases hm;exact rt [] [(0,some 1),(1,some 2)]
theorem Nc {p_:aX} {l_:(List ByteArray)} {r:Bool} (hm:AA p_ l_ r):S 180 [jq p_,eZ l_] [] (.bool r) [] :=sp Tryz.func180 rfl<|sq hm og fun v1 hm=>si hm (fun _ hm=>by cases hm;exact re) fun _ hm=>l0 hm (fun g1=>⟨[(1,eZ l_),(5,iV g1)],[],0⟩) <|fun aj g1 hm=>si hm (fun _ hm=>sn hm fun _ hm=>sq hm pQ fun v4 hm=>si hm (fun _ hm=>by cases hm;exact re) fun _ hm=>sn hm fun _ hm=>le hm) fun _ hm=>by cases hm;exact re
theorem mH {g_:bR} {dU:ByteArray} {r:Int} (hm:nM g_ dU r):S 14 [kL g_,.str dU] [] (iV r) [] :=sp Tryz.func14 rfl<|l0 hm (fun g1=>⟨[(1,.str dU),(2,.ptr 0 0 0),(5,iV g1)],[(0,some (.box [.str g_.qK,aD g_.bG,eZ g_.ak]))],1⟩) <|fun aj g1 hm=>si hm (fun _ hm=>sn hm fun _ hm=>si hm (fun _ hm=>by cases hm;exact re) fun _ hm=>sn hm fun _ hm=>le hm) fun _ hm=>by cases hm;exact re
theorem Nf {a_:(List Int)} {b_:(List Int)} {r:Bool} (hm:AB a_ b_ r):S 221 [aD a_,aD b_] [] (.bool r) [] :=sp Tryz.func221 rfl<|l0 hm (fun g1=>⟨[(0,aD a_),(1,aD b_),(5,iV g1.1),(6,iV g1.2)],[],0⟩) <|fun aj g1 hm=>si hm (fun _ hm=>s2 hm fun _ _ hm=>si hm (fun _ hm=>by cases hm;exact re) fun _ hm=>s2 hm fun _ _ hm=>si hm (fun _ hm=>sn hm fun _ hm=>le hm) fun _ hm=>sn hm fun _ hm=>le hm) fun _ hm=>by cases hm;exact re
theorem FE {p_:aX} {dL:(List Int)} {g_:Int} {r:Bool} (hm:zm p_ dL g_ r):S 183 [jq p_,aD dL,iV g_] [] (.bool r) [] :=sp Tryz.func183 rfl<|l0 hm (fun g1=>⟨[(1,aD dL),(2,iV g_),(3,.ptr 0 0 0),(7,iV g1)],[(0,some (.box [iV p_.bG,bg p_.av]))],1⟩) <|fun aj g1 hm=>si hm (fun _ hm=>s2 hm fun _ _ hm=>s2 hm fun _ _ hm=>sb hm fun v3 hv3 hm=>cl (fun q0=>(Nf (hv3 q0)))<|si hm (fun _ hm=>by cases hm;exact re) fun _ hm=>sn hm fun _ hm=>le hm) fun _ hm=>by cases hm;exact re
theorem Oy {p_:aX} {l_:(List ByteArray)} {dL:(List Int)} {r:Bool} (hm:DY p_ l_ dL r):S 181 [jq p_,eZ l_,aD dL] [] (.bool r) [] :=sp Tryz.func181 rfl<|si hm (fun _ hm=>by cases hm;exact re) fun _ hm=>l0 hm (fun g1=>⟨[(1,eZ l_),(2,aD dL),(3,.ptr 0 0 0),(7,iV g1)],[(0,some (.box [iV p_.bG,bg p_.av]))],1⟩) <|fun aj g1 hm=>si hm (fun _ hm=>s2 hm fun _ _ hm=>sn hm fun _ hm=>sb hm fun v5 hv5 hm=>cl (fun q0=>(mH (hv5 q0)))<|sn hm fun _ hm=>sb hm fun v6 hv6 hm=>cl (fun q0=>((FE (hv6 q0)).le ⟨.refl _,(.sl ozz (fun _=>rfl) nofun (jI (f:=iV) (d:=0) (by first | omega | exact Nat.min_le_left _ _ | exact Nat.le_trans (Nat.min_le_left _ _) om | (simp; omega)))),.refl _,trivial⟩ trivial))<|si hm (fun _ hm=>by cases hm;exact re) fun _ hm=>sn hm fun _ hm=>le hm) fun _ hm=>by cases hm;exact re
theorem Qq {p_:aX} {l_:(List ByteArray)} {dZ:(List Int)} {r:Int} (hm:IL p_ l_ dZ r):S 128 [jq p_,eZ l_,aD dZ] [] (iV r) [] :=sp Tryz.func128 rfl<|sq hm Nc fun v1 hm=>si hm (fun _ hm=>by cases hm;exact re) fun _ hm=>sq hm Oy fun v2 hm=>si hm (fun _ hm=>by cases hm;exact re) fun _ hm=>by cases hm;exact re
theorem LW {p_:aX} {dU:ByteArray} {r:(List Int)} (hm:xX p_ dU r):S 182 [jq p_,.str dU] [] (aD r) [] :=sp Tryz.func182 rfl<|lf hm (fun g1=>⟨[(1,.str dU),(2,.ptr 0 0 0),(5,.osl 1 0 g1.2.length false),(9,iV (p_.av.length:Int)),(10,iV g1.1)],[(0,some (.box [iV p_.bG,bg p_.av])),(1,some (.row 1 g1.2.length (rowG iV 0 g1.2)))],2⟩) [(1,none)] [] <|fun aj g1 hm=>si hm (fun _ hm=>sn hm fun _ hm=>sq hm mH fun v3 hm=>si hm (fun _ hm=>s2 hm fun _ _ hm=>lc [(1,some 114)] [] hm) fun _ hm=>sn hm fun _ hm=>le hm) fun _ hm=>by cases hm;exact rt [1] []
theorem Oz:∀(n:Nat) (gy:(aX×(List ByteArray)×(List Int))) (r:((List Int)×Bool)),Wj kS n gy r→S 129 [jq gy.1,eZ gy.2.1,aD gy.2.2] [] (.tup [aD r.1,.bool r.2]) [] :=by
 intro n
 induction n with
 | zero=>intro gy r hm; exact hm.elim
 | succ n ih=>
   intro gy r hm
   have hm:kS (Wj kS n) gy r:=hm
   generalize Wj kS n=vN at hm ih
   refine kF (ct:=[]) cfgOK Tryz.func129 rfl rfl (Nat.le_of_ble_eq_true rfl) dk (Nat.le_of_ble_eq_true rfl) ?_
   (conv=>whnf)
   refine gI hm (fun c1 hm=>?_) (fun c1 hm=>?_)
   · (conv=>whnf)
     refine aZ hm fun h1 hm=>?_
     (conv=>whnf)
     have hm:r=(gy.2.2,true):=hm
     subst hm
     refine ⟨[72],[],?_⟩
     (conv=>whnf)
     exact ⟨⟨rfl,trivial,trivial⟩,(by (conv=>whnf); exact ⟨(by (conv=>whnf); exact sf),(by (conv=>whnf); exact ⟨(by first | ((conv=>whnf); exact rfl) | exact rfl),trivial⟩)⟩)⟩
   · (conv=>whnf)
     refine aZ hm fun h2 hm=>?_
     (conv=>whnf)
     refine fV hm fun v1 hv1 hm=>?_
     refine ⟨_,_,(LW hv1),?_⟩
     (conv=>whnf)
     refine qh (ct:=[]) cfgOK dk hm (fun g1=>⟨[(1,eZ gy.2.1),(2,aD gy.2.2),(3,.ptr 0 0 0),(8,aD v1),(9,iV g1)],[(0,some (.box [iV gy.1.bG,bg gy.1.av]))],1⟩) [] [] ⟨rfl,⟨sr,sr,r4,sr,r2,trivial⟩,⟨⟨r2,sr,trivial⟩,trivial⟩⟩ ?_
     intro aj g1 hm
     (conv=>whnf)
     refine gI hm (fun c8 hm=>?_) (fun c8 hm=>?_)
     · (conv=>whnf)
       refine aZ hm fun h15 hm=>?_
       (conv=>whnf)
       refine fV hm fun v6 hv6 hm=>?_
       refine ⟨_,_,(FE hv6),?_⟩
       (conv=>whnf)
       refine gI hm (fun c9 hm=>?_) (fun c9 hm=>?_)
       · (conv=>whnf)
         refine aZ hm fun h16 hm=>?_
         (conv=>whnf)
         exact ⟨(g1+(1:Int)),[],[],hm,⟨rfl,⟨sr,sr,r4,sr,r2,trivial⟩,⟨⟨r2,sr,trivial⟩,trivial⟩⟩⟩
       · (conv=>whnf)
         refine aZ hm fun h17 hm=>?_
         (conv=>whnf)
         refine aZ hm fun h18 hm=>?_
         (conv=>whnf)
         refine aZ hm fun h19 hm=>?_
         (conv=>whnf)
         refine fV hm fun v7 hv7 hm=>?_
         refine ⟨_,_,((ih _ _ hv7).le ⟨.refl _,.refl _,(.sl ozz (fun _=>rfl) nofun (iC rfl (fun _ _=>.refl _) rfl (fB iV 0 [(v1.getD g1.toNat 0)]))),trivial⟩ trivial),?_⟩
         (conv=>whnf)
         refine gI hm (fun c10 hm=>?_) (fun c10 hm=>?_)
         · (conv=>whnf)
           have hm:r=(v7.1,true):=hm
           subst hm
           refine ⟨[],[],?_⟩
           (conv=>whnf)
           exact ⟨⟨rfl,trivial,trivial⟩,⟨sf,rfl,trivial⟩⟩
         · (conv=>whnf)
           refine aZ hm fun h20 hm=>?_
           (conv=>whnf)
           exact ⟨(g1+(1:Int)),[],[],hm,⟨rfl,⟨sr,sr,r4,sr,r2,trivial⟩,⟨⟨r2,sr,trivial⟩,trivial⟩⟩⟩
     · (conv=>whnf)
       have hm:r=(([]:List Int),false):=hm
       subst hm
       refine ⟨[],[],?_⟩
       (conv=>whnf)
       exact ⟨⟨rfl,trivial,trivial⟩,⟨⟨rfl,(fun h=>absurd rfl h),nofun,(fun _ h=>absurd h (Nat.not_lt_zero _))⟩,rfl,trivial⟩⟩
theorem LX {p_:aX} {l_:(List ByteArray)} {dL:(List Int)} {r:((List Int)×Bool)} (hm:xY p_ l_ dL r):S 129 [jq p_,eZ l_,aD dL] [] (.tup [aD r.1,.bool r.2]) [] :=by
 obtain ⟨n,hm⟩:=hm
 exact Oz n (p_,l_,dL) r hm
theorem LY {p_:aX} {l_:(List ByteArray)} {dZ:(List Int)} {r:((List Int)×Int)} (hm:xZ p_ l_ dZ r):S 74 [jq p_,eZ l_,aD dZ] [] (.tup [aD r.1,iV r.2]) [] :=sp Tryz.func74 rfl<|sq hm Qq fun v1 hm=>si hm (fun _ hm=>by cases hm;exact re) fun _ hm=>sq hm LX fun v2 hm=>si hm (fun _ hm=>by cases hm;exact re) fun _ hm=>by cases hm;exact re
theorem Ip {b_:bf} {l_:(List aL)} {g_:bM} {aR:Int} {dz:(List Int)} {r:(bM×Int×Int)} (hm:pJ b_ l_ g_ aR dz r):S 31 [gZ b_,dI l_,.osl 0 0 dz.length false,jW g_,iV aR] [.row 1 dz.length (rowG iV 0 dz)] (.tup [jW r.1,iV r.2.1,iV r.2.2]) [.row 1 dz.length (rowG iV 0 dz)] :=Rl [8,12] Tryz.func31 rfl<|sq hm LV fun v1 hm=>si hm (fun _ hm=>by cases hm;exact re) fun _ hm=>sq hm BZ fun v2 hm=>si hm (fun _ hm=>by cases hm;exact re) fun _ hm=>s2 hm fun _ _ hm=>ck [8,12] (qb b_ l_ aR) r (fun g1=>⟨[(1,dI l_),(4,iV aR),(5,.ptr 1 0 0),(10,.ptr 2 0 0),(14,.osl 3 0 g1.1.length false),(15,.ptr 4 0 0)],[(0,some (.row 1 dz.length (rowG iV 0 dz))),(1,some (.box [bn b_.bQ,aT b_.bI,iV b_.aP.bG,bg b_.aP.av,bZ b_.aY,bO b_.dh])),(2,some (.box [.sl 0 0 true nilG,.sl 0 0 true nilG,.sl 0 0 true nilG,.sl 0 0 true nilG,.sl 0 0 true nilG,.sl 0 0 true nilG])),(3,some (.row 1 g1.1.length (rowG iV 0 g1.1))),(4,some (.box [.sl 0 0 true nilG,.sl 0 0 true nilG,.sl 0 0 true nilG,dG g1.2,.sl 0 0 true nilG,.sl 0 0 true nilG]))],5⟩) (sq hm Bf fun v11 hm=>lc [(2,some 17),(3,some 169),(4,some 225)] [209] hm) fun g1 hm=>sb hm fun v4 hv4 hm=>cl ((Ju hv4).le ⟨.refl _,.refl _,.refl _,(Le.aggL ⟨(.sl rfl (fun h=>absurd rfl h) nofun (fun _ h=>absurd h (Nat.not_lt_zero _))),(.sl rfl (fun h=>absurd rfl h) nofun (fun _ h=>absurd h (Nat.not_lt_zero _))),(.sl rfl (fun h=>absurd rfl h) nofun (fun _ h=>absurd h (Nat.not_lt_zero _))),(.refl _),(.sl rfl (fun h=>absurd rfl h) nofun (fun _ h=>absurd h (Nat.not_lt_zero _))),(.sl rfl (fun h=>absurd rfl h) nofun (fun _ h=>absurd h (Nat.not_lt_zero _))),trivial⟩),trivial⟩ ⟨jf _,trivial⟩)<|si hm (fun _ hm=>by cases hm;exact re) fun _ hm=>ck [8,12] (oK b_ l_ aR v4) r (fun g2=>⟨[(1,dI l_),(4,iV aR),(5,.ptr 1 0 0),(10,.ptr 2 0 0),(16,.ptr 3 0 0),(19,.osl 4 0 g2.2.length false),(20,aD g2.1)],[(0,some (.row 1 dz.length (rowG iV 0 dz))),(1,some (.box [bn b_.bQ,aT b_.bI,iV b_.aP.bG,bg b_.aP.av,bZ b_.aY,bO b_.dh])),(2,some (.box [.sl 0 0 true nilG,.sl 0 0 true nilG,.sl 0 0 true nilG,.sl 0 0 true nilG,.sl 0 0 true nilG,.sl 0 0 true nilG])),(3,some (.box [aD v4.1,aU v4.2.1,aD v4.2.2.1,.osl 5 0 v4.2.2.2.2.2.2.2.length false,aU v4.2.2.2.1,aU v4.2.2.2.2.1])),(4,some (.row 1 g2.2.length (rowG AV.str ByteArray.empty g2.2))),(5,some (.row 3 v4.2.2.2.2.2.2.2.length (rowG mK bA v4.2.2.2.2.2.2.2)))],6⟩) (sq hm Nb fun v10 hm=>lc [(3,some 77),(4,some 149),(5,some 37)] [150] hm) fun g2 hm=>s2 hm fun _ _ hm=>sb hm fun v6 hv6 hm=>cl ((LY hv6).le ⟨.refl _,(.sl ozz (fun _=>rfl) nofun (iC rfl (fun _ _=>.refl _) rfl (fun _ _=>.refl _))),.refl _,trivial⟩ trivial)<|si hm (fun _ hm=>by cases hm;exact re) fun _ hm=>sn hm fun _ hm=>Md [8,12] hm (fun g3=>⟨[(4,iV aR),(5,.ptr 1 0 0),(10,.ptr 2 0 0),(16,.ptr 3 0 0),(20,aD g2.1),(21,aD v6.1),(91,eZ ((l_.getD aR.toNat bB).ak)),(92,iV ((((l_.getD aR.toNat bB).ak).length:Nat):Int)),(93,iV g3.1)],[(0,some (.row 1 dz.length (rowG iV 0 dz))),(1,some (.box [bn b_.bQ,aT b_.bI,iV b_.aP.bG,bg b_.aP.av,bZ b_.aY,bO b_.dh])),(2,some (.box [.sl 0 0 true nilG,.sl 0 0 true nilG,.sl 0 0 true nilG,.sl 0 0 true nilG,.sl 0 0 true nilG,.sl 0 0 true nilG])),(3,some (.box [aD v4.1,aU v4.2.1,aD v4.2.2.1,.osl 4 0 g3.2.length false,aU v4.2.2.2.1,aU v4.2.2.2.2.1])),(4,some (.row 3 g3.2.length (rowG mK bA g3.2)))],5⟩) [(4,some 5)] [] <|fun iy g3 hm=>si hm (fun _ hm=>s2 hm fun _ _ hm=>s2 hm fun _ _ hm=>sq hm mH fun v9 hm=>s2 hm fun _ _ hm=>lc [(4,some 237)] [] hm) fun _ hm=>by cases hm;exact rt [4] []
theorem Ng {dz:cu} {r:(bf×(List aL)×(List Int)×bM×cu)} (hm:AJ dz r):S 11 [.ptr 0 0 0] [.box [aD dz.L,iV dz.At]] (.tup [gZ r.1,dI r.2.1,aD r.2.2.1,jW r.2.2.2.1]) [.box [aD r.2.2.2.2.L,iV r.2.2.2.2.At]] :=sp Tryz.func11 rfl<|sq hm Ih fun v1 hm=>sq hm Ee fun v2 hm=>sq hm FC fun v3 hm=>lf hm (fun g1=>⟨[(0,.ptr 0 0 0),(2,.ptr 1 0 0),(5,.ptr 2 0 0),(6,.ptr 3 0 0),(7,dI v2.1),(8,.ptr 4 0 0),(9,iV v3.2),(10,.osl 5 0 g1.2.2.2.2.2.2.2.2.2.length false),(26,iV (v2.1.length:Int)),(27,iV g1.1)],[(0,some (.box [aD g1.2.1,iV g1.2.2.1])),(1,some (.box [.sl 0 0 true nilG,.sl 0 0 true nilG,iV (0:Int),.sl 0 0 true nilG,.sl 0 0 true nilG,.sl 0 0 true nilG])),(2,some (.box [.sl 0 0 true nilG,.sl 0 0 true nilG,.sl 0 0 true nilG,.sl 0 0 true nilG,.sl 0 0 true nilG,.sl 0 0 true nilG])),(3,some (.box [bn v1.1.bQ,aT v1.1.bI,iV v1.1.aP.bG,bg v1.1.aP.av,bZ v1.1.aY,bO v1.1.dh])),(4,some (.box [aD g1.2.2.2.1,aU g1.2.2.2.2.1,aD g1.2.2.2.2.2.1,dG g1.2.2.2.2.2.2.1,aU g1.2.2.2.2.2.2.2.1,aU g1.2.2.2.2.2.2.2.2.1])),(5,some (.row 1 g1.2.2.2.2.2.2.2.2.2.length (rowG iV 0 g1.2.2.2.2.2.2.2.2.2)))],6⟩) [(2,some 25),(3,some 49),(4,some 137),(5,none)] [] <|fun aj g1 hm=>si hm (fun _ hm=>sq hm Ip fun v8 hm=>si hm (fun _ hm=>sq hm bS fun v9 hm=>si hm (fun _ hm=>s2 hm fun _ _ hm=>lc [(5,some 262)] [] hm) fun _ hm=>sn hm fun _ hm=>le hm) fun c8 hm=>by
 refine ⟨(fun q0=>absurd q0 (Uk c8)),?_⟩
 (conv=>whnf)
 refine aZ hm fun h14 hm=>?_
 (conv=>whnf)
 refine aZ hm fun h15 hm=>?_
 (conv=>whnf)
 exact ⟨((g1.1+(1:Int)),g1.2.1,g1.2.2.1,g1.2.2.2.1,g1.2.2.2.2.1,g1.2.2.2.2.2.1,g1.2.2.2.2.2.2.1,g1.2.2.2.2.2.2.2.1,g1.2.2.2.2.2.2.2.2.1,g1.2.2.2.2.2.2.2.2.2),[],[],hm,⟨rfl,⟨r4,r4,r4,r4,sr,r4,r2,⟨rfl,rfl,rfl,rfl,nofun⟩,r2,r2,trivial⟩,⟨⟨sf,r2,trivial⟩,⟨sr,sr,r2,sr,sr,sr,trivial⟩,⟨sr,sr,sr,sr,sr,sr,trivial⟩,⟨sr,sr,r2,sr,sr,sr,trivial⟩,⟨sf,sf,sf,sf,sf,sf,trivial⟩,⟨rfl,rfl,(fun _ _=>.refl _)⟩,trivial⟩⟩⟩) fun _ hm=>by cases hm;exact rt [5] []
theorem LZ {p_:aX} {dU:ByteArray} {r:(List Int)} (hm:x9 p_ dU r):S 15 [jq p_,.str dU] [] (aD r) [] :=sp Tryz.func15 rfl<|sq hm og fun v1 hm=>si hm (fun _ hm=>by cases hm;exact re) fun _ hm=>lf hm (fun g1=>⟨[(1,.str dU),(2,.ptr 0 0 0),(5,.osl 1 0 g1.2.length false),(6,iV g1.1)],[(0,some (.box [iV p_.bG,bg p_.av])),(1,some (.row 1 g1.2.length (rowG iV 0 g1.2)))],2⟩) [(1,none)] [] <|fun aj g1 hm=>si hm (fun _ hm=>sn hm fun _ hm=>sq hm mH fun v4 hm=>si hm (fun _ hm=>s2 hm fun _ _ hm=>lc [(1,some 130)] [] hm) fun _ hm=>sn hm fun _ hm=>le hm) fun _ hm=>by cases hm;exact rt [1] []
theorem Iq {t_:(List Int)} {aR:Int} {r:Bool} (hm:vW t_ aR r):S 3 [aD t_,.int .u8 aR] [] (.bool r) [] :=sp Tryz.func3 rfl<|si hm (fun _ hm=>sq hm j3 fun v1 hm=>by cases hm;exact re) fun _ hm=>sq hm Ql fun v2 hm=>sq hm Ng fun v3 hm=>sq hm FC fun v4 hm=>si hm (fun _ hm=>sq hm j3 fun v5 hm=>by cases hm;exact re) fun _ hm=>sn hm fun _ hm=>sq hm A8 fun v6 hm=>si hm (fun _ hm=>sq hm j3 fun v7 hm=>by cases hm;exact re) fun _ hm=>s2 hm fun _ _ hm=>si hm (fun _ hm=>by cases hm;exact re) fun _ hm=>lfe [] hm (fun g1=>⟨[(6,.ptr 0 0 0),(7,dI v3.2.1),(9,.ptr 1 0 0),(12,iV ((IntKind.i64.wrap aR).tmod (v3.2.1.length:Int))),(16,dG g1.1),(86,dG g1.2.1),(87,iV (((v6.1.bX.length - (if (v6.1.bX.length:Int)<(v3.2.2.2.1.bX.length:Int) then (v6.1.bX.length:Int) else (v3.2.2.2.1.bX.length:Int)).toNat):Nat):Int)),(88,iV g1.2.2)],[(0,some (.box [bn v3.1.bQ,aT v3.1.bI,iV v3.1.aP.bG,bg v3.1.aP.av,bZ v3.1.aY,bO v3.1.dh])),(1,some (.box [aD v3.2.2.2.1.dF,aU v3.2.2.2.1.eD.On,aD v3.2.2.2.1.eD.dQ,dG v3.2.2.2.1.bX,aU v3.2.2.2.1.dV,aU v3.2.2.2.1.eG]))],2⟩) [(0,some 112),(1,some 120)] [] ⟨rfl,⟨r4,sr,r4,r2,⟨ozz,(fun _=>rfl),nofun,(Mh (a:=(if (v6.1.bX.length:Int)<(v3.2.2.2.1.bX.length:Int) then (v6.1.bX.length:Int) else (v3.2.2.2.1.bX.length:Int)).toNat) (N:=v6.1.bX.length) (fun _ _=>.refl _) (by first | omega | (simp; omega)))⟩,⟨ozz,(fun _=>rfl),nofun,(Mh (a:=(if (v6.1.bX.length:Int)<(v3.2.2.2.1.bX.length:Int) then (v6.1.bX.length:Int) else (v3.2.2.2.1.bX.length:Int)).toNat) (N:=v6.1.bX.length) (fun _ _=>.refl _) (by first | omega | (simp; omega)))⟩,r2,r2,trivial⟩,⟨⟨sr,sr,r2,sr,sr,sr,trivial⟩,⟨sr,sr,sr,sr,sr,sr,trivial⟩,trivial⟩⟩ <|fun aj g1 hm=>si hm (fun _ hm=>s2 hm fun _ _ hm=>s2 hm fun _ _ hm=>sb hm fun v10 CZ hm=>cl (fun q0=>(mH (CZ q0)))<|si hm (fun _ hm=>by cases hm;exact re) fun _ hm=>sn hm fun _ hm=>le hm) fun _ hm=>si hm (fun _ hm=>sq hm j3 fun v11 hm=>by cases hm;exact re) fun _ hm=>s2 hm fun _ _ hm=>sq hm LZ fun v12 hm=>l0 hm (fun g2=>⟨[(6,.ptr 0 0 0),(7,dI v3.2.1),(9,.ptr 1 0 0),(12,iV ((IntKind.i64.wrap aR).tmod (v3.2.1.length:Int))),(16,dG g1.1),(150,aD v12),(151,iV (v12.length:Int)),(152,iV g2)],[(0,some (.box [bn v3.1.bQ,aT v3.1.bI,iV v3.1.aP.bG,bg v3.1.aP.av,bZ v3.1.aY,bO v3.1.dh])),(1,some (.box [aD v3.2.2.2.1.dF,aU v3.2.2.2.1.eD.On,aD v3.2.2.2.1.eD.dQ,dG v3.2.2.2.1.bX,aU v3.2.2.2.1.dV,aU v3.2.2.2.1.eG]))],2⟩) <|fun cO g2 hm=>si hm (fun _ hm=>s2 hm fun _ _ hm=>si hm (fun _ hm=>sq hm j3 fun v19 hm=>by cases hm;exact re) fun _ hm=>sq hm FD fun v20 hm=>s2 hm fun _ _ hm=>sn hm fun _ hm=>sq hm mH fun v21 hm=>sn hm fun _ hm=>sb hm fun v22 Z8 hm=>cl ((Bd Z8).le ⟨.refl _,(.sl ozz (fun _=>rfl) nofun (iC rfl (fun _ _=>.refl _) rfl (fB Xh eT [(⟨(v12.getD g2.toNat 0),v21⟩:jH)]))),trivial⟩ trivial)<|si hm (fun _ hm=>by cases hm;exact re) fun _ hm=>sn hm fun _ hm=>le hm) fun _ hm=>sq hm j3 fun v23 hm=>by cases hm;exact re
end Go.Proofs.YtccjmcmolnbiiaaGreatDoor
namespace Go.Proofs.YtccjmcmolnbiiaaGreatDoor
open Go.Ab
set_option maxRecDepth 100000
theorem Qr {α:Type} {l:List aL} {ms:List Int} {of:aL→M (List α)} {k:Nat} (hof:∀x∈l,W (of x) (fun r=>r.length≤2000000)) (hm:ms.length≤10000) (hk:k≤64):W (bW (fun (self:Int×List α→M (List α)) g1=>
 bif (decide (g1.1<(ms.length:Int))) then
  need (0≤g1.1∧g1.1<(ms.length:Int))<|
  bif ((decide ((0:Int)≤(ms.getD g1.1.toNat 0)))&&(decide ((ms.getD g1.1.toNat 0)<(l.length:Int)))) then
   need (0≤(ms.getD g1.1.toNat 0)∧(ms.getD g1.1.toNat 0)<(l.length:Int))<|
   bnd (of (l.getD ((ms.getD g1.1.toNat 0).toNat) bB)) fun v3=>
   need ((g1.2.length+v3.length)*k≤big)<|
   need (InI64 (g1.1+(1:Int)))<|
   self ((g1.1+(1:Int)),(g1.2++v3))
  else
   need (InI64 (g1.1+(1:Int)))<|
   self ((g1.1+(1:Int)),g1.2)
 else
  ret g1.2) ((0:Int),([]:List α))) (fun r=>r.length≤2000000*ms.length):=by
 refine bq (fun g1:Int×List α=>0≤g1.1∧g1.1≤ms.length∧g1.2.length≤2000000*g1.1.toNat) (fun g1=>(ms.length - g1.1).toNat) ?_ ⟨ob,ob,by simp⟩;intro self g1 ⟨h1,h2,h3⟩ ih;refine wi (fun c=>?_) (fun c=>?_)
 ·refine wn ?_;have hs:(g1.1+1).toNat=g1.1.toNat+1:=by omega
  refine bF (fun c2=>?_) (fun c2=>?_)
  ·have c2:=nr c2;refine wn ?_;refine aF (hof _ (getD_in bB om)) fun v hv=>?_;have hb:(g1.2.length+v.length)*k≤(g1.2.length+v.length)*64:=Nat.mul_le_mul_left _ hk;refine aM (by unfold big; omega) ?_;refine wn ?_;exact ih _ ⟨ob,ob,by dsimp only; rw [List.length_append,hs]; omega⟩ ob
  ·refine wn ?_;exact ih _ ⟨ob,ob,by dsimp only; rw [hs]; omega⟩ ob
 ·have e3:g1.1.toNat=ms.length:=by omega
  rw [e3] at h3;exact au h3
theorem Qs {l_:List aL} {ah:List Int} (h1:∀x∈l_,x.bP.length≤2000000) (h2:ah.length≤10000):W (Dy l_ ah) (fun r=>r.length≤2000000*ah.length):=
 aF (Qr (k:=24) (of:=yC) (fun x hx=>au (h1 x hx)) h2 om) fun _ h=>au h
theorem Rm {l_:List aL} {ah:List Int} (h1:∀x∈l_,x.d9.length≤2000000) (h2:ah.length≤10000):W (Gd l_ ah) (fun r=>r.length≤2000000*ah.length):=
 aF (Qr (k:=32) (of:=Br) (fun x hx=>au (h1 x hx)) h2 om) fun _ h=>au h
theorem L6 {l_:List aL} {ah:List Int} (h1:∀x∈l_,x.ak.length≤2000000) (h2:ah.length≤10000):W (vI l_ ah) (fun r=>r.length≤2000000*ah.length):=
 aF (Qr (k:=16) (of:=qN) (fun x hx=>au (h1 x hx)) h2 om) fun _ h=>au h
theorem KD {l_:List aL} {ah:List Int} (h1:∀x∈l_,x.aY.length≤2000000) (h2:ah.length≤10000):W (tN l_ ah) (fun r=>r.length≤2000000*ah.length):=
 Qr (k:=8) (of:=Bt) (fun x hx=>au (h1 x hx)) h2 om
theorem F6 {l_:List aL} {ah:List Int} (h2:ah.length≤10000):W (oJ l_ ah) (fun r=>r.length≤2000000*ah.length):=
 Qr (k:=8) (of:=Bu) (fun x _=>bF (fun _=>au (by simp)) (fun _=>au (by simp))) h2 om
theorem Nh {l_:(List aH)} {s_:(List Int)} (h1:Good l_ s_):W (nE l_ s_) (fun r=>r=ratesF l_ s_):=by
 obtain ⟨q1,q2,q3,q4,q5⟩:=h1;unfold nE;refine wn ?_;refine bq (fun (g1:(Int×(List bH)))=>0≤g1.1∧g1.1≤l_.length∧g1.2=ratesN l_ s_ g1.1.toNat++List.replicate (l_.length - g1.1.toNat) dO) (fun (g1:(Int×(List bH)))=>(l_.length - g1.1).toNat) ?_ ?_
 ·intro aj g1 dH bL;obtain ⟨cK,bC,bJ⟩:=dH;unfold Aa;refine wi (fun c1=>?_) (fun c1=>?_)
  ·have hlt:g1.1.toNat<l_.length:=om; have hch:=q3 _ hlt; have hpar:=q5 _ hlt; have hpc:=q4 _ hlt; have hrl:=ratesN_len l_ s_ g1.1.toNat; have hgl:g1.2.length=l_.length:=(by rw [bJ,List.length_append,hrl,List.length_replicate]; omega);refine wm ?_;refine wn ?_;refine aF (Hl ob ob ob ob) fun v7 hv7=>?_;subst v7;refine bF (fun c2=>?_) (fun c2=>?_)
   ·have iL:=c2;have c2:=nr c2;refine wm ?_;refine bL _ ?_ ?_
    ·(refine ⟨ob,ob,?_⟩; dsimp only; exact mG bJ om (by unfold rt1; rw [iL]; rfl))
    ·exact ob
   ·have iL:=c2;have c2:=nr c2;have hget:g1.2.getD (parF (l_.getD g1.1.toNat aI) (s_.getD g1.1.toNat 0)).toNat dO=(ratesN l_ s_ g1.1.toNat).getD (parF (l_.getD g1.1.toNat aI) (s_.getD g1.1.toNat 0)).toNat dO:=by rw [bJ]; exact getD_app_l _ om
    refine wn ?_;refine bF (fun c3=>?_) (fun c3=>?_)
    ·have iB:=c3;have c3:=nr c3;refine wm ?_;refine bL _ ?_ ?_
     ·(refine ⟨ob,ob,?_⟩; dsimp only; exact mG bJ om (by unfold rt1; rw [iL,← hget,show (isOff _||_)=true from iB]; rfl))
     ·exact ob
    ·have iB:=c3;have c3:=nr c3;refine bF (fun c4=>?_) (fun c4=>?_)
     ·have mW:=c4;have c4:=nr c4;refine wn ?_;refine aF (NC) fun v8 BH=>?_;subst v8;refine wm ?_;refine bL _ ?_ ?_
      ·(refine ⟨ob,ob,?_⟩; dsimp only; exact mG bJ om (by unfold rt1; rw [iL,← hget,show (isOff _||_)=false from iB,mW]; rfl))
      ·exact ob
     ·have mW:=c4;have c4:=nr c4;refine bF (fun c5=>?_) (fun c5=>?_)
      ·have yg:=c5;have c5:=nr c5;refine wn ?_;refine aF (K5) fun v9 SB=>?_;subst v9;refine wm ?_;refine bL _ ?_ ?_
       ·(refine ⟨ob,ob,?_⟩; dsimp only; exact mG bJ om (by unfold rt1; rw [iL,← hget,show (isOff _||_)=false from iB,mW,yg]; rfl))
       ·exact ob
      ·have yg:=c5;have c5:=nr c5;refine wm ?_;refine wn ?_;refine bL _ ?_ ?_
       ·(refine ⟨ob,ob,?_⟩; dsimp only; exact mG bJ om (by unfold rt1; rw [iL,← hget,show (isOff _||_)=false from iB,mW,yg]; rfl))
       ·exact ob
  ·refine au ?_;(rw [bJ,show g1.1.toNat=l_.length by omega,Nat.sub_self]; simp [ratesF])
 ·(refine ⟨ob,ob,?_⟩; simp [ratesN])
theorem Ni {l_:(List aH)} {s_:(List Int)} (h1:l_.length≤2000000) (h2:s_.length≤2000000) (h3:ChOK l_):W (ru l_ s_) (fun r=>r=ratesE l_ s_):=by
 unfold ru;refine aF (uR (mF ob)) fun v1 hv1=>?_;subst v1;refine bF (fun c1=>?_) (fun c1=>?_)
 ·have eH:=c1;have c1:=nr c1;refine au ?_;(unfold ratesE; rw [eH]; rfl)
 ·have eH:=c1;have c1:=nr c1;have hck:checkF l_=0:=by simpa using eH
  refine aF (vX ob ob ob) fun v2 hv2=>?_;subst v2;refine bF (fun c2=>?_) (fun c2=>?_)
  ·have iL:=c2;have c2:=nr c2;refine au ?_;(unfold ratesE; rw [eH,iL]; rfl)
  ·have iL:=c2;have c2:=nr c2;have hgd:=good_of (fine_of hck) (show settB l_ s_=true by simpa using iL);refine aF (Nh ob) fun v3 hv3=>?_;subst v3;refine au ?_;(unfold ratesE; rw [eH,iL]; rfl)
theorem Qt {l_:List aH} {m_:List bK} (h1:l_.length≤2000000) (h2:m_.length≤2000000):W (xq l_ m_) (fun r=>r=0→checkF l_=0∧limsB l_ m_=true):=by
 unfold xq;refine aF (uR (mF h1)) fun v1 hv1=>?_;subst v1;refine wi (fun c1=>?_) (fun c1=>?_)
 ·exact au fun e=>absurd e c1
 ·refine aF (Hg h1 h2) fun v2 hv2=>?_;subst v2;refine bF (fun c2=>?_) (fun c2=>?_)
  ·exact au nofun
  ·have c2:=nr c2;exact au fun _=>⟨c1,c2⟩
theorem SV {l_:List aH} {m_:List bK} (h1:l_.length≤2000000) (h2:m_.length≤2000000) (h3:∀x∈m_,0≤x.dW∧x.dW<l_.length):W (DC l_ m_) (fun r=>r.length≤m_.length+l_.length∧∀b∈r,0≤b.Bj∧b.Bj<l_.length):=by
 unfold DC;refine bq (fun g1:Int×List gX=>0≤g1.1∧g1.1≤m_.length∧(g1.2.length:Int)≤g1.1∧∀b∈g1.2,0≤b.Bj∧b.Bj<l_.length) (fun g1=>(m_.length - g1.1).toNat) ?_ ⟨ob,ob,ob,nofun⟩;intro aj g1 ⟨a1,a2,a3,a4⟩ ih1;unfold Jz;refine wi (fun c=>?_) (fun c=>?_)
 ·refine wm ?_;refine wn ?_;refine ih1 _ ⟨ob,ob,ob,fun b hb=>?_⟩ ob;rcases List.mem_append.1 hb with h | h
  ·exact a4 b h
  ·rw [List.mem_singleton] at h; subst h;exact h3 _ (getD_in cB om)
 ·refine bq (fun g2:Int×List gX=>0≤g2.1∧g2.1≤l_.length∧(g2.2.length:Int)≤m_.length+g2.1∧∀b∈g2.2,0≤b.Bj∧b.Bj<l_.length) (fun g2=>(l_.length - g2.1).toNat) ?_ ⟨ob,ob,by dsimp only; omega,a4⟩;intro cO g2 ⟨b1,b2,b3,b4⟩ ih2;unfold Jy;refine wi (fun c2=>?_) (fun c2=>?_)
  ·refine wn ?_;refine bF (fun c3=>?_) (fun c3=>?_)
   ·refine wm ?_;refine wn ?_;refine ih2 _ ⟨ob,ob,ob,fun b hb=>?_⟩ ob;rcases List.mem_append.1 hb with h | h
    ·exact b4 b h
    ·rw [List.mem_singleton] at h; subst h;exact ⟨by dsimp only; omega,by dsimp only; omega⟩
   ·refine wn ?_;exact ih2 _ ⟨ob,ob,ob,b4⟩ ob
  ·exact au ⟨om,b4⟩
theorem Ef {b_:gX} {r_:bH}:W (j5 b_ r_) (fun _=>True):=by
 unfold j5;exact bF (fun _=>au trivial) (fun _=>aF BG fun _ _=>au trivial)
theorem Nj {k:Int} {s o:List Int} {f:Bool} (h:s.length≤2000000):W (qV k s o f) (fun r=>r.2.1=s∨r.2.1=o):=by
 unfold qV;exact bF (fun _=>aF (Kk h) fun _ e=>au (.inl e)) (fun _=>au (.inr rfl))
theorem Qu {l_:List aH} {m_:List bK} {dz:List Int} {TG:Bool} (h1:checkF l_=0) (h2:m_.length≤2000000) (h3:∀x∈m_,0≤x.dW∧x.dW<l_.length) (h4:dz.length≤16):W (xA l_ m_ dz TG) (fun r=>r.1.length≤16):=by
 have hf:=fine_of h1;have hlen:=hf.len;have hcb:∀i,i<l_.length→(l_.getD i aI).aK.length≤8:=fun i hi=>(hf.big i hi).2;unfold xA;refine aF (SV om h2 h3) fun v1 ⟨hv1,hv2⟩=>?_;refine wn ?_;refine bq (fun g1:List Int×Bool×List Int=>VS l_ g1.2.2∧g1.1.length≤16) (fun g1=>rV l_ - BK l_ g1.2.2) ?_ ⟨Vo hf,h4⟩;intro aj g1 ⟨hvs,hol⟩ ih1;obtain ⟨hsl,hsv⟩:=id hvs;have hpl:=P5 hvs;unfold En;refine aF (Ni om om (fun i hi=>by have:=hcb i hi; omega)) fun v12 Ja=>?_;have hrl:v12.1.length=l_.length:=by
  rw [Ja]; unfold ratesE; rw [h1,Vn hvs]; exact ratesN_len _ _ _
 refine bq (fun g10:Int×Int=>0≤g10.2) (fun g10=>(v1.length - g10.2).toNat) ?_ ob;intro Sc g10 a1 aa6;unfold Em;refine bF (fun c=>?_) (fun c=>?_)
 ·have c:=nr c;have hb:=hv2 _ (getD_in (i:=g10.2.toNat) w9 om);refine wm ?_;refine aF Ef fun v15 _=>?_;refine bF (fun c2=>?_) (fun c2=>?_)
  ·refine wm ?_;exact aa6 _ ob ob
  ·refine wn ?_;exact aa6 _ ob ob
 ·refine aF (Nj om) fun v16 TM=>?_;have hvl:v16.2.1.length≤16:=by rcases TM with e | e<;>rw [e]<;>omega
  refine bF (fun c2=>au hvl) (fun c2=>?_);refine wn ?_;refine bq (fun g13:Int => -1≤g13∧g13<l_.length∧∀j:Nat,g13<(j:Int)→j<l_.length→g1.2.2.getD j 0+1=(l_.getD j aI).aK.length) (fun g13=>(g13+1).toNat) ?_ ⟨ob,ob,fun j h1 h2=>by omega⟩;intro UG g13 ⟨b1,b2,b3⟩ ad6;unfold Ci;refine aM (fun e=>by have e:=nr e; omega) ?_;refine aM (fun e=>by have e:=nr e; omega) ?_;refine aM (fun e=>by have e:=nr e; have:=hcb g13.toNat om; exact ob) ?_;refine bF (fun c3=>?_) (fun c3=>?_)
  ·have c3:=nr c3;refine wn ?_;refine ad6 _ ⟨om,om,fun j h1 h2=>?_⟩ om;by_cases q:g13<(j:Int)
   ·exact b3 j q h2
   ·have e:j=g13.toNat:=by omega
    subst e; omega
  ·unfold tJ;refine bF (fun c4=>au hvl) (fun c4=>?_);have c4:=nr c4;have hg:=hsv g13.toNat om;have hc8:=hcb g13.toNat om;have hne:g1.2.2.getD g13.toNat 0+1<(l_.getD g13.toNat aI).aK.length:=by
    rw [Bool.and_eq_false_iff] at c3;rcases c3 with c3 | c3
    ·have c3:=nr c3; omega
    ·have c3:=nr c3; omega
   refine wm ?_;refine wm ?_;refine wn ?_;have hset:(g1.2.2.set g13.toNat (g1.2.2.getD g13.toNat 0+1)).length=l_.length:=by rw [List.length_set,hsl]
   have hgd:∀j:Nat,j<l_.length→(O8 (g1.2.2.set g13.toNat (g1.2.2.getD g13.toNat 0+1)) (0+(g13+1).toNat) (List.replicate (g1.2.2.length - (g13+1).toNat) 0)).getD j 0=if g13.toNat<j then 0 else if j=g13.toNat then g1.2.2.getD g13.toNat 0+1 else g1.2.2.getD j 0:=fun j hj=>by
    rw [RO 0 om,List.length_replicate,Sp.getD_set,Sp.rep_getD];by_cases q:g13.toNat<j
    ·rw [if_pos om,if_pos q]
    ·rw [if_neg om,if_neg q];by_cases q2:j=g13.toNat
     ·rw [if_pos ⟨q2,om⟩,if_pos q2]
     ·rw [if_neg (fun e=>q2 e.1),if_neg q2]
   have hn:=Vm hvs (k:=g13.toNat) (t:=O8 (g1.2.2.set g13.toNat (g1.2.2.getD g13.toNat 0+1)) (0+(g13+1).toNat) (List.replicate (g1.2.2.length - (g13+1).toNat) 0)) om (by rw [gM]; exact hset) (fun j hj=>by rw [hgd j om,if_neg om,if_neg om]) (by rw [hgd _ om,if_neg om,if_pos rfl]) (fun j h1 h2=>⟨by rw [hgd j h2,if_pos h1],b3 j om h2⟩) hne;have hp2:=P5 hn.1;exact ih1 _ ⟨hn.1,hvl⟩ (by dsimp only; omega)
theorem Qv {l_:List aH} {m_:List bK} (h1:l_.length≤2000000) (h2:m_.length≤2000000):W (xB l_ m_) (fun r=>r.1.length≤16):=by
 unfold xB;refine aF (Qt h1 h2) fun v1 hv1=>?_;refine bF (fun c1=>au (by simp)) (fun c1=>?_);have c1:=nr c1;obtain ⟨q1,q2⟩:=hv1 c1;refine aF (Qu q1 h2 (Vp q2) (by simp)) fun v2 hv2=>?_;exact bF (fun _=>au (by simp)) (fun _=>au hv2)
theorem Qw {l_:List aG} {d_:List bE} (h1:l_.length≤2000000) (h2:d_.length≤2000000):W (xD l_ d_) (fun r=>r=0→Sp.Vld l_ d_):=by
 unfold xD;refine aF (Sp.nN h1) fun v1 hv1=>?_;refine bF (fun c1=>?_) (fun c1=>?_)
 ·have c1:=nr c1;exact au fun e=>absurd e c1
 ·refine aF (Sp.Ho h1 h2) fun v2 hv2=>?_;subst v2;refine bF (fun c2=>au nofun) (fun c2=>?_);have c2:=nr c2;exact au fun _=>Sp.vld_of c2
theorem Z9 {x:Int} (h0:0≤x) (h1:x≤4000000):IntKind.i64.wrap (shrI .u64 (IntKind.u64.wrap x) (1:Int))=x / 2:=by
 have e1:IntKind.u64.wrap x=x:=Sp.wrap_u64 ⟨om,om⟩;have e2:shrI .u64 x 1=x / 2:=by
  unfold shrI;rw [show (2:Int) ^ min (1:Int).toNat IntKind.u64.bits=2 from rfl];exact Int.fdiv_eq_ediv_of_nonneg _ om
 rw [e1,e2];exact wrap_i64 ⟨om,om⟩
theorem zQ {x_:List Int} {jP:Int} (h1:x_.length≤2000000):W (slices_BinarySearch_int x_ jP) (fun r=>0≤r.1∧r.1≤x_.length):=by
 unfold slices_BinarySearch_int;refine bq (fun g3:Int×Int=>0≤g3.1∧g3.1≤g3.2∧g3.2≤x_.length) (fun g3=>(g3.2 - g3.1).toNat) ?_ ob;intro iy g3 ⟨a1,a2,a3⟩ ih;unfold nC;have hm:=Z9 (x:=g3.1+g3.2) om om;refine bF (fun c=>?_) (fun c=>?_)
 ·have c:=nr c;refine wn ?_;refine aM om ?_;rw [hm];refine aM om ?_;refine aF (P:=fun _=>True) ?_ fun v8 _=>?_
  ·unfold cmp_Less_int;refine aF (P:=fun _=>True) (au trivial) fun v1 _=>?_;exact aF (qj (P:=fun _=>True) fun _=>au trivial) fun v2 _=>au trivial
  refine bF (fun c2=>?_) (fun c2=>?_)
  ·refine aM (by unfold InI64; omega) ?_;exact ih _ ⟨by dsimp only; omega,by dsimp only; omega,by dsimp only; omega⟩ (by dsimp only; omega)
  ·exact ih _ ⟨by dsimp only; omega,by dsimp only; omega,by dsimp only; omega⟩ (by dsimp only; omega)
 ·unfold jJ;refine aM (fun e=>by have e:=nr e; omega) ?_;refine aM (fun e _=>by have e:=nr e; omega) ?_;refine aF (qj (P:=fun _=>True) fun _=>O9 (qj (P:=fun _=>True) fun _=>au trivial) fun _ _=>trivial) fun v4 _=>?_;refine aF (qj (P:=fun _=>True) fun _=>O9 (qj (P:=fun _=>True) fun _=>O9 (qj (P:=fun _=>True) fun _=>au trivial) fun _ _=>trivial) fun _ _=>trivial) fun v5 _=>?_;exact au ⟨by dsimp only; omega,by dsimp only; omega⟩
theorem Qx {s_:aG} {v_:Int} (h1:s_.bN.length≤2000000):W (DJ s_ v_) (fun r=>0≤r.1∧(r.2=true→r.1<s_.bN.length)):=
 aF (zQ h1) fun v hv=>au ⟨hv.1,fun e=>of_decide_eq_true e⟩
theorem mul_one {n:Nat} (h:n≤16):uD (IntKind.u64.wrap ((1:Nat):Int)) (IntKind.u64.wrap ((n:Nat):Int)) ((0:Int),(n:Int)):=by
 have key:∀n:Nat,n<17→M.ex 100 (uD (IntKind.u64.wrap ((1:Nat):Int)) (IntKind.u64.wrap ((n:Nat):Int)))=some ((0:Int),(n:Int)):=by decide +kernel
 exact M.WZ 100 _ _ (key n om)
theorem OA {z:fH} {n:Nat} (h:n≤16):W (jG [z] ((n:Nat):Int)) (fun r=>r.length=n):=by
 unfold jG;refine aM (by simp) ?_;unfold jY;refine aF (uR (mul_one h)) fun v1 hv1=>?_;subst hv1;refine aM (by simp; omega) ?_;unfold jX;have hw:IntKind.i64.wrap ((n:Nat):Int)=n:=wrap_i64 ⟨om,om⟩;dsimp only;rw [hw];refine wn ?_;refine bq (fun g3:Int×List fH=>0≤g3.1∧g3.1≤n∧g3.2.length=n∧(0<n→0<g3.1)) (fun g3=>(n - g3.1).toNat) ?_ ⟨by dsimp only; omega,?_,by simp [gM],fun hn=>?_⟩
 ·intro iy g3 ⟨a1,a2,a3,a4⟩ ih;unfold oG;refine bF (fun c=>?_) (fun c=>?_)
  ·have c:=nr c;have hmn:Nat.min g3.1.toNat (g3.2.length - g3.1.toNat)=min g3.1.toNat (g3.2.length - g3.1.toNat):=rfl;rw [hmn];refine aM om ?_;refine aM om ?_;refine aM (by unfold InI64; omega) ?_;exact ih _ ⟨by dsimp only; omega,by dsimp only; omega,by dsimp only; rw [gM]; exact a3,fun _=>by dsimp only; omega⟩ (by dsimp only; omega)
  ·exact au a3
 ·have:Nat.min [z].length ((n:Int).toNat)=min 1 n:=by simp
  dsimp only; rw [this]; omega
 ·have:Nat.min [z].length ((n:Int).toNat)=min 1 n:=by simp
  dsimp only; rw [this]; omega
theorem Nk {l_:List aG} {d_:List bE} (h:Sp.Vld l_ d_):W (qX l_ d_) (fun r=>r.2.1.length=l_.length):=by
 obtain ⟨vl,vd,vs,va,vx⟩:=id h;unfold qX;refine aF (OA vl) fun v1 hv1=>?_;refine wn ?_;refine bq (fun g1:Int×List fH×List Int=>0≤g1.1∧g1.2.1.length=l_.length∧g1.2.2.length=l_.length) (fun g1=>(d_.length - g1.1).toNat) ?_ ⟨ob,hv1,by simp⟩;intro aj g1 ⟨a1,a2,a3⟩ ih;unfold zY;refine bF (fun c=>?_) (fun c=>?_)
 ·have c:=nr c;have hx:=vx _ (getD_in (i:=g1.1.toNat) dD om);refine wm ?_;refine bF (fun c2=>?_) (fun c2=>?_)
  ·refine wm ?_;exact ih _ ⟨ob,by dsimp only; rw [List.length_set]; exact a2,a3⟩ ob
  ·refine wn ?_;exact ih _ ⟨ob,a2,a3⟩ ob
 ·refine aF (Sp.BI h) fun v2 hv2=>?_;have hul:v2.length=l_.length:=by rw [hv2]; exact Sp.usedF_len l_ d_
  refine aF (Sp.jO) fun v3 hv3=>?_;subst hv3;refine aM om ?_;refine Xl (fun (_:Nat) (g:List fH×List Int)=>g.1.length=v3.length∧g.2.length=v3.length) ?_ ?_ ⟨a2,a3⟩
  ·intro k2 cO g2 hk ⟨b1,b2⟩ ih2;unfold yF;have hi:v3.length - 1 - k2<v3.length:=by omega
   have hsi:=vs _ hi;refine aM om ?_;refine bF (fun c2=>ih2 _ ⟨b1,b2⟩) (fun c2=>?_);refine aM om ?_;refine aF (Qx om) fun v6 hv6=>?_;refine bF (fun c3=>au (by dsimp only; omega)) (fun c3=>?_);have c3:=nr c3;have h6:=hv6.2 c3;have hlv:=Sp.asc_get (va _ hi) v6.1.toNat om;refine aM om ?_;refine aM om ?_;refine aM (by unfold InI64; omega) ?_;refine aM (fun e=>by have e:=nr e; omega) ?_;refine bF (fun c4=>?_) (fun c4=>?_)
   ·have c4:=nr c4;refine aM om ?_;exact ih2 _ ⟨by dsimp only; rw [List.length_set]; exact b1,by dsimp only; rw [List.length_set]; exact b2⟩
   ·exact ih2 _ ⟨b1,by dsimp only; rw [List.length_set]; exact b2⟩
  ·intro g2 ⟨b1,b2⟩;unfold yE;exact au b2
theorem Qy {l_:List aG} {d_:List bE} (h1:l_.length≤2000000) (h2:d_.length≤2000000):W (xH l_ d_) (fun r=>r.1.On.length≤16∧r.1.dQ.length≤16):=by
 unfold xH;refine aF (Qw h1 h2) fun v1 hv1=>?_;refine bF (fun c1=>au ⟨by simp,by simp⟩) (fun c1=>?_);have c1:=nr c1;have hv:=hv1 c1;have hl:=hv.len;refine aF (Nk hv) fun v2 hv2=>?_;refine aF (Sp.BI hv) fun v3 hv3=>?_;have hul:v3.length=l_.length:=by rw [hv3]; exact Sp.usedF_len l_ d_
 refine aF (qj fun _=>Sp.Hq h1 h2 (by dsimp only; omega)) fun v4 _=>?_;exact bF (fun _=>au ⟨by simp,by simp⟩) (fun _=>au ⟨by dsimp only; omega,by dsimp only; omega⟩)
theorem Qz {l_:List dN} {eO:List Int} (h1:UY l_) (h2:∀g∈l_,g.dK.length≤2000000) (h3:eO.length≤100000000000) (h4:∀x∈eO,0≤x∧x<l_.length):W (xI l_ eO) (fun r=>r.length=l_.length):=by
 obtain ⟨p1,p2⟩:=h1;unfold xI;refine wn ?_;refine bq (fun g1:Int×List Bool=>0≤g1.1∧g1.2.length=l_.length) (fun g1=>(eO.length - g1.1).toNat) ?_ ⟨ob,by simp⟩;intro aj g1 ⟨a1,a2⟩ ih1;unfold Ew;refine bF (fun c=>?_) (fun c=>?_)
 ·have c:=nr c;have hx:=h4 _ (getD_in (i:=g1.1.toNat) 0 om);refine wm ?_;refine wn ?_;exact ih1 _ ⟨ob,by dsimp only; rw [List.length_set]; exact a2⟩ ob
 ·refine wn ?_;refine bq (fun g2:Int×List Bool => -1≤g2.1∧g2.1<l_.length∧g2.2.length=l_.length) (fun g2=>(g2.1+1).toNat) ?_ ⟨ob,ob,a2⟩;intro cO g2 ⟨b1,b2,b3⟩ ih2;unfold Ev;refine bF (fun c2=>?_) (fun c2=>?_)
  ·have c2:=nr c2;refine wn ?_;have hal:=h2 _ (getD_in (i:=g2.1.toNat) bV om);have haf:=p2 g2.1.toNat om;refine bq (fun g5:Int×List Bool=>0≤g5.1∧g5.2.length=l_.length) (fun g5=>((l_.getD g2.1.toNat bV).dK.length - g5.1).toNat) ?_ ⟨ob,b3⟩;intro iF g5 ⟨d1,d2⟩ ih5;unfold Cm;refine bF (fun c3=>?_) (fun c3=>?_)
   ·have c3:=nr c3;have hx:=haf _ (getD_in (i:=g5.1.toNat) 0 om);refine wm ?_;refine aM (fun _=>by omega) ?_;refine wm ?_;exact ih5 _ ⟨ob,by dsimp only; rw [List.length_set]; exact d2⟩ ob
   ·refine wn ?_;exact ih2 _ ⟨ob,ob,d2⟩ ob
  ·exact au b3
theorem QA {l_:List dN} {eO:List Int} (h2:∀g∈l_,g.dK.length≤2000000) (h3:eO.length≤100000000000):W (xJ l_ eO) (fun r=>r.1.length≤32):=by
 unfold xJ;refine aF (JM h2) fun v1 hv1=>?_;refine bF (fun c1=>au (by simp)) (fun c1=>?_);have c1:=nr c1;have hr:=hv1 c1;refine bq (fun g1:Int=>0≤g1∧g1≤eO.length∧∀j:Nat,(j:Int)<g1→0≤eO.getD j 0∧eO.getD j 0<l_.length) (fun g1=>(eO.length - g1).toNat) ?_ ⟨ob,ob,fun j hj=>by omega⟩;intro aj g1 ⟨a1,a2,a3⟩ ih1;unfold Ey;refine wi (fun c=>?_) (fun c=>?_)
 ·refine wn ?_;refine bF (fun c2=>au (by simp)) (fun c2=>?_);have c2:=nr c2;refine wn ?_;exact ih1 _ ⟨om,om,dn a3 a1 om⟩ om
 ·have hlen:=hr.len;refine aF (Qz hr h2 h3 (fU 0 fun j hj=>a3 j om)) fun v2 hv2=>?_;exact au (by dsimp only; omega)
theorem Nl {l_:List dx} {dX:List Int} (h:dX.length≤100000000000):W (qZ l_ dX) (fun r=>r=0→TP l_∧∀x∈dX,0≤x∧x<l_.length):=by
 unfold qZ;refine aF Ht fun v1 hv1=>?_;refine bF (fun c1=>au nofun) (fun c1=>?_);have c1:=nr c1;have hr:=hv1 c1;refine bq (fun g1:Int=>0≤g1∧g1≤dX.length∧∀j:Nat,(j:Int)<g1→0≤dX.getD j 0∧dX.getD j 0<l_.length) (fun g1=>(dX.length - g1).toNat) ?_ ⟨ob,ob,fun j hj=>by omega⟩;intro aj g1 ⟨a1,a2,a3⟩ ih1;unfold zZ;refine wi (fun c=>?_) (fun c=>?_)
 ·refine wn ?_;refine bF (fun c2=>au nofun) (fun c2=>?_);have c2:=nr c2;refine wn ?_;exact ih1 _ ⟨om,om,dn a3 a1 om⟩ om
 ·exact au fun _=>⟨hr,fU 0 fun j hj=>a3 j om⟩
theorem NM {s_:List Int} {v_:Int} (h1:(s_.length:Int)≤9000000000000000000):W (slices_Contains_int s_ v_) (fun _=>True):=by
 unfold slices_Contains_int slices_Index_int;refine aF (P:=fun _=>True) (O9 (Sd (P:=fun x=>v_==x) (d:=0) om) fun _ _=>trivial) fun _ _=>au trivial
theorem Ue {l_:List dx} {dX:List Int} (h:dX.length≤100000000000):W (Iz l_ dX) (fun r=>r.1.length≤16):=by
 unfold Iz;refine aF (Nl h) fun v1 hv1=>?_;refine bF (fun c1=>au (by simp)) (fun c1=>?_);have c1:=nr c1;obtain ⟨⟨p1,p2⟩,_⟩:=hv1 c1;refine wm ?_;refine bq (fun g1:Int×List Bool => -1≤g1.1∧g1.1<l_.length∧g1.2.length=l_.length) (fun g1=>(g1.1+1).toNat) ?_ ⟨ob,ob,by simp⟩;intro aj g1 ⟨a1,a2,a3⟩ ih1;unfold KP;refine bF (fun c=>?_) (fun c=>?_)
 ·have c:=nr c;have hp:=p2 g1.1.toNat om;refine wn ?_;refine aM (fun _=>by omega) ?_;refine aF (qj fun _=>NM om) fun v7 _=>?_;refine wn ?_;unfold DL;have hsl:(g1.2.set g1.1.toNat ((g1.2.getD g1.1.toNat false||(l_.getD g1.1.toNat dR).fI)||v7)).length=l_.length:=by rw [List.length_set]; exact a3
  refine aM om ?_;refine aM (fun _=>by omega) ?_;refine bF (fun c2=>?_) (fun c2=>?_)
  ·have c2:=nr c2;refine wn ?_;refine aM om ?_;refine wn ?_;exact ih1 _ ⟨ob,ob,by dsimp only; rw [List.length_set]; exact hsl⟩ ob
  ·refine wn ?_;exact ih1 _ ⟨ob,ob,hsl⟩ ob
 ·exact au (by dsimp only; omega)
def nmH (b:bf) (u:aS):ByteArray:=(b.aP.av.getD u.jE.bU.toNat ay).ak.getD u.jE.fJ.toNat ByteArray.empty
theorem uP {α β:Type} (f:α→β) (l:List α) (d:α) {i:Nat} (h:i<l.length):(l.take (i+1)).map f=(l.take i).map f++[f (l.getD i d)]:=by
 rw [List.take_add_one,List.map_append,List.getElem?_eq_getElem h,List.getD_eq_getElem?_getD,List.getElem?_eq_getElem h];rfl
theorem Rn {b_:bf} {gG:List aS} {EG:List ByteArray} (h1:∀u∈gG,JL b_.aP u.jE) (h2:gG.length≤2000000) (h3:EG.length≤2000000):W (Af b_ gG EG) (fun r=>r=(gG.map (nmH b_)++EG,gG.map fun u=>u.jE.bU)):=by
 unfold Af;refine bq (fun g1:Int×List ByteArray×List Int=>0≤g1.1∧g1.1≤gG.length∧g1.2.1=(gG.take g1.1.toNat).map (nmH b_)∧g1.2.2=(gG.take g1.1.toNat).map fun u=>u.jE.bU) (fun g1=>(gG.length - g1.1).toNat) ?_ ⟨ob,ob,by simp,by simp⟩;intro aj g1 ⟨a1,a2,a3,a4⟩ ih1;have l3:g1.2.1.length=g1.1.toNat:=by rw [a3,List.length_map,List.length_take]; omega
 have l4:g1.2.2.length=g1.1.toNat:=by rw [a4,List.length_map,List.length_take]; omega
 unfold Gs;refine wi (fun c=>?_) (fun c=>?_)
 ·obtain ⟨u1,u2,u3,u4⟩:=h1 _ (getD_in (i:=g1.1.toNat) bA om);refine wn ?_;refine aM om ?_;refine aM om ?_;refine aM (by unfold big; omega) ?_;refine aM (by unfold big; omega) ?_;refine wn ?_;have e:(g1.1+1).toNat=g1.1.toNat+1:=by omega
  refine ih1 _ ⟨ob,ob,?_,?_⟩ ob
  ·dsimp only; rw [e,uP _ _ bA om,← a3]; rfl
  ·dsimp only; rw [e,uP _ _ bA om,← a4]
 ·have e:gG.take g1.1.toNat=gG:=List.take_of_length_le om;rw [e] at a3 a4;refine aM (by unfold big; omega) ?_;exact au (by rw [a3,a4])
def Ro (g:bR) (f:ByteArray):Int:=Py g.ak fun x=>f.toList==x.toList
theorem sj {s_:List ByteArray} {v_:ByteArray} (h:(s_.length:Int)≤9223372036854775807):W (slices_Index_string s_ v_) (fun r=>r=Py s_ fun x=>v_.toList==x.toList):=by
 unfold slices_Index_string;exact Sd (P:=fun x:ByteArray=>v_.toList==x.toList) (d:=ByteArray.empty) h
theorem zR {s_:List ByteArray} {v_:ByteArray} (h:(s_.length:Int)≤9223372036854775807):W (slices_Contains_string s_ v_) (fun r=>r=decide (0≤Py s_ fun x=>v_.toList==x.toList)):=
 aF (sj h) fun v hv=>au (by rw [hv])
theorem Bg {g_:bR} {dU:ByteArray} (h:(g_.ak.length:Int)≤9223372036854775807):W (nM g_ dU) (fun r=>r=Ro g_ dU):=by
 unfold nM;refine O9 (Sd (l:=g_.ak) (P:=fun x:ByteArray=>x.toList==dU.toList) (d:=ByteArray.empty) h) fun r hr=>?_;rw [hr]; unfold Ro;congr 1;funext x;exact Bool.eq_iff_iff.2 ⟨fun q=>by simp only [beq_iff_eq] at q ⊢; exact q.symm,fun q=>by simp only [beq_iff_eq] at q ⊢; exact q.symm⟩
def wG (p:aX) (f:ByteArray) (n:Nat):List Int:=((List.range n).filter fun i=>decide (0≤Ro (p.av.getD i ay) f)).map fun i=>((i:Nat):Int)
theorem RX (p:aX) (f:ByteArray) (n:Nat):wG p f (n+1)=wG p f n++(if decide (0≤Ro (p.av.getD n ay) f) then [((n:Nat):Int)] else []):=by
 unfold wG;rw [List.range_succ,List.filter_append,List.map_append];congr 1;cases h:decide (0≤Ro (p.av.getD n ay) f) with
 | true=>simp only [List.filter_cons,List.filter_nil,h,if_true,List.map_cons,List.map_nil]
 | false=>simp only [List.filter_cons,List.filter_nil,h,Bool.false_eq_true,if_false,List.map_nil]
theorem Ir {p:aX} {f:ByteArray} {n:Nat} {x:Int} (h:x∈wG p f n):0≤x∧x<n∧0≤Ro (p.av.getD x.toNat ay) f:=by
 unfold wG at h;obtain ⟨i,hi,rfl⟩:=List.mem_map.1 h;rw [List.mem_filter,List.mem_range] at hi;exact ⟨om,om,by simpa using hi.2⟩
theorem Iu (p:aX) (f:ByteArray) (n:Nat):(wG p f n).length≤n:=by
 unfold wG;rw [List.length_map];exact Nat.le_trans (List.length_filter_le _ _) (by simp)
def Vw (p:aX):Prop:=∀g∈p.av,g.bG.length≤2000000∧g.ak.length≤2000000
theorem Rp {p_:aX} {f_:ByteArray} (h1:Vw p_) (h2:oM p_ 0) (h3:p_.av.length≤24):W (Ag p_ f_) (fun r=>r=wG p_ f_ p_.av.length):=by
 unfold Ag;refine aF (uN h1) fun v1 hv1=>?_;have e1:v1=0:=oM.fun _ _ hv1 h2;subst e1;refine bF (fun c1=>by cases c1) (fun c1=>?_);refine bq (fun g1:Int×List Int=>0≤g1.1∧g1.1≤p_.av.length∧g1.2=wG p_ f_ g1.1.toNat) (fun g1=>(p_.av.length - g1.1).toNat) ?_ ⟨ob,ob,rfl⟩;intro aj g1 ⟨a1,a2,a3⟩ ih1;have hl:=Iu p_ f_ g1.1.toNat;rw [← a3] at hl;unfold Gt;refine wi (fun c=>?_) (fun c=>?_)
 ·have hfl:=(h1 _ (getD_in (i:=g1.1.toNat) ay om)).2;have e:(g1.1+1).toNat=g1.1.toNat+1:=by omega
  refine wn ?_;refine aF (zR om) fun v4 hv4=>?_;have hs:=RX p_ f_ g1.1.toNat;refine bF (fun c2=>?_) (fun c2=>?_)
  ·rw [c2] at hv4;refine aM (by unfold big; omega) ?_;refine wn ?_;refine ih1 _ ⟨ob,ob,?_⟩ ob;dsimp only;rw [e,hs,← a3,if_pos (by unfold Ro; exact hv4.symm)];congr 2;omega
  ·rw [c2] at hv4;refine wn ?_;refine ih1 _ ⟨ob,ob,?_⟩ ob;dsimp only;rw [e,hs,← a3,if_neg (by unfold Ro; rw [← hv4]; simp),List.append_nil]
 ·exact au (by rw [a3]; congr 1; omega)
def orF (a:Int) (k:Int):Int:=Wm .u64 a (Ul .u64 (1:Int) k)
def NP (g:bR):Int:=g.bG.foldl orF 0
def Nn (ms:List Int) (gs:List Int):Int:=gs.foldl (fun a g=>Wm .u64 a (ms.getD g.toNat 0)) 0
theorem FH {α β:Type} (f:β→α→β) (b:β) (l:List α) (d:α) {i:Nat} (h:i<l.length):(l.take (i+1)).foldl f b=f ((l.take i).foldl f b) (l.getD i d):=by
 rw [List.take_add_one,List.foldl_append,List.getElem?_eq_getElem h,List.getD_eq_getElem?_getD,List.getElem?_eq_getElem h];rfl
structure PB (p:aX) (l:List ByteArray) (given:List Int) (x:dJ):Prop where
 pa:oM p 0
 ll:l.length≤10
 op:x.eu=l.map fun f=>wG p f p.av.length
 ms:x.oI=p.av.map NP
 gv:x.jV=given
 gl:given.length≤l.length
 tk:x.tu=Nn x.oI given
 gm:∀i:Nat,i<given.length→given.getD i 0∈x.eu.getD i []
theorem OB {p_:aX} {l_:List ByteArray} {dZ:List Int} (h1:Vw p_) (h2:l_.length≤2000000) (h3:dZ.length≤2000000):W (uE p_ l_ dZ) (fun r=>r.2=0→PB p_ l_ dZ r.1):=by
 unfold uE;refine aF (uN h1) fun v1 hv1=>?_;refine aF (qj (P:=fun _=>True) fun _=>?_) fun v2 _=>?_
 ·unfold jM;refine aF (P:=fun _=>True) ?_ fun v _=>au trivial;unfold kP;refine bq (fun g1:Int=>0≤g1) (fun g1=>(l_.length - g1).toNat) ?_ (Int.le_refl _);intro aj g1 a1 ih1;unfold nG;refine bF (fun c=>?_) (fun c=>au trivial);have c:=nr c;refine wn ?_;refine aF (P:=fun _=>True) (aF AO fun _ _=>au trivial) fun v3 _=>?_;exact bF (fun _=>au trivial) (fun _=>aM ob (ih1 _ om om))
 refine bF (fun c1=>au nofun) (fun c1=>?_);simp only [Bool.or_eq_false_iff] at c1;obtain ⟨⟨c1,c2⟩,c3⟩:=c1;have c1:=nr c1; have c2:=nr c2;rw [c1] at hv1;have hgl:p_.av.length≤24:=by
  have:=(oM.v hv1).ok.gl;omega
 refine bq (fun g1:Int×List (List Int)=>0≤g1.1∧g1.1≤l_.length∧g1.2=(l_.take g1.1.toNat).map fun f=>wG p_ f p_.av.length) (fun g1=>(l_.length - g1.1).toNat) ?_ ⟨ob,ob,by simp⟩;intro aj g1 ⟨a1,a2,a3⟩ ih1;have l1:g1.2.length=g1.1.toNat:=by rw [a3,List.length_map,List.length_take]; omega
 unfold Co;refine bF (fun c=>?_) (fun c=>?_)
 ·have c:=nr c;refine wn ?_;refine aF (aF (Rp h1 hv1 hgl) fun v h=>au h) fun v5 hv5=>?_;refine aM (by unfold big; omega) ?_;refine wn ?_;refine ih1 _ ⟨ob,ob,?_⟩ ob;dsimp only;rw [show (g1.1+1).toNat=g1.1.toNat+1 by omega,uP _ _ ByteArray.empty om,← a3,hv5]
 have c:=nr c;have e1:g1.2=l_.map fun f=>wG p_ f p_.av.length:=by rw [a3,List.take_of_length_le om]
 refine bq (fun g2:Int×List Int=>0≤g2.1∧g2.1≤p_.av.length∧g2.2=(p_.av.take g2.1.toNat).map NP) (fun g2=>(p_.av.length - g2.1).toNat) ?_ ⟨ob,ob,by simp⟩;intro cO g2 ⟨b1,b2,b3⟩ ih2;have l2:g2.2.length=g2.1.toNat:=by rw [b3,List.length_map,List.length_take]; omega
 unfold Aj;refine bF (fun c4=>?_) (fun c4=>?_)
 ·have c4:=nr c4;refine wn ?_;have hpl:=(h1 _ (getD_in (i:=g2.1.toNat) ay om)).1;have hpn:=((oM.v hv1).ok.gr _ (getD_in (i:=g2.1.toNat) ay om)).pn;refine bq (fun g5:Int×Int=>0≤g5.2∧g5.2≤(p_.av.getD g2.1.toNat ay).bG.length∧g5.1=((p_.av.getD g2.1.toNat ay).bG.take g5.2.toNat).foldl orF 0) (fun g5=>((p_.av.getD g2.1.toNat ay).bG.length - g5.2).toNat) ?_ ⟨ob,ob,by simp⟩;intro iF g5 ⟨d1,d2,d3⟩ ih5;unfold Ah;refine wi (fun c5=>?_) (fun c5=>?_)
  ·have hx:=hpn _ (getD_in (i:=g5.2.toNat) 0 om);refine wn ?_;refine aM om ?_;refine wn ?_;refine ih5 _ ⟨ob,ob,?_⟩ ob;dsimp only;rw [show (g5.2+1).toNat=g5.2.toNat+1 by omega,FH _ _ _ 0 om,← d3];rfl
  ·refine aM (by unfold big; omega) ?_;refine wn ?_;refine ih2 _ ⟨ob,ob,?_⟩ ob;dsimp only;rw [show (g2.1+1).toNat=g2.1.toNat+1 by omega,uP _ _ ay om,← b3,d3,List.take_of_length_le om];rfl
 have c4:=nr c4;have e2:g2.2=p_.av.map NP:=by rw [b3,List.take_of_length_le om]
 refine bF (fun c6=>au nofun) (fun c6=>?_);have c6:=nr c6;refine bq (fun g6:Int×Int=>0≤g6.1∧g6.1≤dZ.length∧g6.2=Nn g2.2 (dZ.take g6.1.toNat)∧∀j:Nat,(j:Int)<g6.1→dZ.getD j 0∈g1.2.getD j []) (fun g6=>(dZ.length - g6.1).toNat) ?_ ⟨ob,ob,by simp [Nn],fun j hj=>by dsimp only at hj; omega⟩;intro gU g6 ⟨f1,f2,f3,f4⟩ ih6;unfold Ai;refine wi (fun c7=>?_) (fun c7=>?_)
 ·refine wn ?_;refine aM om ?_;have hov:g1.2.getD g6.1.toNat []=wG p_ (l_.getD g6.1.toNat ByteArray.empty) p_.av.length:=by
   rw [e1,List.getD_eq_getElem?_getD,List.getElem?_map,List.getElem?_eq_getElem om,List.getD_eq_getElem?_getD,List.getElem?_eq_getElem om];rfl
  have hol:=Iu p_ (l_.getD g6.1.toNat ByteArray.empty) p_.av.length;rw [← hov] at hol;refine aF (uR (iR om)) fun v8 BH=>?_;have hin:(!v8)=false→dZ.getD g6.1.toNat 0∈g1.2.getD g6.1.toNat []:=fun e=>by
   rw [BH] at e;simpa using e
  have hb:(!v8)=false→0≤dZ.getD g6.1.toNat 0∧dZ.getD g6.1.toNat 0<(g2.2.length:Int):=fun e=>by
   have:=hin e;rw [hov] at this;have:=Ir this;omega
  refine aM hb ?_;refine bF (fun c8=>au nofun) (fun c8=>?_);rw [Bool.or_eq_false_iff] at c8;refine aM (hb c8.1) ?_;refine wn ?_;refine ih6 _ ⟨ob,ob,?_,dn f4 f1 (hin c8.1)⟩ ob;dsimp only;rw [show (g6.1+1).toNat=g6.1.toNat+1 by omega];unfold Nn;rw [FH _ _ _ 0 om,f3];rfl
 ·refine au fun _=>⟨hv1,om,e1,e2,rfl,om,?_,fun i hi=>f4 i om⟩;dsimp only;rw [f3,List.take_of_length_le om]
theorem aac {σ R:Type} {F:(σ→M R)→σ→M R} {Q:σ→R→Prop} (inv:σ→Prop) (μ:σ→Nat) (h:∀(self:σ→M R) (s:σ),inv s→(∀s',inv s'→μ s'<μ s→W (self s') (Q s'))→W (F self s) (Q s)) {s:σ} (hs:inv s):W (bW F s) (Q s):=by
 have key:∀n s,inv s→μ s<n→W (Wj F n s) (Q s):=by
  intro n;induction n with
  | zero=>intro s _ h; exact absurd h (Nat.not_lt_zero _)
  | succ n ih=>intro s hs hn; exact h _ s hs fun s' h1 h2=>ih s' h1 om
 obtain ⟨r,h1,h2⟩:=key (μ s+1) s hs (Nat.lt_succ_self _);exact ⟨r,⟨_,h1⟩,h2⟩
def Vx (x:dJ) (ch:List Int) (n:Nat):List Int:=x.eu.getD (ch.getD n 0).toNat []
structure YP (x:dJ) (ch:List Int) (taken:Int) (gs row:List Int):Prop where
 len:row.length=ch.length
 pre:row.take gs.length=gs
 mem:∀i:Nat,gs.length≤i→i<ch.length→row.getD i 0∈Vx x ch i
 lst:gs.length+1=ch.length→∃j:Nat,j<(Vx x ch gs.length).length∧(Vx x ch gs.length).getD j 0=row.getD gs.length 0∧∀i:Nat,i<j→andI .u64 taken (x.oI.getD ((Vx x ch gs.length).getD i 0).toNat 0)≠0
abbrev FSt:=Int×List Int×dJ×List Int
abbrev FR:=Bool×Nat×List Int×dJ×List Int
def FQ (s:FSt) (r:FR):Prop:=r.2.2.1=s.2.1∧r.2.2.2.1=s.2.2.1∧r.2.1≤r.2.2.2.2.length∧
 (r.1=true→YP s.2.2.1 s.2.1 s.1 s.2.2.2 (r.2.2.2.2.take r.2.1))∧(r.1=false→r.2.1=s.2.2.2.length∧r.2.2.2.2.take r.2.1=s.2.2.2∧s.2.2.2.length<s.2.1.length)
theorem zS {t0:Int} {ch:List Int} {x:dJ} (h1:ch.length≤2000000) (h2:∀d∈ch,0≤d∧d<x.eu.length) (h3:∀o∈x.eu,o.length≤2000000∧∀k∈o,0≤k∧k<x.oI.length):W (jv t0 ch x []) (fun r=>FQ (t0,ch,x,[]) r):=by
 unfold jv;refine aac (Q:=FQ) (fun s:FSt=>s.2.1=ch∧s.2.2.1=x∧s.2.2.2.length≤ch.length) (fun s=>ch.length - s.2.2.2.length) ?_ ⟨rfl,rfl,Nat.zero_le _⟩;rintro self ⟨tk,c,y,gs⟩ ⟨e1,e2,e3⟩ ih;dsimp only at e1 e2 e3;subst c y;unfold fZ;refine bF (fun c1=>?_) (fun c1=>?_)
 ·have c1:=nr c1;have hs:YP x ch tk gs (gs.take gs.length):=by
   rw [List.take_length];exact ⟨om,List.take_length,fun i hi hj=>absurd hi om,fun hl=>absurd hl om⟩
  exact au ⟨rfl,rfl,Nat.le_refl _,fun _=>hs,nofun⟩
 have c1:=nr c1;dsimp only at c1 ⊢;have hlt:gs.length<ch.length:=by omega
 have hd:=h2 _ (getD_in (i:=gs.length) 0 hlt);have hid:((gs.length:Int)).toNat=gs.length:=by omega
 refine aM om ?_;rw [hid];refine aM hd ?_;have hop:Vx x ch gs.length=x.eu.getD (ch.getD gs.length 0).toNat []:=rfl;obtain ⟨hol,hom⟩:=h3 (Vx x ch gs.length) (getD_in [] om);refine bq (fun g1:Int×Nat×List Int×List (List Int)×List Int×List Int×Int×List Int=>0≤g1.1∧g1.2.1=gs.length∧g1.2.2.1=ch∧(⟨g1.2.2.2.1,g1.2.2.2.2.1,g1.2.2.2.2.2.1,g1.2.2.2.2.2.2.1⟩:dJ)=x∧g1.2.1≤g1.2.2.2.2.2.2.2.length∧g1.2.2.2.2.2.2.2.take g1.2.1=gs∧(gs.length+1=ch.length→∀i:Nat,(i:Int)<g1.1→andI .u64 tk (x.oI.getD ((Vx x ch gs.length).getD i 0).toNat 0)≠0)) (fun g1=>((Vx x ch gs.length).length - g1.1).toNat) ?_ ⟨ob,rfl,rfl,rfl,ob,by dsimp only; exact List.take_length,fun _ i hi=>by dsimp only at hi; omega⟩;rintro aj ⟨ix,cnt,c,op,ms,gv,tn,row⟩ ⟨a1,a2,a3,a4,a5,a6,a7⟩ ih1;dsimp only at a1 a2 a3 a4 a5 a6 a7;subst a2 a3;have am:ms=x.oI:=by rw [← a4]
 unfold nH;dsimp only;rw [hid,← hop];refine aM a5 ?_;refine wi (fun c2=>?_) (fun c2=>?_)
 ·have hg:=hom _ (getD_in (i:=ix.toNat) 0 om);refine aM om ?_;refine aM (by rw [am]; omega) ?_;refine wi (fun c3=>?_) (fun c3=>?_)
  ·refine wn ?_;refine ih1 _ ⟨ob,rfl,rfl,a4,a5,a6,fun hl=>dn (a7 hl) a1 (by rw [← am]; exact c3)⟩ ob
  ·refine aM (by unfold big; omega) ?_;unfold jN;dsimp only;rw [hid,← hop];rw [a6,a4];refine aM (by rw [am]; omega) ?_;refine aF (ih (_,c,x,gs++[(Vx x c gs.length).getD ix.toNat 0]) ⟨rfl,rfl,by (rw [List.length_append,List.length_singleton]; omega)⟩ (by (dsimp only; rw [List.length_append,List.length_singleton]; omega))) fun v3 hv3=>?_;obtain ⟨q1,q2,q3,q4,q5⟩:=hv3;dsimp only at q1 q2 q4 q5;refine aM q3 ?_;refine bF (fun c4=>?_) (fun c4=>?_)
   ·have hjx:ix.toNat<(Vx x c gs.length).length:=by omega
    obtain ⟨s1,s2,s3,s4⟩:=q4 c4;rw [List.length_append,List.length_singleton] at s2 s3 s4;have hpre:(v3.2.2.2.2.take v3.2.1).take gs.length=gs:=by
     have:=congrArg (List.take gs.length) s2;rw [List.take_take,Nat.min_eq_left om,List.take_append_of_le_length (Nat.le_refl _),List.take_length] at this;exact this
    have hat:(v3.2.2.2.2.take v3.2.1).getD gs.length 0=(Vx x c gs.length).getD ix.toNat 0:=by
     have this:((v3.2.2.2.2.take v3.2.1).take (gs.length+1)).getD gs.length 0=(gs++[(Vx x c gs.length).getD ix.toNat 0]).getD gs.length 0:=by rw [s2]
     rw [IQ _ _ _ _ om] at this;rw [this,List.getD_eq_getElem?_getD,List.getElem?_append_right (Nat.le_refl _),Nat.sub_self];rfl
    refine au ⟨q1,q2,q3,fun _=>⟨s1,hpre,fun i hi hj=>?_,fun hl=>?_⟩,nofun⟩
    ·rcases Nat.eq_or_lt_of_le hi with e | e
     ·rw [← e,hat];exact getD_in 0 om
     ·exact s3 i e hj
    ·exact ⟨ix.toNat,hjx,hat.symm,fun i hi=>a7 hl i om⟩
   ·obtain ⟨p1,p2,p3⟩:=q5 c4;have p1:v3.2.1=gs.length+1:=by rw [p1,List.length_append]; rfl
    have p3:gs.length+1<c.length:=by rw [List.length_append] at p3; exact p3
    clear q4 q5;have hcnt:(((v3.2.1:Nat):Int) - 1).toNat=gs.length:=by omega
    refine aM (by unfold InI64; omega) ?_;refine aM om ?_;refine wn ?_;refine ih1 _ ⟨ob,hcnt,q1,?_,by dsimp only; omega,?_,fun hl=>?_⟩ ob
    ·dsimp only; rw [q2]
    ·dsimp only;rw [hcnt];have:=congrArg (List.take gs.length) p2;rw [List.take_take,Nat.min_eq_left om,List.take_append_of_le_length (Nat.le_refl _),List.take_length] at this;exact this
    ·omega
 ·exact au ⟨rfl,a4,a5,nofun,fun _=>⟨rfl,a6,hlt⟩⟩
structure Zc (x:dJ) (r:List Int):Prop where
 len:r.length=x.eu.length - x.jV.length
 at_:∀j:Nat,j<r.length→r.getD j 0=((x.jV.length+j:Nat):Int)
theorem IY {α:Type} (d:α) (l:List α) (v:α) (j:Nat):(l++[v]).getD j d=if j=l.length then v else l.getD j d:=by
 by_cases h:j<l.length
 ·rw [if_neg om,List.getD_eq_getElem?_getD,List.getElem?_append_left h,← List.getD_eq_getElem?_getD]
 ·by_cases e:j=l.length
  ·rw [if_pos e,List.getD_eq_getElem?_getD,List.getElem?_append_right om,e,Nat.sub_self]; rfl
  ·rw [if_neg e,List.getD_eq_getElem?_getD,List.getElem?_eq_none (by rw [List.length_append]; simp; omega),List.getD_eq_getElem?_getD,List.getElem?_eq_none om]
theorem Eh {x_:dJ} (h1:x_.eu.length≤2000000) (h2:x_.jV.length≤2000000):W (kg x_) (Zc x_):=by
 unfold kg;refine bq (fun g1:Int×List Int=>(x_.jV.length:Int)≤g1.1∧(g1.2.length:Int)=g1.1 - x_.jV.length∧(x_.jV.length<g1.1→g1.1≤x_.eu.length)∧∀j:Nat,j<g1.2.length→g1.2.getD j 0=((x_.jV.length+j:Nat):Int)) (fun g1=>(x_.eu.length - g1.1).toNat) ?_ ⟨ob,by dsimp only; simp,fun h=>by dsimp only at h; omega,fun j hj=>by simp at hj⟩;intro aj g1 ⟨a1,a2,a4,a3⟩ ih1;unfold qy;refine wi (fun c=>?_) (fun c=>?_)
 ·refine aM (by unfold big; omega) ?_;refine aM (by unfold InI64; omega) ?_;refine ih1 _ ⟨by dsimp only; omega,by dsimp only; rw [List.length_append,List.length_singleton]; omega,fun _=>by dsimp only; omega,fun j hj=>?_⟩ (by dsimp only; omega);dsimp only at hj ⊢;rw [List.length_append,List.length_singleton] at hj;rw [IY];by_cases e:j=g1.2.length
  ·rw [if_pos e]; omega
  ·rw [if_neg e]; exact a3 j om
 ·exact au ⟨om,a3⟩
theorem Dq {ch:List Int} {x:dJ} (h1:ch.length≤2000000) (h2:∀d∈ch,0≤d∧d<x.eu.length) (h3:∀o∈x.eu,o.length≤2000000∧∀k∈o,0≤k∧k<x.oI.length):W (jR x ch) (fun r=>r.2=true→YP x ch x.tu [] r.1):=by
 unfold jR;refine aM (by unfold big; omega) ?_;refine aF (zS h1 h2 h3) fun v1 hv1=>?_;obtain ⟨_,_,q3,q4,_⟩:=hv1;refine aM q3 ?_;exact au fun e=>q4 e
theorem Rq {n:Int} (h0:0≤n) (h1:n≤4000000):W (lT n) (fun r=>r.1=0):=by
 unfold lT;refine aM (by simp; omega) ?_;unfold mI;refine aM (by unfold InI64; omega) ?_;refine aM (by unfold InI64; omega) ?_;refine bF (fun c=>?_) (fun _=>au rfl);have c:=nr c;refine aM om ?_;refine aM (by unfold big; omega) ?_;refine aM om ?_;exact au rfl
theorem OC {a b:List Int} (h1:a.length≤2000000) (h2:b.length≤2000000):W (mQ [a,b]) (fun r=>r=a++b):=by
 unfold mQ;have g0:([a,b]:List (List Int)).getD 0 []=a:=rfl;have g1:([a,b]:List (List Int)).getD 1 []=b:=rfl;refine bq (fun g:Int×Int=>(g.1=0∧g.2=0)∨(g.1=a.length∧g.2=1)∨(g.1=a.length+b.length∧g.2=2)) (fun g=>(2 - g.2).toNat) ?_ (.inl ⟨rfl,rfl⟩);rintro self ⟨n,i⟩ hi ih;dsimp only at hi;unfold uX;refine bF (fun c=>?_) (fun c=>?_)
 ·have c:=nr c;simp only [List.length_cons,List.length_nil] at c;dsimp only;rcases hi with ⟨rfl,rfl⟩ | ⟨rfl,rfl⟩ | ⟨rfl,rfl⟩
  ·rw [show (0:Int).toNat=0 from rfl,g0];refine aM (by simp) ?_;refine aM (by unfold InI64; omega) ?_;refine aM (by first | (simp; done) | (simp; omega)) ?_;refine aM (by unfold InI64; omega) ?_;exact ih _ (.inr (.inl ⟨by dsimp only; omega,rfl⟩)) (by dsimp only; omega)
  ·rw [show (1:Int).toNat=1 from rfl,g1];refine aM (by simp) ?_;refine aM (by unfold InI64; omega) ?_;refine aM (by simp; omega) ?_;refine aM (by unfold InI64; omega) ?_;exact ih _ (.inr (.inr ⟨by dsimp only,rfl⟩)) (by dsimp only; omega)
  ·omega
 ·refine aF (Rq (by dsimp only; omega) (by dsimp only; omega)) fun v1 hv1=>?_;refine aM om ?_;rw [hv1];refine bq (fun g:Nat×Int×List Int=>g.1≤g.2.2.length∧((g.2.1=0∧g.2.2.take g.1=[]∧g.1=0)∨(g.2.1=1∧g.2.2.take g.1=a∧g.1=a.length)∨(g.2.1=2∧g.2.2.take g.1=a++b))) (fun g=>(2 - g.2.1).toNat) ?_ ⟨Nat.zero_le _,.inl ⟨rfl,by simp,rfl⟩⟩;rintro cO ⟨k,j,row⟩ ⟨hk,hj⟩ ih2;dsimp only at hk hj;unfold sP;refine aM hk ?_;refine wi (fun c2=>?_) (fun c2=>?_)
  ·simp only [List.length_cons,List.length_nil] at c2;dsimp only;rcases hj with ⟨rfl,e,e2⟩ | ⟨rfl,e,e2⟩ | ⟨rfl,e⟩
   ·rw [show (0:Int).toNat=0 from rfl,g0];refine aM (by simp) ?_;refine aM (by unfold big; omega) ?_;refine aM (by unfold InI64; omega) ?_;refine ih2 _ ⟨by dsimp only; rw [List.length_append,List.length_take]; omega,.inr (.inl ⟨rfl,?_,by dsimp only; omega⟩)⟩ (by dsimp only; omega);dsimp only;rw [e,List.nil_append,e2,Nat.zero_add,List.take_length]
   ·rw [show (1:Int).toNat=1 from rfl,g1];refine aM (by simp) ?_;refine aM (by unfold big; omega) ?_;refine aM (by unfold InI64; omega) ?_;refine ih2 _ ⟨by dsimp only; rw [List.length_append,List.length_take]; omega,.inr (.inr ⟨rfl,?_⟩)⟩ (by dsimp only; omega);dsimp only;rw [e,List.take_of_length_le (by rw [List.length_append]; omega)]
   ·omega
  ·simp only [List.length_cons,List.length_nil] at c2;dsimp only at c2 ⊢;rcases hj with ⟨rfl,e,e2⟩ | ⟨rfl,e,e2⟩ | ⟨rfl,e⟩
   ·omega
   ·omega
   ·exact au e
theorem PB.opl {p:aX} {l:List ByteArray} {given:List Int} {x:dJ} (h:PB p l given x):x.eu.length=l.length:=by rw [h.op,List.length_map]
theorem PB.opg {p:aX} {l:List ByteArray} {given:List Int} {x:dJ} (h:PB p l given x) {i:Nat} (hi:i<l.length):x.eu.getD i []=wG p (l.getD i ByteArray.empty) p.av.length:=by
 rw [h.op,List.getD_eq_getElem?_getD,List.getElem?_map,List.getElem?_eq_getElem hi,List.getD_eq_getElem?_getD,List.getElem?_eq_getElem hi];rfl
theorem Np {p_:aX} {l_:List ByteArray} {dZ:List Int} (h1:Vw p_) (h2:l_.length≤2000000) (h3:dZ.length≤2000000):W (rA p_ l_ dZ) (fun r=>r.2=0→∃x ch t,PB p_ l_ dZ x∧Zc x ch∧r.1=dZ++t∧YP x ch x.tu [] t):=by
 unfold rA;refine aF (OB h1 h2 h3) fun v1 hv1=>?_;refine bF (fun c1=>?_) (fun c1=>?_)
 ·have c1:=nr c1;exact au fun e=>absurd e c1
 have c1:=nr c1;have hp:=hv1 c1;have hol:=hp.opl;have hll:=hp.ll;have hgl:=hp.gl;have hgv:v1.1.jV.length=dZ.length:=by rw [hp.gv]
 refine aF (Eh om om) fun v2 hv2=>?_;obtain ⟨o1,o2⟩:=id hv2;have afs:=(oM.v hp.pa).ok.gl;refine aF (Dq om (fU 0 fun j hj=>by rw [o2 j hj]; omega) (fU [] fun j hj=>?_)) fun v3 hv3=>?_
 ·rw [hp.opg om];refine ⟨Nat.le_trans (Iu _ _ _) om,fun k hk=>?_⟩;have:=Ir hk;rw [hp.ms,List.length_map];omega
 refine bF (fun c2=>au nofun) (fun c2=>?_);have c2:=nr c2;have hs:=hv3 c2;refine aF (OC h3 (by rw [hs.len]; omega)) fun v4 hv4=>?_;exact au fun _=>⟨v1.1,v2,v3.1,hp,hv2,hv4,hs⟩
theorem Dr {p:Prop} {c:Int} {A:Int→Prop} (hc:c≠0) (h:Fu p c A 0):¬p∧A 0:=by
 rcases h with ⟨_,h⟩ | h
 ·exact absurd h.symm hc
 ·exact h
theorem Vy {b:bf} {l:List aL} {ms:List Int} {g:bM} {bt:Bool} (h:X8 b l ms g bt 0):oM b.aP 0∧Oh b.aP (g.bX.map aS.jE):=by
 obtain ⟨_,h⟩:=Dr (by decide) h;obtain ⟨_,h⟩:=Dr (by decide) h;obtain ⟨_,h⟩:=Dr (by decide) h;obtain ⟨_,h⟩:=Dr (by decide) h;obtain ⟨_,h⟩:=Dr (by decide) h;exact Classical.not_not.1 (Dr (by decide) h).1
theorem Rs {b_:bf} {l_:List aL} {ah:List Int} (h1:yh b_) (h2:Jd l_) (h3:ah.length≤10000):W (z8 b_ l_ ah) (fun r=>r=0→RU b_∧l_.length≤12∧∀n∈l_,TR b_ n):=by
 unfold z8;refine aF (SG h1 h2) fun v1 hv1=>?_;refine bF (fun c1=>?_) (fun c1=>?_)
 ·have c1:=nr c1;exact au fun e=>absurd e c1
 have c1:=nr c1;refine bq (fun g1:Int=>0≤g1) (fun g1=>(ah.length - g1).toNat) ?_ (Int.le_refl _);intro aj g1 a1 ih1;unfold Gj;refine bF (fun c=>?_) (fun c=>au fun _=>hv1 c1);have c:=nr c;refine wn ?_;refine aM (fun _=>by omega) ?_;refine aF (qj fun _=>NM (by rw [List.length_take]; omega)) fun v4 _=>?_;refine bF (fun _=>au nofun) (fun _=>?_);exact aM ob (ih1 _ om om)
theorem Ru {b_:bf} {l_:List aL} {ah:List Int} {g_:bM} (h1:yh b_) (h2:Vw b_.aP) (h3:Jd l_) (h4:ah.length≤10000) (h5:K6 g_):W (uW b_ l_ ah g_) (fun r=>r=true→oM b_.aP 0∧Oh b_.aP (g_.bX.map aS.jE)):=by
 unfold uW;refine aF (Oi h1 h2 h3 h4 h5) fun v1 hv1=>au fun e=>?_;have e:v1=0:=by simpa using e
 rw [e] at hv1;exact Vy hv1
theorem QB {b_:bf} {l_:List aL} {ah:List Int} {g_:bM} {aR:Int} (h1:yh b_) (h2:Vw b_.aP) (h3:Jd l_) (h4:ah.length≤10000) (h5:K6 g_):W (rz b_ l_ ah g_ aR) (fun r=>r=0→(RU b_∧l_.length≤12∧∀n∈l_,TR b_ n)∧(oM b_.aP 0∧Oh b_.aP (g_.bX.map aS.jE))∧0≤aR∧aR<l_.length):=by
 unfold rz;refine aF (Rs h1 h3 h4) fun v1 hv1=>?_;refine bF (fun c1=>?_) (fun c1=>?_)
 ·have c1:=nr c1;exact au fun e=>absurd e c1
 have c1:=nr c1;refine aF (Ru h1 h2 h3 h4 h5) fun v2 hv2=>?_;refine bF (fun c2=>au nofun) (fun c2=>?_);have c2:=nr c2;refine bF (fun c3=>au nofun) (fun c3=>?_);have c3:=nr c3;exact au fun _=>⟨hv1 c1,hv2 c2,c3.1,c3.2⟩
def KE (ms:List Int) (us:List aS):List aS:=us.filter fun u=>ms.contains u.fC
theorem Dt {α:Type} (P:α→Bool) (l:List α) (d:α) {i:Nat} (h:i<l.length):(l.take (i+1)).filter P=(l.take i).filter P++(if P (l.getD i d) then [l.getD i d] else []):=by
 rw [List.take_add_one,List.filter_append,List.getElem?_eq_getElem h,List.getD_eq_getElem?_getD,List.getElem?_eq_getElem h];congr 1;simp only [Option.toList_some,Option.getD_some,List.filter_cons,List.filter_nil]
abbrev GA:=List Int×List Bool×List Int×List Bool×List Bool×Int×Int×List aS
structure aa8 (r:GA):Prop where
 a:r.1.length≤16
 b:r.2.1.length≤16
 c:r.2.2.1.length≤16
 d:r.2.2.2.1.length≤32
 e:r.2.2.2.2.1.length≤16
theorem SX (p e:Int):aa8 ([],[],[],[],[],p,e,[]):=⟨by simp,by simp,by simp,by simp,by simp⟩
theorem Rv {b_:bf} {l_:List aL} {ah:List Int} {gG:List aS} (h1:yh b_) (h2:∀n∈l_,n.bP.length≤32∧n.d9.length≤32∧n.ak.length≤10∧n.aY.length≤2000000) (h3:ah.length≤10000) (h4:gG.length≤2000000):W (qo b_ l_ ah gG) (fun r=>aa8 r∧(r.2.2.2.2.2.2.1=0→r.2.2.2.2.2.2.2=KE ah gG)):=by
 obtain ⟨z1,z2,z3,z4,z5,z6,z7⟩:=h1;unfold qo;refine aF (Qs (fun x hx=>by have:=(h2 x hx).1; omega) h3) fun v1 _=>?_;refine aF (Rm (fun x hx=>by have:=(h2 x hx).2.1; omega) h3) fun v2 _=>?_;refine bF (fun c1=>?_) (fun c1=>?_)
 ·refine aF (L6 (fun x hx=>by have:=(h2 x hx).2.2.1; omega) h3) fun v3 _=>?_;refine bF (fun c2=>au ⟨SX _ _,nofun⟩) (fun c2=>?_);have c2:=nr c2;refine aF (Qv z1 om) fun v4 hv4=>?_;refine bF (fun c3=>au ⟨SX _ _,nofun⟩) (fun c3=>?_);refine aF (Qy z3 om) fun v5 hv5=>?_;refine bF (fun c4=>au ⟨SX _ _,nofun⟩) (fun c4=>?_);refine bq (fun g1:Int×List aS=>0≤g1.1∧g1.1≤gG.length∧g1.2=KE ah (gG.take g1.1.toNat)) (fun g1=>(gG.length - g1.1).toNat) ?_ ⟨ob,ob,rfl⟩;intro aj g1 ⟨a1,a2,a3⟩ ih1;have hl:g1.2.length≤g1.1.toNat:=by
   rw [a3]; unfold KE;exact Nat.le_trans (List.length_filter_le _ _) (by rw [List.length_take]; omega)
  unfold Ez;refine wi (fun c=>?_) (fun c=>?_)
  ·refine wn ?_;have hs:=Dt (fun u:aS=>ah.contains u.fC) gG bA (i:=g1.1.toNat) om;have e:(g1.1+1).toNat=g1.1.toNat+1:=by omega
   refine aF (uR (iR om)) fun v8 BH=>?_;refine bF (fun c2=>?_) (fun c2=>?_)
   ·rw [c2] at BH;refine aM (by unfold big; omega) ?_;refine wn ?_;refine ih1 _ ⟨ob,ob,?_⟩ ob;dsimp only;unfold KE at a3 ⊢;rw [e,hs,← a3,if_pos BH.symm]
   ·rw [c2] at BH;refine wn ?_;refine ih1 _ ⟨ob,ob,?_⟩ ob;dsimp only;unfold KE at a3 ⊢;rw [e,hs,← a3,if_neg (by rw [← BH]; exact Bool.false_ne_true),List.append_nil]
  ·refine aF (KD (fun x hx=>(h2 x hx).2.2.2) h3) fun v9 SB=>?_;refine aF (QA z6 om) fun v10 CZ=>?_;refine aF (F6 h3) fun v11 adS=>?_;refine aF (Ue om) fun v12 Ja=>?_;refine au ⟨⟨hv4,hv5.1,hv5.2,CZ,Ja⟩,fun _=>?_⟩;dsimp only;rw [a3,List.take_of_length_le om]
 ·refine aM (by revert c1; cases ((decide ((32:Int)<(v1.length:Int)))||(decide ((32:Int)<(v2.length:Int))))<;>simp) ?_;exact au ⟨SX _ _,nofun⟩
def Jv (a:Int) (x:Nat):Bool:=(BitVec.ofInt 64 a).getLsbD x
theorem aad (b:BitVec 64):BitVec.ofInt 64 (IntKind.u64.wrap ((b.toNat:Nat):Int))=b:=by
 have h:=b.isLt;rw [Sp.wrap_u64 ⟨om,om⟩,BitVec.ofInt_natCast,BitVec.ofNat_toNat];exact BitVec.setWidth_eq b
theorem Ya {a b:Int} {x:Nat} (h:Jv (Wm .u64 a b) x=true):Jv a x=true∨Jv b x=true:=by
 unfold Jv Wm at h;rw [show IntKind.u64.bits=64 from rfl,aad,BitVec.getLsbD_or,Bool.or_eq_true] at h;exact h
theorem YQ {a b:Int} (h:andI .u64 a b≠0):∃x,Jv a x=true∧Jv b x=true:=by
 apply Classical.byContradiction;intro hn;apply h;have e:BitVec.ofInt 64 a &&& BitVec.ofInt 64 b=BitVec.ofNat 64 0:=by
  apply BitVec.eq_of_getLsbD_eq;intro i _;rw [BitVec.getLsbD_and];cases ha:(BitVec.ofInt 64 a).getLsbD i with
  | false=>simp
  | true=>
   cases hb:(BitVec.ofInt 64 b).getLsbD i with
   | false=>simp
   | true=>exact absurd ⟨i,ha,hb⟩ hn
 unfold andI;rw [show IntKind.u64.bits=64 from rfl,e];rfl
theorem Uf {x:Nat} (h:Jv 0 x=true):False:=by
 unfold Jv at h;simp at h
theorem YR {k:Int} (h0:0≤k) (h1:k<64) {x:Nat} (h:Jv (Ul .u64 1 k) x=true):x=k.toNat:=by
 unfold Jv Ul at h;have hk:k.toNat<64:=by omega
 have hp:(2:Nat) ^ k.toNat<2 ^ 64:=Nat.pow_lt_pow_right om hk;have e:(1:Int)*2 ^ min k.toNat IntKind.u64.bits=((2 ^ k.toNat:Nat):Int):=by
  rw [show IntKind.u64.bits=64 from rfl,Nat.min_eq_left om,Int.one_mul];exact (Int.natCast_pow 2 k.toNat).symm
 have hw:=Sp.wrap_u64 (n:=((2 ^ k.toNat:Nat):Int)) ⟨Int.natCast_nonneg _,om⟩;rw [e,hw,BitVec.ofInt_natCast,BitVec.getLsbD_ofNat] at h;simp only [Bool.and_eq_true,Nat.testBit_two_pow,decide_eq_true_eq] at h;exact h.2.symm
theorem Yb {l:List Int} (hl:∀p∈l,0≤p∧p<64):∀ {a:Int} {x:Nat},Jv (l.foldl orF a) x=true→Jv a x=true∨∃p∈l,p.toNat=x:=by
 induction l with
 | nil=>intro a x h; exact .inl h
 | cons p l ih=>
  intro a x h;rcases ih (fun q hq=>hl q (List.mem_cons_of_mem _ hq)) h with h | ⟨q,hq,e⟩
  ·rcases Ya h with h | h
   ·exact .inl h
   ·have:=hl p (List.mem_cons_self ..);exact .inr ⟨p,List.mem_cons_self .., (YR this.1 this.2 h).symm⟩
  ·exact .inr ⟨q,List.mem_cons_of_mem _ hq,e⟩
theorem Ug {g:bR} (hl:∀p∈g.bG,0≤p∧p<64) {x:Nat} (h:Jv (NP g) x=true):∃p∈g.bG,p.toNat=x:=by
 rcases Yb hl h with h | h
 ·exact (Uf h).elim
 ·exact h
theorem Wi {ms gs:List Int}:∀ {a:Int} {x:Nat},Jv (gs.foldl (fun a g=>Wm .u64 a (ms.getD g.toNat 0)) a) x=true→Jv a x=true∨∃g∈gs,Jv (ms.getD g.toNat 0) x=true:=by
 induction gs with
 | nil=>intro a x h; exact .inl h
 | cons g gs ih=>
  intro a x h;rcases ih h with h | ⟨q,hq,e⟩
  ·rcases Ya h with h | h
   ·exact .inl h
   ·exact .inr ⟨g,List.mem_cons_self .., h⟩
  ·exact .inr ⟨q,List.mem_cons_of_mem _ hq,e⟩
theorem aae {p:aX} (hp:PO p) {given:List Int} {k:Int} (hk:0≤k∧k<p.av.length) (hg:∀g∈given,0≤g∧g<p.av.length) (h:andI .u64 (Nn (p.av.map NP) given) ((p.av.map NP).getD k.toNat 0)≠0):
  ∃g∈given,∃x,x∈(p.av.getD g.toNat ay).bG∧x∈(p.av.getD k.toNat ay).bG:=by
 obtain ⟨x,h1,h2⟩:=YQ h;have hm:∀i:Nat,i<p.av.length→(p.av.map NP).getD i 0=NP (p.av.getD i ay):=fun i hi=>by
  rw [List.getD_eq_getElem?_getD,List.getElem?_map,List.getElem?_eq_getElem hi,List.getD_eq_getElem?_getD,List.getElem?_eq_getElem hi];rfl
 have hpn:∀i:Nat,i<p.av.length→∀q∈(p.av.getD i ay).bG,0≤q∧q<64:=fun i hi q hq=>by
  have:=(hp.gr _ (getD_in (i:=i) ay hi)).pn q hq;have:=hp.pn;omega
 rw [hm _ om] at h2;obtain ⟨a,ha,ea⟩:=Ug (hpn _ om) h2;unfold Nn at h1;rcases Wi h1 with h1 | ⟨g,hgm,h1⟩
 ·exact (Uf h1).elim
 have hgb:=hg g hgm;rw [hm _ om] at h1;obtain ⟨b,hb,eb⟩:=Ug (hpn _ om) h1;have q1:=hpn _ om a ha;have q2:=hpn _ om b hb;have:a=b:=by omega
 subst this;exact ⟨g,hgm,a,hb,ha⟩
theorem Uh {p:aX} {f:ByteArray} {n:Nat} {k t:Int} {j:Nat} (hk:k∈wG p f n) (hj:j<(wG p f n).length) (ht:(wG p f n).getD j 0=t) (hlt:k<t):∃i,i<j∧(wG p f n).getD i 0=k:=by
 have hsort:∀n,(wG p f n).Pairwise (· < ·):=fun n=>by
  unfold wG;rw [List.pairwise_map];refine (List.Pairwise.filter _ (List.pairwise_lt_range (n:=n))).imp fun h=>by omega
 obtain ⟨i,hi,e⟩:=List.mem_iff_getElem.1 hk;have ei:(wG p f n).getD i 0=k:=by rw [List.getD_eq_getElem?_getD,List.getElem?_eq_getElem hi]; exact e
 refine ⟨i,?_,ei⟩;apply Classical.byContradiction;intro hn;have hji:j≤i:=by omega
 rcases Nat.eq_or_lt_of_le hji with e2 | e2
 ·subst e2; omega
 ·have:=List.pairwise_iff_getElem.1 (hsort n) j i hj hi e2;rw [List.getD_eq_getElem?_getD,List.getElem?_eq_getElem hj] at ht;simp only [Option.getD_some] at ht;omega
structure aea (b:bf) (fns:List ByteArray) (dev:Int) (old:List aS) (new:List aS):Prop where
 pa:oM b.aP 0
 len:new.length=fns.length
 bd:fns.length≤10
 at_:∀i:Nat,i<new.length→(new.getD i bA).fC=dev∧0≤(new.getD i bA).jE.bU∧(new.getD i bA).jE.bU<b.aP.av.length∧(new.getD i bA).jE.fJ=Ro (b.aP.av.getD (new.getD i bA).jE.bU.toNat ay) (fns.getD i ByteArray.empty)
 lst:fns.length=1→∀k∈wG b.aP (fns.getD 0 ByteArray.empty) b.aP.av.length,k<(new.getD 0 bA).jE.bU→
  ∃u∈old,∃x,x∈(b.aP.av.getD u.jE.bU.toNat ay).bG∧x∈(b.aP.av.getD k.toNat ay).bG
theorem getD_app_r {α:Type} (d:α) (a b:List α) (j:Nat):(a++b).getD (a.length+j) d=b.getD j d:=by
 rw [List.getD_eq_getElem?_getD,List.getElem?_append_right om,List.getD_eq_getElem?_getD,show a.length+j - a.length=j by omega]
theorem QC {b_:bf} {l_:List aL} {ah:List Int} {g_:bM} {aR:Int} (h1:yh b_) (h2:Vw b_.aP) (h3:Jd l_) (h4:ah.length≤9999) (h5:K6 g_) (h6:g_.bX.length≤1000000):W (rC b_ l_ ah g_ aR) (fun r=>r.2.2=0→∃new,r.1.bX=KE ah g_.bX++new∧aea b_ (l_.getD aR.toNat bB).ak aR (KE ah g_.bX) new):=by
 unfold rC;refine aF (QB h1 h2 h3 om h5) fun v1 hv1=>?_;refine bF (fun c1=>?_) (fun c1=>?_)
 ·have c1:=nr c1;exact au fun e=>absurd e c1
 have c1:=nr c1;obtain ⟨⟨hb,hl12,hnd⟩,⟨hpa,hown⟩,hd0,hd1⟩:=hv1 c1;refine aF (uR (iR om)) fun v2 _=>?_;refine bF (fun c2=>au nofun) (fun c2=>?_);refine bq (fun g4:Int×List aS=>0≤g4.1∧g4.1≤g_.bX.length∧g4.2=KE ah (g_.bX.take g4.1.toNat)) (fun g4=>(g_.bX.length - g4.1).toNat) ?_ ⟨ob,ob,rfl⟩;intro gL g4 ⟨a1,a2,a3⟩ ih4;have hl:g4.2.length≤g4.1.toNat:=by
  rw [a3]; unfold KE;exact Nat.le_trans (List.length_filter_le _ _) (by rw [List.length_take]; omega)
 unfold EJ;refine bF (fun c=>?_) (fun c=>?_)
 ·have c:=nr c;refine wn ?_;have hs:=Dt (fun u:aS=>ah.contains u.fC) g_.bX bA (i:=g4.1.toNat) om;have e:(g4.1+1).toNat=g4.1.toNat+1:=by omega
  refine aF (uR (iR om)) fun v8 BH=>?_;refine bF (fun c2=>?_) (fun c2=>?_)
  ·rw [c2] at BH;refine aM (by unfold big; omega) ?_;refine wn ?_;refine ih4 _ ⟨ob,ob,?_⟩ ob;dsimp only;unfold KE at a3 ⊢;rw [e,hs,← a3,if_pos BH.symm]
  ·rw [c2] at BH;refine wn ?_;refine ih4 _ ⟨ob,ob,?_⟩ ob;dsimp only;unfold KE at a3 ⊢;rw [e,hs,← a3,if_neg (by rw [← BH]; exact Bool.false_ne_true),List.append_nil]
 have c:=nr c;rw [List.take_of_length_le om] at a3;generalize hk:g4.2=kept at *;have hkl:kept.length≤g_.bX.length:=by
  rw [a3]; unfold KE; exact List.length_filter_le _ _
 have aaf:=OL hown;have hku:∀u∈kept,JL b_.aP u.jE:=fun u hu=>aaf u (by rw [a3] at hu; exact (List.mem_filter.1 hu).1);have hdn:=hnd _ (getD_in (i:=aR.toNat) bB om);generalize hfn:(l_.getD aR.toNat bB).ak=fns at *;have hfl:fns.length≤10:=by rw [← hfn]; exact hdn.fl
 unfold tQ;refine aF (mJ om) fun v6 hv6=>?_;subst hv6;refine aM (by unfold big; omega) ?_;refine aF (Rv h1 (fun n hn=>⟨(hnd n hn).ll,(hnd n hn).dl,(hnd n hn).fl,(h3.nd n hn).1⟩) (by rw [List.length_append,List.length_singleton]; omega) om) fun v7 hv7=>?_;obtain ⟨hga,hgu⟩:=hv7;refine bF (fun c3=>?_) (fun c3=>?_)
 ·have c3:=nr c3;exact au fun e=>absurd e c3
 have c3:=nr c3;have hgu:=hgu c3;have hkk:v7.2.2.2.2.2.2.2=kept:=by
  rw [hgu,a3]; unfold KE;rw [List.filter_filter];apply List.filter_congr;intro u _;cases hc:v6.contains u.fC with
  | false=>simp
  | true=>rw [Bool.and_true]; simp only [List.contains_eq_mem,List.mem_append,decide_eq_true_eq] at hc ⊢; exact .inl hc
 refine aM ⟨hd0,hd1⟩ ?_;rw [hfn];refine aF (Rn hku om om) fun v8 BH=>?_;subst BH;dsimp only;refine aF (Np h2 (by rw [List.length_append,List.length_map]; omega) (by rw [List.length_map]; omega)) fun v9 SB=>?_;refine bF (fun c4=>au nofun) (fun c4=>?_);have c4:=nr c4;obtain ⟨x,ch,t,hp,ho,ht,hs⟩:=SB c4;have hxo:x.eu.length=kept.length+fns.length:=by rw [hp.opl,List.length_append,List.length_map]
 have hxg:x.jV.length=kept.length:=by rw [hp.gv,List.length_map]
 have hcl:=ho.len;have htl:=hs.len;rw [List.length_map];refine aM ⟨om,by rw [ht,List.length_append,List.length_map]; omega⟩ ?_;have hdr:(v9.1.drop (kept.length:Int).toNat).take (v9.1.length - (kept.length:Int).toNat)=t:=by
  rw [List.take_of_length_le (by rw [List.length_drop]; omega),ht,show (kept.length:Int).toNat=(kept.map fun u=>u.jE.bU).length by rw [List.length_map]; omega,List.drop_left]
 have hvl:v9.1.length - (kept.length:Int).toNat=fns.length:=by
  rw [ht,List.length_append,List.length_map]; omega
 rw [hdr];have aa9:∀i:Nat,i<fns.length→Vx x ch i=wG b_.aP (fns.getD i ByteArray.empty) b_.aP.av.length:=fun i hi=>by
  unfold Vx;rw [ho.at_ i om,show (((x.jV.length+i:Nat):Int)).toNat=x.jV.length+i by omega,hp.opg (by rw [List.length_append,List.length_map]; omega),hxg,show kept.length+i=(kept.map (nmH b_)).length+i by rw [List.length_map],getD_app_r]
 have htm:∀i:Nat,i<fns.length→0≤t.getD i 0∧t.getD i 0<b_.aP.av.length:=fun i hi=>by
  have:=hs.mem i (Nat.zero_le _) om;rw [aa9 i hi] at this;have:=Ir this;omega
 refine bq (fun g3:List Int×Int×List aS=>g3.1=t∧0≤g3.2.1∧g3.2.1≤fns.length∧∃new,g3.2.2=kept++new∧(new.length:Int)=g3.2.1∧∀i:Nat,i<new.length→new.getD i bA=⟨aR,⟨t.getD i 0,Ro (b_.aP.av.getD (t.getD i 0).toNat ay) (fns.getD i ByteArray.empty)⟩⟩) (fun g3=>(fns.length - g3.2.1).toNat) ?_ ⟨rfl,ob,ob,[],by rw [hkk,List.append_nil],by simp,fun i hi=>by simp at hi⟩;rintro iy ⟨tt,ix,us⟩ ⟨d1,d2,d3,new,d4,d5,d6⟩ ih3;dsimp only at d1 d2 d3 d4 d5;subst d1;unfold Cq;dsimp only;rw [List.length_map,hvl];refine wi (fun c5=>?_) (fun c5=>?_)
 ·have htb:=htm ix.toNat om;refine aM om ?_;refine aM htb ?_;refine aM (by unfold InI64; omega) ?_;refine aM ⟨om,by rw [List.length_append,List.length_map]; omega⟩ ?_;have aft:=(h2 _ (getD_in (i:=(tt.getD ix.toNat 0).toNat) ay om)).2;refine aF (sj om) fun v12 Ja=>?_;have hnm:(kept.map (nmH b_)++fns).getD ((kept.length:Int)+ix).toNat ByteArray.empty=fns.getD ix.toNat ByteArray.empty:=by
   rw [show ((kept.length:Int)+ix).toNat=(kept.map (nmH b_)).length+ix.toNat by rw [List.length_map]; omega,getD_app_r]
  rw [hnm] at Ja;have hul:us.length=kept.length+new.length:=by rw [d4,List.length_append]
  refine aM (by unfold big; omega) ?_;refine aM (by unfold InI64; omega) ?_;refine ih3 _ ⟨rfl,by dsimp only; omega,by dsimp only; omega,new++[⟨aR,⟨tt.getD ix.toNat 0,v12⟩⟩],by dsimp only; rw [d4,List.append_assoc],by dsimp only; rw [List.length_append,List.length_singleton]; omega,fun i hi=>?_⟩ (by dsimp only; omega);rw [List.length_append,List.length_singleton] at hi;rw [IY];by_cases q:i=new.length
  ·rw [if_pos q,Ja,show ix.toNat=i by omega]; rfl
  ·rw [if_neg q]; exact d6 i om
 ·have hul:us.length=kept.length+new.length:=by rw [d4,List.length_append]
  refine aF (TS ⟨by have:=hga.a; dsimp only; omega,by have:=hga.b; dsimp only; omega,by have:=hga.c; dsimp only; omega,by dsimp only; omega,by have:=hga.d; dsimp only; omega,by have:=hga.e; dsimp only; omega⟩) fun v13 QM=>?_;subst QM;refine au fun _=>⟨new,by dsimp only; rw [d4,a3],hp.pa,om,hfl,fun i hi=>?_,fun h1f k hk2 hlt=>?_⟩
  ·rw [d6 i hi];have:=htm i om;exact ⟨rfl,this.1,this.2,rfl⟩
  ·rw [d6 0 om] at hlt;dsimp only at hlt;obtain ⟨j,hj,hjt,hbl⟩:=hs.lst (by simp; omega);rw [show ([]:List Int).length=0 from rfl,aa9 0 om] at hj hjt hbl;obtain ⟨i,hij,hik⟩:=Uh hk2 hj hjt hlt;have hbi:=hbl i hij;have hok:=(oM.v hp.pa).ok;rw [hik,hp.tk,hp.ms] at hbi;have hkb:=Ir hk2;obtain ⟨gg,hgm,y,hy1,hy2⟩:=aae hok ⟨hkb.1,hkb.2.1⟩ (fun gg hgm=>by
    obtain ⟨u,hu,rfl⟩:=List.mem_map.1 hgm;exact ⟨(hku u hu).g0,(hku u hu).gl⟩) hbi
   obtain ⟨u,hu,rfl⟩:=List.mem_map.1 hgm;exact ⟨u,by rw [← a3]; exact hu,y,hy1,hy2⟩
theorem Sp.RY {l:List aG} {d:List bE} (h:(Sp.leastF l d).2=0):(Sp.leastF l d).1.On.length=l.length∧(Sp.leastF l d).1.dQ.length=l.length:=by
 unfold Sp.leastF at h ⊢;cases h1:Sp.beginF l d != 0 with
 | true=>rw [h1] at h; simp at h1; exact absurd h h1
 | false=>
  rw [h1] at h;cases h2:decide (0≤(Sp.demF l d).2)||!Sp.meetsF l ⟨Sp.usedF l d,(Sp.demF l d).1.lv⟩ d with
  | true=>rw [h2] at h; cases h
  | false=>
   simp only [Bool.or_eq_false_iff,Bool.not_eq_false'] at h2;have hm:=h2.2;unfold Sp.meetsF at hm;cases h3:!Sp.railsF l ⟨Sp.usedF l d,(Sp.demF l d).1.lv⟩||!Sp.drawsF l d with
   | true=>rw [h3] at hm; cases hm
   | false=>
    simp only [Bool.or_eq_false_iff,Bool.not_eq_false'] at h3;have:=(Sp.rails_iff.1 h3.1).2;exact ⟨this.On,this.len⟩
theorem Zd {b:bf} (h:Yw b):yh b:=by
 obtain ⟨b1,b2,b3,b4,b5,b6,b7,b8,b9⟩:=h;exact ⟨om,fun i hi=>by have:=b2 _ (getD_in (i:=i) aI hi); omega,om,fun g hg=>by have:=b6 g hg; omega,om,fun g hg=>by have:=b8 g hg; omega,om⟩
theorem SY {l_:(List dx)} {dX:(List Int)} (h1:dX.length≤100000000000):W (IJ l_ dX) (fun r=>r=0→TP l_∧∀x∈dX,0≤x∧x<l_.length):=by
 unfold IJ;refine aF (Q7) fun v1 hv1=>?_;refine bF (fun c1=>?_) (fun c1=>?_)
 ·have eH:=c1;have c1:=nr c1;refine au ?_;exact ob
 ·have eH:=c1;have c1:=nr c1;refine bq (fun (g1:Int)=>0≤g1∧(∀j:Nat,(j:Int)<g1→0≤dX.getD j 0∧dX.getD j 0<l_.length)) (fun (g1:Int)=>(dX.length - g1).toNat) ?_ ?_
  ·intro aj g1 dH bL;obtain ⟨cK,bC⟩:=dH;unfold KU;refine wi (fun c2=>?_) (fun c2=>?_)
   ·refine wm ?_;refine wi (fun c3=>?_) (fun c3=>?_)
    ·refine au ?_;exact ob
    ·refine wn ?_;refine bL _ ?_ ?_
     ·(refine ⟨ob,dn bC cK om⟩)
     ·exact ob
   ·refine au ?_;(intro _; exact ⟨hv1 (by simpa using eH),fU 0 fun j hj=>bC j om⟩)
  ·(refine ⟨ob,fun j hj=>by (try dsimp only at hj); omega⟩)
theorem FI {l_:(List dN)} {eO:(List Int)} (h1:∀g∈l_,g.dK.length≤2000000) (h2:eO.length≤100000000000) (h3:l_.length≤2000000):W (rM l_ eO) (fun r=>r.1.length≤l_.length):=by
 unfold rM;refine aF (Q6 h1) fun v1 hv1=>?_;refine bF (fun c1=>?_) (fun c1=>?_)
 ·have eH:=c1;have c1:=nr c1;refine au ?_;exact ob
 ·have eH:=c1;have c1:=nr c1;obtain ⟨p1,p2⟩:=hv1 (by simpa using eH);refine wn ?_;refine bq (fun (g1:(Int×(List Bool)))=>0≤g1.1∧g1.2.length=l_.length) (fun (g1:(Int×(List Bool)))=>(eO.length - g1.1).toNat) ?_ ?_
  ·intro aj g1 dH bL;obtain ⟨cK,bC⟩:=dH;unfold EU;refine wi (fun c2=>?_) (fun c2=>?_)
   ·refine wm ?_;refine wi (fun c3=>?_) (fun c3=>?_)
    ·refine au ?_;exact ob
    ·refine wm ?_;refine wn ?_;refine bL _ ?_ ?_
     ·exact ob
     ·exact ob
   ·refine wn ?_;refine bq (fun (g2:(Int×(List Bool))) => -1≤g2.1∧g2.1<l_.length∧g2.2.length=l_.length) (fun (g2:(Int×(List Bool)))=>(g2.1+1).toNat) ?_ ?_
    ·intro cO g2 jD kC;obtain ⟨kI,gJ,lq⟩:=jD;unfold CF;refine wi (fun c4=>?_) (fun c4=>?_)
     ·have hgl:=h1 _ (getD_in (i:=g2.1.toNat) bV om);refine bq (fun (g5:(Int×(List Bool)))=>0≤g5.1∧g5.2.length=l_.length) (fun (g5:(Int×(List Bool)))=>((l_.getD g2.1.toNat bV).dK.length - g5.1).toNat) ?_ ?_
      ·intro iF g5 Kl Hu;obtain ⟨JN,AP⟩:=Kl;unfold CB;refine wm ?_;refine bF (fun c5=>?_) (fun c5=>?_)
       ·have yg:=c5;have c5:=nr c5;simp only [Bool.and_eq_true,decide_eq_true_eq] at yg;have hx:=p2 g2.1.toNat om _ (getD_in (i:=g5.1.toNat) 0 om);refine wm ?_;refine wm ?_;refine Hu _ ?_ ?_
        ·exact ob
        ·exact ob
       ·have yg:=c5;have c5:=nr c5;refine wn ?_;refine kC _ ?_ ?_
        ·exact ob
        ·exact ob
      ·exact ob
     ·refine au ?_;exact ob
    ·exact ob
  ·(refine ⟨ob,by simp⟩)
theorem NQ {l_:(List dx)} {dX:(List Int)} (h1:dX.length≤100000000000) (h3:l_.length≤2000000):W (GR l_ dX) (fun r=>r.1.length≤l_.length):=by
 unfold GR;refine aF (SY ob) fun v1 hv1=>?_;refine bF (fun c1=>?_) (fun c1=>?_)
 ·have eH:=c1;have c1:=nr c1;refine au ?_;simp
 ·have eH:=c1;have c1:=nr c1;obtain ⟨⟨p1,p2⟩,p3⟩:=hv1 (by simpa using eH);refine wn ?_;refine bq (fun (g1:(Int×(List Bool)))=>0≤g1.1∧g1.2.length=l_.length) (fun (g1:(Int×(List Bool)))=>(dX.length - g1.1).toNat) ?_ ?_
  ·intro aj g1 dH bL;obtain ⟨cK,bC⟩:=dH;unfold Ny;refine wi (fun c2=>?_) (fun c2=>?_)
   ·have hx:=p3 _ (getD_in (i:=g1.1.toNat) 0 om);refine wm ?_;refine wn ?_;refine bL _ ?_ ?_
    ·exact ob
    ·exact ob
   ·refine wn ?_;refine bq (fun (g2:(Int×(List Bool))) => -1≤g2.1∧g2.1<l_.length∧g2.2.length=l_.length) (fun (g2:(Int×(List Bool)))=>(g2.1+1).toNat) ?_ ?_
    ·intro cO g2 jD kC;obtain ⟨kI,gJ,lq⟩:=jD;unfold KV;refine wi (fun c3=>?_) (fun c3=>?_)
     ·have hp:=p2 g2.1.toNat om;refine wm ?_;refine wn ?_;unfold DX;refine wm ?_;refine wi (fun c4=>?_) (fun c4=>?_)
      ·refine wm ?_;refine wn ?_;refine kC _ ?_ ?_
       ·exact ob
       ·exact ob
      ·refine wn ?_;refine kC _ ?_ ?_
       ·exact ob
       ·exact ob
     ·refine au ?_;exact ob
    ·exact ob
  ·(refine ⟨ob,by simp⟩)
theorem OO {α:Type} {l:List aL} {ms:List Int} {f:aL→List α} {k:Nat} (hof:∀x∈l,(f x).length≤2000000) (hm:ms.length≤10000) (hk:k≤64):W (bW (fun (self:Int×List α→M (List α)) g1=>
 bif (decide (g1.1<(ms.length:Int))) then
  need (0≤g1.1∧g1.1<(ms.length:Int))<|
  bif ((decide ((0:Int)≤(ms.getD g1.1.toNat 0)))&&(decide ((ms.getD g1.1.toNat 0)<(l.length:Int)))) then
   need (0≤(ms.getD g1.1.toNat 0)∧(ms.getD g1.1.toNat 0)<(l.length:Int))<|
   need ((g1.2.length+(f (l.getD ((ms.getD g1.1.toNat 0).toNat) bB)).length)*k≤big)<|
   need (InI64 (g1.1+(1:Int)))<|
   self ((g1.1+(1:Int)),(g1.2++f (l.getD ((ms.getD g1.1.toNat 0).toNat) bB)))
  else
   need (InI64 (g1.1+(1:Int)))<|
   self ((g1.1+(1:Int)),g1.2)
 else
  ret g1.2) ((0:Int),([]:List α))) (fun r=>r.length≤2000000*ms.length):=by
 refine bq (fun g1:Int×List α=>0≤g1.1∧g1.1≤ms.length∧g1.2.length≤2000000*g1.1.toNat) (fun g1=>(ms.length - g1.1).toNat) ?_ ⟨ob,ob,by simp⟩;intro self g1 ⟨h1,h2,h3⟩ ih;refine wi (fun c=>?_) (fun c=>?_)
 ·refine wn ?_;have hs:(g1.1+1).toNat=g1.1.toNat+1:=by omega
  refine bF (fun c2=>?_) (fun c2=>?_)
  ·have c2:=nr c2;refine wn ?_;have hv:=hof _ (getD_in (i:=(ms.getD g1.1.toNat 0).toNat) bB om);have hb:(g1.2.length+(f (l.getD ((ms.getD g1.1.toNat 0).toNat) bB)).length)*k≤(g1.2.length+(f (l.getD ((ms.getD g1.1.toNat 0).toNat) bB)).length)*64:=Nat.mul_le_mul_left _ hk;refine aM (by unfold big; omega) ?_;refine wn ?_;exact ih _ ⟨ob,ob,by dsimp only; rw [List.length_append,hs]; omega⟩ ob
  ·refine wn ?_;exact ih _ ⟨ob,ob,by dsimp only; rw [hs]; omega⟩ ob
 ·have e3:g1.1.toNat=ms.length:=by omega
  rw [e3] at h3;exact au h3
theorem KF {l_:List Int} {x_:Int} (h:l_.length≤2000000):W (CG l_ x_) (fun r=>r=true→x_∈l_):=by
 unfold CG;refine bq (fun g1:Int=>0≤g1) (fun g1=>(l_.length - g1).toNat) ?_ (Int.le_refl _);intro aj g1 a1 ih1;unfold Nz;refine bF (fun c=>?_) (fun c=>au nofun);have c:=nr c;refine wn ?_;refine bF (fun c2=>?_) (fun c2=>?_)
 ·have c2:=nr c2;exact au fun _=>by rw [← c2]; exact getD_in 0 om
 ·exact aM ob (ih1 _ om om)
theorem Bh {l_:List aL} {ah:List Int} (h1:∀x∈l_,x.ak.length≤10) (h2:ah.length≤10000):W (mh l_ ah) (fun _=>True):=by
 unfold mh;refine bq (fun g1:Int×Int=>0≤g1.2∧0≤g1.1∧g1.1≤10*g1.2) (fun g1=>(ah.length - g1.2).toNat) ?_ ob;intro aj g1 ⟨a1,a2,a3⟩ ih1;unfold y7;refine bF (fun c=>?_) (fun c=>au trivial);have c:=nr c;refine wn ?_;refine bF (fun c2=>?_) (fun c2=>?_)
 ·have c2:=nr c2;have hx:=h1 _ (getD_in (i:=(ah.getD g1.2.toNat 0).toNat) bB om);refine wn ?_;refine aM (by unfold InI64; omega) ?_;refine aM (by unfold InI64; omega) ?_;exact ih1 _ ⟨by dsimp only; omega,by dsimp only; omega,by dsimp only; omega⟩ (by dsimp only; omega)
 ·refine aM (by unfold InI64; omega) ?_;exact ih1 _ ⟨by dsimp only; omega,by dsimp only; omega,by dsimp only; omega⟩ (by dsimp only; omega)
structure Ga2 (r:GA):Prop where
 a:r.1.length≤2000000
 b:r.2.1.length≤2000000
 c:r.2.2.1.length≤2000000
 d:r.2.2.2.1.length≤2000000
 e:r.2.2.2.2.1.length≤2000000
theorem uQ (p e:Int):Ga2 ([],[],[],[],[],p,e,[]):=⟨by simp,by simp,by simp,by simp,by simp⟩
theorem QD {l_:List aL} {M_:List Int} (h1:∀x∈l_,x.bP.length≤2000000) (h2:M_.length≤10000):W (DR l_ M_) (fun r=>r.length≤2000000*M_.length):=OO (k:=24) (f:=aL.bP) h1 h2 om
theorem Rw {l_:List aL} {M_:List Int} (h1:∀x∈l_,x.d9.length≤2000000) (h2:M_.length≤10000):W (GH l_ M_) (fun r=>r.length≤2000000*M_.length):=OO (k:=32) (f:=aL.d9) h1 h2 om
theorem Ui {l_:List aS} {M_:List Int} (h1:l_.length≤2000000) (h2:M_.length≤10000):W (IK l_ M_) (fun r=>r.length≤l_.length∧∀u∈r,u∈l_∧u.fC∈M_):=by
 unfold IK;refine bq (fun g1:Int×List aS=>0≤g1.1∧g1.1≤l_.length∧g1.2.length≤g1.1.toNat∧∀u∈g1.2,u∈l_∧u.fC∈M_) (fun g1=>(l_.length - g1.1).toNat) ?_ ⟨ob,ob,by simp,nofun⟩;intro aj g1 ⟨a1,a2,a3,a4⟩ ih1;unfold KW;refine wi (fun c=>?_) (fun c=>?_)
 ·refine wn ?_;refine aF (KF om) fun v3 hv3=>?_;refine bF (fun c2=>?_) (fun c2=>?_)
  ·refine aM (by unfold big; omega) ?_;refine wn ?_;refine ih1 _ ⟨ob,ob,by dsimp only; rw [List.length_append,List.length_singleton]; omega,fun u hu=>?_⟩ ob;rcases List.mem_append.1 hu with h | h
   ·exact a4 u h
   ·rw [List.mem_singleton] at h; rw [h]; exact ⟨getD_in bA om,hv3 c2⟩
  ·refine wn ?_;exact ih1 _ ⟨ob,ob,by dsimp only; omega,a4⟩ ob
 ·exact au ⟨om,a4⟩
theorem Rx {b_:bf} {l_:List aL} {M_:List Int} {g_:bM} (h1:yh b_) (h2:Vw b_.aP) (h3:Jd l_) (h4:M_.length≤10000) (h5:g_.bX.length≤2000000):W (Au b_ l_ M_ g_) (fun r=>Ga2 r∧r.2.2.2.2.2.2.2.length≤g_.bX.length∧∀u∈r.2.2.2.2.2.2.2,u∈g_.bX∧u.fC∈M_):=by
 obtain ⟨z1,z2,z3,z4,z5,z6,z7⟩:=id h1;unfold Au;refine aF (uO h1 h2 h3) fun v1 hv1=>?_;refine bF (fun c1=>au ⟨uQ _ _,by simp,nofun⟩) (fun c1=>?_);have c1:=nr c1;rw [c1] at hv1;obtain ⟨hb,hl12,hnd⟩:=IX hv1;refine aF (nW om om) fun v2 hv2=>?_;refine bF (fun c2=>au ⟨uQ _ _,by simp,nofun⟩) (fun c2=>?_);have c2:=nr c2;have hdf:=hv2.1 c2;refine aF (QD (fun x hx=>by have:=(hnd x hx).ll; omega) h4) fun v3 _=>?_;refine aF (Rw (fun x hx=>by have:=(hnd x hx).dl; omega) h4) fun v4 _=>?_;refine aF (qj (P:=fun _=>True) fun _=>Bh (fun x hx=>(hnd x hx).fl) h4) fun v5 _=>?_;refine bF (fun c3=>au ⟨uQ _ _,by simp,nofun⟩) (fun c3=>?_);simp only [Bool.or_eq_false_iff] at c3;obtain ⟨⟨c3,c3'⟩,_⟩:=c3;have c3:=nr c3; have c3:=nr c3';refine aF (JU z1 om) fun v6 hv6=>?_;refine bF (fun c4=>au ⟨uQ _ _,by simp,nofun⟩) (fun c4=>?_);have c4:=nr c4;have hst:=(hv6 c4).1;have hsl:v6.1.length=b_.bQ.length:=by
  unfold settB at hst;rw [Bool.and_eq_true] at hst;have:=hst.1;simp only [beq_iff_eq] at this;omega
 refine aF (Sp.JR z3 om) fun v7 hv7=>?_;refine bF (fun c5=>au ⟨uQ _ _,by simp,nofun⟩) (fun c5=>?_);have c5:=nr c5;rw [hv7] at c5;have hle:=Sp.RY c5;rw [← hv7] at hle;refine bq (fun g1:Int×List Int×List Int=>0≤g1.1∧g1.1≤M_.length∧g1.2.1.length≤2000000*g1.1.toNat∧g1.2.2.length≤g1.1.toNat) (fun g1=>(M_.length - g1.1).toNat) ?_ ⟨ob,ob,by simp,by simp⟩;intro aj g1 ⟨a1,a2,a3,a4⟩ ih1;unfold EW;refine wi (fun c=>?_) (fun c=>?_)
 ·have hm:=(hdf g1.1.toNat om).1;have hx:=(h3.nd _ (getD_in (i:=(M_.getD g1.1.toNat 0).toNat) bB om)).1;have e:(g1.1+1).toNat=g1.1.toNat+1:=by omega
  refine wn ?_;refine aM hm ?_;refine aM (by unfold big; omega) ?_;refine aM hm ?_;refine bF (fun c6=>?_) (fun c6=>?_)
  ·refine aM hm ?_;refine aM (by unfold big; omega) ?_;refine wn ?_;exact ih1 _ ⟨ob,ob,by dsimp only; rw [List.length_append,e]; omega,by dsimp only; rw [List.length_append,List.length_singleton,e]; omega⟩ ob
  ·refine wn ?_;exact ih1 _ ⟨ob,ob,by dsimp only; rw [List.length_append,e]; omega,by dsimp only; rw [e]; omega⟩ ob
 ·refine aF (FI z6 om (by have:=hb.rs.len; omega)) fun v8 BH=>?_;refine aF (NQ om z7) fun v9 SB=>?_;refine aF (Ui h5 h4) fun v10 CZ=>?_;have:=hb.rs.len;exact au ⟨⟨by dsimp only; omega,by dsimp only; omega,by dsimp only; omega,by dsimp only; omega,by dsimp only; omega⟩,CZ.1,CZ.2⟩
theorem L8 {l_:List aL} {M_:List Int} (h1:∀x∈l_,x.bP.length≤2000000) (h2:M_.length≤10000):W (vV l_ M_) (fun r=>r.length≤2000000*M_.length):=OO (k:=24) (f:=aL.bP) h1 h2 om
theorem Nq {l_:List aL} {M_:List Int} (h1:∀x∈l_,x.d9.length≤2000000) (h2:M_.length≤10000):W (zk l_ M_) (fun r=>r.length≤2000000*M_.length):=OO (k:=32) (f:=aL.d9) h1 h2 om
theorem Iw {l_:List aS} {M_:List Int} (h1:l_.length≤2000000) (h2:M_.length≤10000):W (rP l_ M_) (fun r=>r.length≤l_.length∧∀u∈r,u∈l_∧u.fC∈M_):=by
 unfold rP;refine bq (fun g1:Int×List aS=>0≤g1.1∧g1.1≤l_.length∧g1.2.length≤g1.1.toNat∧∀u∈g1.2,u∈l_∧u.fC∈M_) (fun g1=>(l_.length - g1.1).toNat) ?_ ⟨ob,ob,by simp,nofun⟩;intro aj g1 ⟨a1,a2,a3,a4⟩ ih1;unfold Fe;refine wi (fun c=>?_) (fun c=>?_)
 ·refine wn ?_;refine aF (KF om) fun v3 hv3=>?_;refine bF (fun c2=>?_) (fun c2=>?_)
  ·refine aM (by unfold big; omega) ?_;refine wn ?_;refine ih1 _ ⟨ob,ob,by dsimp only; rw [List.length_append,List.length_singleton]; omega,fun u hu=>?_⟩ ob;rcases List.mem_append.1 hu with h | h
   ·exact a4 u h
   ·rw [List.mem_singleton] at h; rw [h]; exact ⟨getD_in bA om,hv3 c2⟩
  ·refine wn ?_;exact ih1 _ ⟨ob,ob,by dsimp only; omega,a4⟩ ob
 ·exact au ⟨om,a4⟩
theorem Nr {b_:bf} {l_:List aL} {M_:List Int} {g_:bM} (h1:yh b_) (h2:Vw b_.aP) (h3:Jd l_) (h4:M_.length≤10000) (h5:g_.bX.length≤2000000):W (rQ b_ l_ g_ M_) (fun r=>Ga2 r∧r.2.2.2.2.2.2.2.length≤g_.bX.length∧∀u∈r.2.2.2.2.2.2.2,u∈g_.bX∧u.fC∈M_):=by
 obtain ⟨z1,z2,z3,z4,z5,z6,z7⟩:=id h1;unfold rQ;refine aF (uO h1 h2 h3) fun v1 hv1=>?_;refine bF (fun c1=>au ⟨uQ _ _,by simp,nofun⟩) (fun c1=>?_);have c1:=nr c1;rw [c1] at hv1;obtain ⟨hb,hl12,hnd⟩:=IX hv1;refine aF (nW om om) fun v2 hv2=>?_;refine bF (fun c2=>au ⟨uQ _ _,by simp,nofun⟩) (fun c2=>?_);have c2:=nr c2;have hdf:=hv2.1 c2;refine aF (L8 (fun x hx=>by have:=(hnd x hx).ll; omega) h4) fun v3 _=>?_;refine aF (Nq (fun x hx=>by have:=(hnd x hx).dl; omega) h4) fun v4 _=>?_;refine aF (qj (P:=fun _=>True) fun _=>Bh (fun x hx=>(hnd x hx).fl) h4) fun v5 _=>?_;refine bF (fun c3=>au ⟨uQ _ _,by simp,nofun⟩) (fun c3=>?_);simp only [Bool.or_eq_false_iff] at c3;obtain ⟨⟨c3,c3'⟩,_⟩:=c3;have c3:=nr c3; have c3:=nr c3';refine aF (JU z1 om) fun v6 hv6=>?_;refine bF (fun c4=>au ⟨uQ _ _,by simp,nofun⟩) (fun c4=>?_);have c4:=nr c4;have hst:=(hv6 c4).1;have hsl:v6.1.length=b_.bQ.length:=by
  unfold settB at hst;rw [Bool.and_eq_true] at hst;have:=hst.1;simp only [beq_iff_eq] at this;omega
 refine aF (Sp.JR z3 om) fun v7 hv7=>?_;refine bF (fun c5=>au ⟨uQ _ _,by simp,nofun⟩) (fun c5=>?_);have c5:=nr c5;rw [hv7] at c5;have hle:=Sp.RY c5;rw [← hv7] at hle;refine bq (fun g1:Int×List Int×List Int=>0≤g1.1∧g1.1≤M_.length∧g1.2.1.length≤2000000*g1.1.toNat∧g1.2.2.length≤g1.1.toNat) (fun g1=>(M_.length - g1.1).toNat) ?_ ⟨ob,ob,by simp,by simp⟩;intro aj g1 ⟨a1,a2,a3,a4⟩ ih1;unfold zl;refine wi (fun c=>?_) (fun c=>?_)
 ·have hm:=(hdf g1.1.toNat om).1;have hx:=(h3.nd _ (getD_in (i:=(M_.getD g1.1.toNat 0).toNat) bB om)).1;have e:(g1.1+1).toNat=g1.1.toNat+1:=by omega
  refine wn ?_;refine aM hm ?_;refine aM (by unfold big; omega) ?_;refine aM hm ?_;refine bF (fun c6=>?_) (fun c6=>?_)
  ·refine aM hm ?_;refine aM (by unfold big; omega) ?_;refine wn ?_;exact ih1 _ ⟨ob,ob,by dsimp only; rw [List.length_append,e]; omega,by dsimp only; rw [List.length_append,List.length_singleton,e]; omega⟩ ob
  ·refine wn ?_;exact ih1 _ ⟨ob,ob,by dsimp only; rw [List.length_append,e]; omega,by dsimp only; rw [e]; omega⟩ ob
 ·refine aF (FI z6 om (by have:=hb.rs.len; omega)) fun v8 BH=>?_;refine aF (NQ om z7) fun v9 SB=>?_;refine aF (Iw h5 h4) fun v10 CZ=>?_;have:=hb.rs.len;exact au ⟨⟨by dsimp only; omega,by dsimp only; omega,by dsimp only; omega,by dsimp only; omega,by dsimp only; omega⟩,CZ.1,CZ.2⟩
end Go.Proofs.YtccjmcmolnbiiaaGreatDoor

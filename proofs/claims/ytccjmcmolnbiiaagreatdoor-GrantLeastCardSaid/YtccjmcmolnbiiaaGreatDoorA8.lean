/- An abstract machine over the model's code, that it is sound; models of the functions and their proofs. -/
import Derived.Test.YtccjmcmolnbiiaaGreatDoorA7
set_option linter.unusedVariables false
set_option linter.unusedSimpArgs false
namespace Go.Proofs.YtccjmcmolnbiiaaGreatDoor
open Go.Ab
set_option maxRecDepth 100000
set_option maxHeartbeats 20000000
variable {r:Bool}
theorem SB {c_:aI} (hm:Gc c_ r):S 152 [M4 c_] [] (.bool r) [] :=sp Tryz.func152 rfl<|by cases hm;exact re
theorem zo {s_:List aI} {r:Int} (hm:tN s_ r):S 199 [bg s_,.fn 152 []] [] (iV r) [] :=sp Tryz.func199 rfl<|l0 hm (λ g1=>⟨[(0,bg s_),(1,.fn 152 []),(7,iV (s_.length:Int)),(8,iV g1)],[],0⟩) <|λ aj g1 hm=>si hm (λ _ hm=>sn hm λ _ hm=>sq hm SB λ v3 hm=>si hm (λ _ hm=>by cases hm;exact re) λ _ hm=>sn hm λ _ hm=>le hm) λ _ hm=>by cases hm;exact re
theorem wE {s_:List aI} (hm:lJ s_ r):S 151 [bg s_,.fn 152 []] [] (.bool r) [] :=sp Tryz.func151 rfl<|sq hm zo λ v1 hm=>by cases hm;exact re
variable {n_:Int} {wB:Int} {yt:Int}
theorem iX (hm:jP n_ wB yt r):S 202 [iV n_,iV wB,iV yt] [] (.bool r) [] :=sp Tryz.func202 rfl<|by cases hm;exact re
theorem SC {p_:Int} {pX:Int} (hm:zH p_ pX r):S 201 [iV p_,.ro [iV pX]] [] (.bool r) [] :=sp Tryz.func201 rfl<|sn hm λ _ hm=>sq hm iX λ v1 hm=>by cases hm;exact re
variable {s_:List Int}
theorem EH {f_:Int} {r:Int} (hm:Ae s_ f_ r):S 130 [aC s_,.fn 201 [.ro [iV f_]]] [] (iV r) [] :=sp Tryz.func130 rfl<|l0 hm (λ g1=>⟨[(0,aC s_),(1,.fn 201 [.ro [iV f_]]),(7,iV (s_.length:Int)),(8,iV g1)],[],0⟩) <|λ aj g1 hm=>si hm (λ _ hm=>sn hm λ _ hm=>sq hm SC λ v3 hm=>si hm (λ _ hm=>by cases hm;exact re) λ _ hm=>sn hm λ _ hm=>le hm) λ _ hm=>by cases hm;exact re
theorem Bu {f_:Int} (hm:oh s_ f_ r):S 200 [aC s_,.fn 201 [.ro [iV f_]]] [] (.bool r) [] :=sp Tryz.func200 rfl<|sq hm EH λ v1 hm=>by cases hm;exact re
theorem Mi {v_:Int} {r:Int} (hm:slices_Index_int s_ v_ r):S 88 [aC s_,iV v_] [] (iV r) [] :=sp Tryz.func88 rfl<|l0 hm (λ g1=>⟨[(0,aC s_),(1,iV v_),(7,iV (s_.length:Int)),(8,iV g1)],[],0⟩) <|λ aj g1 hm=>si hm (λ _ hm=>sn hm λ _ hm=>si hm (λ _ hm=>by cases hm;exact re) λ _ hm=>sn hm λ _ hm=>le hm) λ _ hm=>by cases hm;exact re
theorem gF {v_:Int} (hm:slices_Contains_int s_ v_ r):S 45 [aC s_,iV v_] [] (.bool r) [] :=sp Tryz.func45 rfl<|sq hm Mi λ v1 hm=>by cases hm;exact re
theorem nG {l_:List Int} (hm:mY l_ wB yt r):S 203 [aC l_,iV wB,iV yt] [] (.bool r) [] :=sp Tryz.func203 rfl<|l0 hm (λ g1=>⟨[(0,aC l_),(1,iV wB),(2,iV yt),(9,aC l_),(10,iV (l_.length:Int)),(11,iV g1)],[],0⟩) <|λ aj g1 hm=>si hm (λ _ hm=>sn hm λ _ hm=>sq hm iX λ v5 hm=>sn hm λ _ hm=>sb hm λ v6 hv6 hm=>cl (λ q0=>((gF (hv6 q0)).le ⟨(.sl oz (λ _=>rfl) nofun (l8 (f:=iV) (d:=0) (by first | omega | exact Nat.min_le_left _ _ | exact Nat.le_trans (Nat.min_le_left _ _) om | (simp; omega)))),.refl _,trivial⟩ trivial))<|si hm (λ _ hm=>by cases hm;exact re) λ _ hm=>sn hm λ _ hm=>le hm) λ _ hm=>by cases hm;exact re
theorem yR {s1_:List Int} {s2_:List Int} (hm:slices_Equal_int s1_ s2_ r):S 204 [aC s1_,aC s2_] [] (.bool r) [] :=sp Tryz.func204 rfl<|si hm (λ _ hm=>by cases hm;exact re) λ _ hm=>l0 hm (λ g1=>⟨[(0,aC s1_),(1,aC s2_),(12,iV (s1_.length:Int)),(13,iV g1)],[],0⟩) <|λ aj g1 hm=>si hm (λ _ hm=>s2 hm λ _ _ hm=>si hm (λ _ hm=>by cases hm;exact re) λ _ hm=>sn hm λ _ hm=>le hm) λ _ hm=>by cases hm;exact re
theorem Wj {c_:aI} {at_:Int} (hm:M5 c_ at_ r):S 153 [M4 c_,iV at_] [] (.bool r) [] :=sp Tryz.func153 rfl<|sq hm Bu λ v1 hm=>sb hm λ v2 hv2 hm=>cl (λ q0=>(iX (hv2 q0)))<|sb hm λ v3 hv3 hm=>cl (λ q0=>(iX (hv3 q0)))<|si hm (λ _ hm=>by cases hm;exact re) λ _ hm=>si hm (λ _ hm=>sn hm λ _ hm=>sb hm λ v4 hv4 hm=>cl (λ q0=>(iX (hv4 q0)))<|by cases hm;exact re) λ _ hm=>si hm (λ _ hm=>si hm (λ _ hm=>sb hm λ v5 hv5 hm=>cl (λ q0=>(nG (hv5 q0)))<|by cases hm;exact re) λ _ hm=>si hm (λ _ hm=>sn hm λ _ hm=>sb hm λ v6 hv6 hm=>cl (λ q0=>(nG (hv6 q0)))<|by cases hm;exact re) λ _ hm=>si hm (λ _ hm=>si hm (λ _ hm=>sb hm λ v7 hv7 hm=>cl (λ q0=>((yR (hv7 q0)).le ⟨.refl _,(.sl rfl (λ _=>rfl) nofun (gN iV 0 [(0:Int),(1:Int)])),trivial⟩ trivial))<|by cases hm;exact re) λ c7 hm=>by
 refine ⟨.bool false,[],(λ q0=>absurd q0 (vac c7)),?_⟩
 (conv=>whnf)
 have hm:r=(((c_.aP.length:Int)==(1:Int))&&false):=hm
 subst hm
 refine ⟨[],[],?_⟩
 (conv=>whnf)
 exact ⟨⟨rfl,trivial,trivial⟩,rfl⟩) λ _ hm=>by cases hm;exact re) λ _ hm=>si hm (λ _ hm=>sb hm λ v8 uG hm=>cl (λ q0=>(nG (uG q0)))<|by cases hm;exact re) λ _ hm=>si hm (λ _ hm=>sn hm λ _ hm=>sb hm λ v9 Sl hm=>cl (λ q0=>(nG (Sl q0)))<|by cases hm;exact re) λ _ hm=>si hm (λ _ hm=>si hm (λ _ hm=>sb hm λ v10 ED hm=>cl (λ q0=>((yR (ED q0)).le ⟨.refl _,(.sl rfl (λ _=>rfl) nofun (gN iV 0 [(0:Int),(1:Int)])),trivial⟩ trivial))<|by cases hm;exact re) λ c11 hm=>by
 refine ⟨.bool false,[],(λ q0=>absurd q0 (vac c11)),?_⟩
 (conv=>whnf)
 have hm:r=(((c_.aP.length:Int)==(1:Int))&&false):=hm
 subst hm
 refine ⟨[],[],?_⟩
 (conv=>whnf)
 exact ⟨⟨rfl,trivial,trivial⟩,rfl⟩) λ _ hm=>by cases hm;exact re
theorem oF {l_:List aI} {r:Int} (hm:rE l_ r):S 105 [bg l_] [] (iV r) [] :=spc [21] Tryz.func105 rfl<|sb hm λ v1 hv1 hm=>cl (λ q0=>(wE (hv1 q0)))<|si hm (λ _ hm=>by cases hm;exact re) λ _ hm=>Vo [21] hm (λ g1=>⟨[(0,bg l_),(18,bg l_),(19,iV (l_.length:Int)),(20,iV g1)],[],0⟩) [] [] <|λ aj g1 hm=>si hm (λ _ hm=>sn hm λ _ hm=>sq hm Wj λ v4 hm=>si hm (λ _ hm=>by cases hm;exact re) λ _ hm=>sn hm λ _ hm=>le hm) λ _ hm=>sn hm λ _ hm=>Vo [21] hm (λ g2=>⟨[(5,iV g2.1),(6,.eF 0 0 g2.2.2.length false),(33,bg l_),(34,iV (l_.length:Int)),(35,iV g2.2.1)],[(0,some (.row 1 g2.2.2.length (bP iV 0 g2.2.2)))],1⟩) [(0,some 32)] [] <|λ dJ g2 hm=>si hm (λ _ hm=>sn hm λ _ hm=>Vo [21] hm (λ g7=>⟨[(5,iV g2.1),(6,.eF 0 0 g7.2.length false),(7,iV g2.2.1),(8,.ptr 1 0 0),(33,bg l_),(34,iV (l_.length:Int)),(35,iV g2.2.1),(41,aC ((l_.getD g2.2.1.toNat aK).aP)),(42,iV ((((l_.getD g2.2.1.toNat aK).aP).length:Nat):Int)),(43,iV g7.1)],[(0,some (.row 1 g7.2.length (bP iV 0 g7.2))),(1,some (.box [iV ((l_.getD g2.2.1.toNat aK).fV),aC ((l_.getD g2.2.1.toNat aK).aP),aC ((l_.getD g2.2.1.toNat aK).aM),iV ((l_.getD g2.2.1.toNat aK).Low),iV ((l_.getD g2.2.1.toNat aK).fO)]))],2⟩) [(1,some 33)] [] <|λ nQ g7 hm=>si hm (λ _ hm=>s2 hm λ _ _ hm=>s2 hm λ _ _ hm=>sn hm λ _ hm=>le hm) λ _ hm=>ck [21] (uO l_ g2 dJ) r (λ g8=>⟨[(5,iV g2.1),(6,.eF 0 0 g8.length false),(7,iV g2.2.1),(8,.ptr 1 0 0),(33,bg l_),(34,iV (l_.length:Int)),(35,iV g2.2.1)],[(0,some (.row 1 g8.length (bP iV 0 g8))),(1,some (.box [iV ((l_.getD g2.2.1.toNat aK).fV),aC ((l_.getD g2.2.1.toNat aK).aP),aC ((l_.getD g2.2.1.toNat aK).aM),iV ((l_.getD g2.2.1.toNat aK).Low),iV ((l_.getD g2.2.1.toNat aK).fO)]))],2⟩) (si hm (λ _ hm=>s2 hm λ _ _ hm=>sn hm λ _ hm=>le hm) λ _ hm=>le hm) λ g8 hm=>s2 hm λ _ _ hm=>si hm (λ _ hm=>by cases hm;exact re) λ _ hm=>sn hm λ _ hm=>le hm) λ _ hm=>by cases hm;exact re
theorem Qu {s_:aD} (hm:rF s_ r):S 155 [Cm s_] [] (.bool r) [] :=sp Tryz.func155 rfl<|by cases hm;exact re
theorem zq {s_:List aD} {r:Int} (hm:tO s_ r):S 205 [aV s_,.fn 155 []] [] (iV r) [] :=sp Tryz.func205 rfl<|l0 hm (λ g1=>⟨[(0,aV s_),(1,.fn 155 []),(7,iV (s_.length:Int)),(8,iV g1)],[],0⟩) <|λ aj g1 hm=>si hm (λ _ hm=>sn hm λ _ hm=>sq hm Qu λ v3 hm=>si hm (λ _ hm=>by cases hm;exact re) λ _ hm=>sn hm λ _ hm=>le hm) λ _ hm=>by cases hm;exact re
theorem wF {s_:List aD} (hm:lK s_ r):S 154 [aV s_,.fn 155 []] [] (.bool r) [] :=sp Tryz.func154 rfl<|sq hm zq λ v1 hm=>by cases hm;exact re
theorem iq (hm:iN n_ wB yt r):S 196 [iV n_,iV wB,iV yt] [] (.bool r) [] :=sp Tryz.func196 rfl<|by cases hm;exact re
theorem Uw {s_:aD} {at_:Int} (hm:Cn s_ at_ r):S 156 [Cm s_,iV at_] [] (.bool r) [] :=sp Tryz.func156 rfl<|sn hm λ _ hm=>sq hm iq λ v1 hm=>sb hm λ v2 hv2 hm=>cl (λ q0=>(iq (hv2 q0)))<|sb hm λ v3 hv3 hm=>cl (λ q0=>(iq (hv3 q0)))<|si hm (λ _ hm=>by cases hm;exact re) λ _ hm=>l0 hm (λ g1=>⟨[(2,.ptr 0 0 0),(42,aC s_.bJ),(43,iV (s_.bJ.length:Int)),(44,iV g1)],[(0,some (.box [iV s_.aN,aC s_.bJ,iV s_.gB,iV s_.gZ,.bool s_.fK]))],1⟩) <|λ aj g1 hm=>si hm (λ _ hm=>sn hm λ _ hm=>sq hm iq λ v6 hm=>s2 hm λ _ _ hm=>si hm (λ _ hm=>by cases hm;exact re) λ _ hm=>sn hm λ _ hm=>le hm) λ _ hm=>by cases hm;exact re
theorem qW {l_:List aD} {r:Int} (hm:oW l_ r):S 106 [aV l_] [] (iV r) [] :=sp Tryz.func106 rfl<|sb hm λ v1 hv1 hm=>cl (λ q0=>(wF (hv1 q0)))<|si hm (λ _ hm=>by cases hm;exact re) λ _ hm=>l0 hm (λ g1=>⟨[(12,aV l_),(13,iV (l_.length:Int)),(14,iV g1)],[],0⟩) <|λ aj g1 hm=>si hm (λ _ hm=>sn hm λ _ hm=>sq hm Uw λ v4 hm=>si hm (λ _ hm=>by cases hm;exact re) λ _ hm=>sn hm λ _ hm=>le hm) λ _ hm=>by cases hm;exact re
theorem xY {s_:ByteArray} (hm:sH s_ r):S 146 [.str s_] [] (.bool r) [] :=sp Tryz.func146 rfl<|s2 hm λ _ _ hm=>si hm (λ _ hm=>by cases hm;exact re) λ _ hm=>l0 hm (λ g1=>⟨[(0,.str s_),(3,iV g1)],[],0⟩) <|λ aj g1 hm=>si hm (λ _ hm=>sn hm λ _ hm=>si hm (λ _ hm=>by cases hm;exact re) λ _ hm=>sn hm λ _ hm=>le hm) λ _ hm=>by cases hm;exact re
theorem uJ {s_:List ByteArray} {v_:ByteArray} {r:Int} (hm:slices_Index_string s_ v_ r):S 50 [gG s_,.str v_] [] (iV r) [] :=sp Tryz.func50 rfl<|l0 hm (λ g1=>⟨[(0,gG s_),(1,.str v_),(7,iV (s_.length:Int)),(8,iV g1)],[],0⟩) <|λ aj g1 hm=>si hm (λ _ hm=>sn hm λ _ hm=>si hm (λ _ hm=>by cases hm;exact re) λ _ hm=>sn hm λ _ hm=>le hm) λ _ hm=>by cases hm;exact re
theorem qX {s_:List ByteArray} {v_:ByteArray} (hm:slices_Contains_string s_ v_ r):S 206 [gG s_,.str v_] [] (.bool r) [] :=sp Tryz.func206 rfl<|sq hm uJ λ v1 hm=>by cases hm;exact re
theorem Yj {M9:Int} {g_:cK} {r:Int} (hm:Jt M9 g_ r):S 157 [iV M9,og g_] [] (iV r) [] :=sp Tryz.func157 rfl<|si hm (λ _ hm=>by cases hm;exact re) λ _ hm=>si hm (λ _ hm=>by cases hm;exact re) λ _ hm=>l0 hm (λ g1=>⟨[(0,iV M9),(3,.ptr 0 0 0),(27,aC g_.bS),(28,iV (g_.bS.length:Int)),(29,iV g1)],[(0,some (.box [.str g_.wI,aC g_.bS,gG g_.ak]))],1⟩) <|λ aj g1 hm=>si hm (λ _ hm=>sn hm λ _ hm=>si hm (λ _ hm=>by cases hm;exact re) λ _ hm=>sn hm λ _ hm=>le hm) λ _ hm=>l0 hm (λ g2=>⟨[(3,.ptr 0 0 0),(7,iV g2)],[(0,some (.box [.str g_.wI,aC g_.bS,gG g_.ak]))],1⟩) <|λ dJ g2 hm=>si hm (λ _ hm=>s2 hm λ _ _ hm=>sn hm λ _ hm=>si hm (λ _ hm=>by cases hm;exact re) λ _ hm=>sn hm λ _ hm=>le hm) λ _ hm=>l0 hm (λ g3=>⟨[(3,.ptr 0 0 0),(61,gG g_.ak),(62,iV (g_.ak.length:Int)),(63,iV g3)],[(0,some (.box [.str g_.wI,aC g_.bS,gG g_.ak]))],1⟩) <|λ jV g3 hm=>si hm (λ _ hm=>sn hm λ _ hm=>sq hm xY λ v3 hm=>si hm (λ _ hm=>by cases hm;exact re) λ _ hm=>sn hm λ _ hm=>le hm) λ _ hm=>l0 hm (λ g4=>⟨[(3,.ptr 0 0 0),(72,gG g_.ak),(73,iV (g_.ak.length:Int)),(74,iV g4)],[(0,some (.box [.str g_.wI,aC g_.bS,gG g_.ak]))],1⟩) <|λ jk g4 hm=>si hm (λ _ hm=>s2 hm λ _ _ hm=>sb hm λ v6 hv6 hm=>cl ((qX hv6).le ⟨(.sl oz (λ _=>rfl) nofun (l8 (f:=AV.str) (d:=ByteArray.empty) (by first | omega | exact Nat.min_le_left _ _ | exact Nat.le_trans (Nat.min_le_left _ _) om | (simp; omega)))),.refl _,trivial⟩ trivial)<|si hm (λ _ hm=>by cases hm;exact re) λ _ hm=>sn hm λ _ hm=>le hm) λ _ hm=>by cases hm;exact re
variable {p_:bn}
theorem uX {r:Int} (hm:vv p_ r):S 107 [lX p_] [] (iV r) [] :=sp Tryz.func107 rfl<|si hm (λ _ hm=>by cases hm;exact re) λ _ hm=>si hm (λ _ hm=>by cases hm;exact re) λ _ hm=>lf hm (λ g1=>⟨[(1,.ptr 0 0 0),(3,.mref 1),(21,bA p_.ay),(22,iV (p_.ay.length:Int)),(23,iV g1.1)],[(0,some (.box [iV p_.bS,bA p_.ay])),(1,some (.map .str [.bool] g1.2))],2⟩) [(1,some 112)] [] <|λ aj g1 hm=>si hm (λ _ hm=>sn hm λ _ hm=>sq hm xY λ v5 hm=>si hm (λ _ hm=>by cases hm;exact re) λ _ hm=>si hm (λ _ hm=>by cases hm;exact re) λ _ hm=>sq hm Yj λ v6 hm=>si hm (λ _ hm=>by cases hm;exact re) λ _ hm=>sn hm λ _ hm=>le hm) λ _ hm=>by cases hm;exact re
theorem zu {l_:List eG} {r:Int} (hm:vQ l_ r):S 108 [dz l_] [] (iV r) [] :=sp Tryz.func108 rfl<|si hm (λ _ hm=>by cases hm;exact re) λ _ hm=>l0 hm (λ g1=>⟨[(11,dz l_),(12,iV (l_.length:Int)),(13,iV g1)],[],0⟩) <|λ aj g1 hm=>si hm (λ _ hm=>sn hm λ _ hm=>lf hm (λ g6=>⟨[(3,iV g1),(4,.ptr 0 0 0),(11,dz l_),(12,iV (l_.length:Int)),(13,iV g1),(19,aC ((l_.getD g1.toNat dn).dY)),(20,iV ((((l_.getD g1.toNat dn).dY).length:Nat):Int)),(21,iV g6)],[(0,some (.box [aC ((l_.getD g1.toNat dn).dY)]))],1⟩) [(0,some 32)] [] <|λ jG g6 hm=>si hm (λ _ hm=>sn hm λ _ hm=>si hm (λ _ hm=>by cases hm;exact re) λ _ hm=>sn hm λ _ hm=>le hm) λ _ hm=>l0 hm (λ g7=>⟨[(4,.ptr 0 0 0),(7,iV g7),(11,dz l_),(12,iV (l_.length:Int)),(13,iV g1)],[(0,some (.box [aC ((l_.getD g1.toNat dn).dY)]))],1⟩) <|λ nQ g7 hm=>si hm (λ _ hm=>s2 hm λ _ _ hm=>sn hm λ _ hm=>si hm (λ _ hm=>by cases hm;exact re) λ _ hm=>sn hm λ _ hm=>le hm) λ _ hm=>sn hm λ _ hm=>le hm) λ _ hm=>by cases hm;exact re
theorem xZ {l_:List dD} {r:Int} (hm:sI l_ r):S 109 [bU l_] [] (iV r) [] :=sp Tryz.func109 rfl<|si hm (λ _ hm=>by cases hm;exact re) λ _ hm=>l0 hm (λ g1=>⟨[(8,bU l_),(9,iV (l_.length:Int)),(10,iV g1)],[],0⟩) <|λ aj g1 hm=>si hm (λ _ hm=>sn hm λ _ hm=>si hm (λ _ hm=>by cases hm;exact re) λ _ hm=>sn hm λ _ hm=>le hm) λ _ hm=>by cases hm;exact re
variable {b_:aS}
theorem IJ {r:Int} (hm:Af b_ r):S 53 [jy b_] [] (iV r) [] :=sp Tryz.func53 rfl<|sq hm oF λ v1 hm=>si hm (λ _ hm=>by cases hm;exact re) λ _ hm=>sq hm qW λ v2 hm=>si hm (λ _ hm=>by cases hm;exact re) λ _ hm=>sq hm uX λ v3 hm=>si hm (λ _ hm=>by cases hm;exact re) λ _ hm=>sq hm zu λ v4 hm=>si hm (λ _ hm=>by cases hm;exact re) λ _ hm=>sq hm xZ λ v5 hm=>by cases hm;exact re
theorem Qv {n_:aJ} {r:List bM} (hm:DC n_ r):S 58 [wO n_] [] (fB r) [] :=sp Tryz.func58 rfl<|by cases hm;exact re
variable {l_:List aJ} {ah:List Int}
theorem Ep {r:List bM} (hm:yF l_ ah r):S 57 [dO l_,aC ah,.fn 58 []] [] (fB r) [] :=sp Tryz.func57 rfl<|lf hm (λ g1=>⟨[(0,dO l_),(2,.fn 58 []),(7,.eF 0 0 g1.2.length false),(10,aC ah),(11,iV (ah.length:Int)),(12,iV g1.1)],[(0,some (.row 3 g1.2.length (bP yY cZ g1.2)))],1⟩) [(0,none)] [] <|λ aj g1 hm=>si hm (λ _ hm=>sn hm λ _ hm=>si hm (λ _ hm=>sn hm λ _ hm=>sq hm Qv λ v3 hm=>s2 hm λ _ _ hm=>lc [(0,some 153)] [] hm) λ _ hm=>sn hm λ _ hm=>le hm) λ _ hm=>by cases hm;exact rt [0] []
theorem Ux {r:List bM} (hm:TI l_ ah r):S 21 [dO l_,aC ah] [] (fB r) [] :=sp Tryz.func21 rfl<|sq hm Ep λ v1 hm=>by cases hm;exact re
theorem SE {n_:aJ} {r:List bq} (hm:Gf n_ r):S 60 [wO n_] [] (fM r) [] :=sp Tryz.func60 rfl<|by cases hm;exact re
theorem EI {r:List bq} (hm:Ag l_ ah r):S 59 [dO l_,aC ah,.fn 60 []] [] (fM r) [] :=sp Tryz.func59 rfl<|lf hm (λ g1=>⟨[(0,dO l_),(2,.fn 60 []),(7,.eF 0 0 g1.2.length false),(10,aC ah),(11,iV (ah.length:Int)),(12,iV g1.1)],[(0,some (.row 4 g1.2.length (bP G9 dG g1.2)))],1⟩) [(0,none)] [] <|λ aj g1 hm=>si hm (λ _ hm=>sn hm λ _ hm=>si hm (λ _ hm=>sn hm λ _ hm=>sq hm SE λ v3 hm=>s2 hm λ _ _ hm=>lc [(0,some 153)] [] hm) λ _ hm=>sn hm λ _ hm=>le hm) λ _ hm=>by cases hm;exact rt [0] []
theorem Wm {r:List bq} (hm:Xr l_ ah r):S 23 [dO l_,aC ah] [] (fM r) [] :=sp Tryz.func23 rfl<|sq hm EI λ v1 hm=>by cases hm;exact re
theorem J8 {n_:aJ} {r:List ByteArray} (hm:wQ n_ r):S 134 [wO n_] [] (gG r) [] :=sp Tryz.func134 rfl<|by cases hm;exact re
theorem Gv {r:List ByteArray} (hm:BI l_ ah r):S 133 [dO l_,aC ah,.fn 134 []] [] (gG r) [] :=sp Tryz.func133 rfl<|lf hm (λ g1=>⟨[(0,dO l_),(2,.fn 134 []),(7,.eF 0 0 g1.2.length false),(10,aC ah),(11,iV (ah.length:Int)),(12,iV g1.1)],[(0,some (.row 1 g1.2.length (bP AV.str ByteArray.empty g1.2)))],1⟩) [(0,none)] [] <|λ aj g1 hm=>si hm (λ _ hm=>sn hm λ _ hm=>si hm (λ _ hm=>sn hm λ _ hm=>sq hm J8 λ v3 hm=>s2 hm λ _ _ hm=>lc [(0,some 153)] [] hm) λ _ hm=>sn hm λ _ hm=>le hm) λ _ hm=>by cases hm;exact rt [0] []
theorem OP {r:List ByteArray} (hm:Kv l_ ah r):S 89 [dO l_,aC ah] [] (gG r) [] :=sp Tryz.func89 rfl<|sq hm Gv λ v1 hm=>by cases hm;exact re
theorem Qw {x_:bM} {pX:List aI} (hm:rG x_ pX r):S 223 [yY x_,.ro [bg pX]] [] (.bool r) [] :=sp Tryz.func223 rfl<|sn hm λ _ hm=>sq hm iX λ v1 hm=>sb hm λ v2 hv2 hm=>cl (λ q0=>(iX (hv2 q0)))<|sb hm λ v3 hv3 hm=>cl (λ q0=>(iX (hv3 q0)))<|by cases hm;exact re
theorem zw {s_:List bM} {f_:List aI} {r:Int} (hm:tQ s_ f_ r):S 241 [fB s_,.fn 223 [.ro [bg f_]]] [] (iV r) [] :=sp Tryz.func241 rfl<|l0 hm (λ g1=>⟨[(0,fB s_),(1,.fn 223 [.ro [bg f_]]),(7,iV (s_.length:Int)),(8,iV g1)],[],0⟩) <|λ aj g1 hm=>si hm (λ _ hm=>sn hm λ _ hm=>sq hm Qw λ v3 hm=>si hm (λ _ hm=>by cases hm;exact re) λ _ hm=>sn hm λ _ hm=>le hm) λ _ hm=>by cases hm;exact re
theorem wG {s_:List bM} {f_:List aI} (hm:lM s_ f_ r):S 222 [fB s_,.fn 223 [.ro [bg f_]]] [] (.bool r) [] :=sp Tryz.func222 rfl<|sq hm zw λ v1 hm=>by cases hm;exact re
variable {m_:List bM}
theorem FU {l_:List aI} (hm:wR l_ m_ r):S 184 [bg l_,fB m_] [] (.bool r) [] :=sp Tryz.func184 rfl<|sq hm oF λ v1 hm=>sb hm λ v2 hv2 hm=>cl (λ q0=>(wG (hv2 q0)))<|by cases hm;exact re
theorem Uy {l_:List aI} {r:Int} (hm:Co l_ m_ r):S 135 [bg l_,fB m_] [] (iV r) [] :=sp Tryz.func135 rfl<|sq hm oF λ v1 hm=>si hm (λ _ hm=>by cases hm;exact re) λ _ hm=>sq hm FU λ v2 hm=>si hm (λ _ hm=>by cases hm;exact re) λ _ hm=>by cases hm;exact re
theorem Yk {l_:List aI} {r:List jM} (hm:Jv l_ m_ r):S 185 [bg l_,fB m_] [] (He r) [] :=sp Tryz.func185 rfl<|lf hm (λ g1=>⟨[(0,bg l_),(1,fB m_),(5,.eF 0 0 g1.2.length false),(10,fB m_),(11,iV (m_.length:Int)),(12,iV g1.1)],[(0,some (.row 5 g1.2.length (bP YU wN g1.2)))],1⟩) [(0,none)] [] <|λ aj g1 hm=>si hm (λ _ hm=>s2 hm λ _ _ hm=>sn hm λ _ hm=>lc [(0,some 137)] [] hm) λ _ hm=>l0 hm (λ g2=>⟨[(1,fB m_),(5,.eF 0 0 g2.2.length false),(29,bg l_),(30,iV (l_.length:Int)),(31,iV g2.1)],[(0,some (.row 5 g2.2.length (bP YU wN g2.2)))],1⟩) <|λ dJ g2 hm=>si hm (λ _ hm=>sn hm λ _ hm=>si hm (λ _ hm=>s2 hm λ _ _ hm=>sn hm λ _ hm=>lc [(0,some 177)] [] hm) λ _ hm=>sn hm λ _ hm=>le hm) λ _ hm=>by cases hm;exact rt [0] []
theorem vK {l_:List aI} (hm:qA l_ s_ r):S 224 [bg l_,aC s_] [] (.bool r) [] :=sp Tryz.func224 rfl<|si hm (λ _ hm=>by cases hm;exact re) λ _ hm=>l0 hm (λ g1=>⟨[(0,bg l_),(12,aC s_),(13,iV (s_.length:Int)),(14,iV g1)],[],0⟩) <|λ aj g1 hm=>si hm (λ _ hm=>s2 hm λ _ _ hm=>sn hm λ _ hm=>sq hm iX λ v3 hm=>si hm (λ _ hm=>by cases hm;exact re) λ _ hm=>sn hm λ _ hm=>le hm) λ _ hm=>by cases hm;exact re
theorem FV {l_:List aI} {jE:Int} {r:Int} (hm:wS l_ s_ jE r):S 242 [bg l_,aC s_,iV jE] [] (iV r) [] :=sp Tryz.func242 rfl<|sn hm λ _ hm=>si hm (λ _ hm=>by cases hm;exact re) λ _ hm=>si hm (λ _ hm=>s2 hm λ _ _ hm=>sn hm λ _ hm=>by cases hm;exact re) λ _ hm=>sn hm λ _ hm=>by cases hm;exact re
theorem tu {a_:Int} {b_:Int} {r:Int} (hm:rH a_ b_ r):S 253 [iV a_,iV b_] [] (iV r) [] :=sp Tryz.func253 rfl<|l0 hm (λ g1=>⟨[(0,iV g1.1),(1,iV g1.2)],[],0⟩) <|λ aj g1 hm=>si hm (λ _ hm=>sn hm λ _ hm=>le hm) λ _ hm=>by cases hm;exact re
variable {r_:bK}
theorem uY (hm:vw r_ r):S 245 [qg r_] [] (.bool r) [] :=sp Tryz.func245 rfl<|sb hm λ v1 hv1 hm=>cl (λ q0=>(tu (hv1 q0)))<|by cases hm;exact re
theorem Wn {Qk:Int} {ZR:Int} {pX:Int} {r:Int×Int} (hm:EX Qk ZR pX r):S 252 [.ro [iV Qk,iV ZR],.ro [iV pX]] [] (.kI [iV r.1,iV r.2]) [] :=sp Tryz.func252 rfl<|sq hm tu λ v1 hm=>s2 hm λ _ _ hm=>sn hm λ _ hm=>by cases hm;exact re
theorem Ru {wT:Int} {wU:Int} {r:bK×Int} (hm:Nf wT wU r):S 256 [iV wT,iV wU] [] (.kI [qg r.1,iV r.2]) [] :=sp Tryz.func256 rfl<|si hm (λ _ hm=>by cases hm;exact re) λ _ hm=>sq hm tu λ v1 hm=>s2 hm λ _ _ hm=>sq hm uY λ v2 hm=>si hm (λ _ hm=>by cases hm;exact re) λ _ hm=>by cases hm;exact re
variable {k_:Int}
theorem Wo {oZ:Int} {o8:Int} {o9:Int} {r:bK×Int} (hm:EY r_ k_ oZ o8 o9 r):S 251 [qg r_,iV k_,.fn 252 [.ro [iV oZ,iV o8],.ro [iV o9]]] [] (.kI [qg r.1,iV r.2]) [] :=sp Tryz.func251 rfl<|sq hm uY λ v1 hm=>si hm (λ _ hm=>by cases hm;exact re) λ _ hm=>si hm (λ _ hm=>by cases hm;exact re) λ _ hm=>sq hm Wn λ v2 hm=>sq hm Ru λ v3 hm=>by cases hm;exact re
theorem OQ {r:bK×Int} (hm:Ho r_ k_ r):S 243 [qg r_,iV k_] [] (.kI [qg r.1,iV r.2]) [] :=sp Tryz.func243 rfl<|sq hm Wo λ v1 hm=>by cases hm;exact re
theorem Uz {iK:Int} {Bb:Int} {vB:Int} {r:Int×Int} (hm:Cq iK Bb vB r):S 254 [.ro [iV iK],.ro [iV Bb,iV vB]] [] (.kI [iV r.1,iV r.2]) [] :=sp Tryz.func254 rfl<|sq hm tu λ v1 hm=>s2 hm λ _ _ hm=>si hm (λ _ hm=>by cases hm;exact re) λ _ hm=>s2 hm λ _ _ hm=>sn hm λ _ hm=>by cases hm;exact re
theorem Qx {oZ:Int} {o8:Int} {o9:Int} {r:bK×Int} (hm:wV r_ k_ oZ o8 o9 r):S 251 [qg r_,iV k_,.fn 254 [.ro [iV oZ],.ro [iV o8,iV o9]]] [] (.kI [qg r.1,iV r.2]) [] :=sp Tryz.func251 rfl<|sq hm uY λ v1 hm=>si hm (λ _ hm=>by cases hm;exact re) λ _ hm=>si hm (λ _ hm=>by cases hm;exact re) λ _ hm=>sq hm Uz λ v2 hm=>sq hm Ru λ v3 hm=>by cases hm;exact re
theorem LJ {r:bK×Int} (hm:DF r_ k_ r):S 244 [qg r_,iV k_] [] (.kI [qg r.1,iV r.2]) [] :=sp Tryz.func244 rfl<|sq hm Qx λ v1 hm=>by cases hm;exact re
variable {dF:List Int}
theorem Wp {l_:List aI} {r:List bK} (hm:EZ l_ dF r):S 225 [bg l_,.eF 0 0 dF.length false] [.row 1 dF.length (bP iV 0 dF)] (rD r) [.row 1 dF.length (bP iV 0 dF)] :=sp Tryz.func225 rfl<|sn hm λ _ hm=>lf hm (λ g1=>⟨[(0,bg l_),(1,.eF 0 0 dF.length false),(5,.eF 1 0 g1.2.length false),(13,bg l_),(14,iV (l_.length:Int)),(15,iV g1.1)],[(0,some (.row 1 dF.length (bP iV 0 dF))),(1,some (.row 2 g1.2.length (bP qg dS g1.2)))],2⟩) [(1,some 25)] [] <|λ aj g1 hm=>si hm (λ _ hm=>s2 hm λ _ _ hm=>sn hm λ _ hm=>sq hm FV λ v7 hm=>si hm (λ _ hm=>s2 hm λ _ _ hm=>le hm) λ _ hm=>sn hm λ _ hm=>si hm (λ _ hm=>s2 hm λ _ _ hm=>le hm) λ _ hm=>si hm (λ _ hm=>sn hm λ _ hm=>sq hm OQ λ v8 hm=>s2 hm λ _ _ hm=>le hm) λ _ hm=>si hm (λ _ hm=>sn hm λ _ hm=>sq hm LJ λ v9 hm=>s2 hm λ _ _ hm=>le hm) λ _ hm=>s2 hm λ _ _ hm=>sn hm λ _ hm=>le hm) λ _ hm=>by cases hm;exact rt [1] []
theorem Wq {l_:List aI} {r:List bK×Int} (hm:E5 l_ dF r):S 186 [bg l_,.eF 0 0 dF.length false] [.row 1 dF.length (bP iV 0 dF)] (.kI [rD r.1,iV r.2]) [.row 1 dF.length (bP iV 0 dF)] :=sp Tryz.func186 rfl<|sq hm oF λ v1 hm=>si hm (λ _ hm=>by cases hm;exact re) λ _ hm=>sq hm vK λ v2 hm=>si hm (λ _ hm=>by cases hm;exact re) λ _ hm=>sq hm Wp λ v3 hm=>by cases hm;exact re
theorem zx {Cr:Int} {oq:Int} (hm:vR r_ Cr oq r):S 226 [qg r_,iV Cr,iV oq] [] (.bool r) [] :=sp Tryz.func226 rfl<|sq hm uY λ v1 hm=>si hm (λ _ hm=>by cases hm;exact re) λ _ hm=>s2 hm λ _ _ hm=>by cases hm;exact re
theorem EJ {b_:jM} (hm:nk b_ r_ r):S 187 [YU b_,qg r_] [] (.bool r) [] :=sp Tryz.func187 rfl<|si hm (λ _ hm=>by cases hm;exact re) λ _ hm=>sq hm zx λ v1 hm=>by cases hm;exact re
theorem Mj {r:List Int} (hm:slices_Clone_int dF r):S 47 [.eF 0 0 dF.length false] [.row 1 dF.length (bP iV 0 dF)] (.eF 1 0 r.length false) [.row 1 dF.length (bP iV 0 dF),.row 1 r.length (bP iV 0 r)] :=by
 obtain ⟨h1,hm⟩:=hm
 have hm:r=dF:=hm
 subst hm
 refine nJ (ct:=[1]) iR Tryz.func47 rfl rfl (Nat.le_of_ble_eq_true rfl) dk (Nat.le_of_ble_eq_true rfl) ?_
 (conv=>whnf)
 refine RO (ct:=[]) iR (iR.slice (t:=22) (e:=3) rfl rfl rfl).1 dk dk dk dk dk [(2,.sl 0 0 true fF),(0,.eF 0 0 r.length false)] [(0,some (.row 1 r.length (bP iV 0 r)))] 9 rfl rfl ?_ (λ hn=>?_) ?_
 ·exact rfl
 ·(conv=>whnf)
  have hn:r.length=0:=hn
  refine ⟨[],[(1,none)],?_⟩
  (conv=>whnf)
  exact ⟨⟨rfl,trivial,⟨⟨rfl,rfl,λ _ _=>.refl _⟩,hn,trivial⟩⟩,⟨rfl,rfl,rfl,rfl,rfl,hn⟩⟩
 ·(conv=>whnf)
  refine ⟨by rw [Nat.zero_add]; exact h1,?_⟩
  (conv=>whnf)
  refine ⟨[],[(1,some 25)],?_⟩
  (conv=>whnf)
  exact ⟨⟨rfl,trivial,⟨⟨rfl,rfl,λ _ _=>.refl _⟩,⟨rfl,Nat.zero_add _,jL (l:=[]) rfl (λ _ h=>absurd h (Nat.not_lt_zero _)) rfl (λ _ _=>.refl _)⟩,trivial⟩⟩,⟨rfl,rfl,rfl,Nat.zero_add _,nofun⟩⟩
theorem Qy {YV:Int} {o1_:List Int} {o2_:Bool} {r:Bool×List Int×Bool} (hm:wW YV dF o1_ o2_ r):S 137 [.eF 0 0 dF.length false,.int .u64 YV,.ptr 1 0 0,.ptr 2 0 0] [.row 1 dF.length (bP iV 0 dF),.box [aC o1_],.box [.bool o2_]] (.bool r.1) [.row 1 dF.length (bP iV 0 dF),.box [aC r.2.1],.box [.bool r.2.2]] :=sp Tryz.func137 rfl<|si hm (λ _ hm=>sq hm Mj λ v1 hm=>by cases hm;exact rt [35] []) λ _ hm=>by cases hm;exact re
theorem UA {l_:List aI} {o1_:Bool} {r:List Int×Bool} (hm:Ct l_ m_ dF o1_ r):S 136 [bg l_,fB m_,.fn 137 [.ptr 0 0 0,.ptr 1 0 0]] [.box [aC dF],.box [.bool o1_]] (.kI []) [.box [aC r.1],.box [.bool r.2]] :=spc [14] Tryz.func136 rfl<|sq hm Yk λ v1 hm=>sn hm λ _ hm=>Vo [14] hm (λ g1=>⟨[(0,bg l_),(2,.fn 137 [.ptr 0 0 0,.ptr 1 0 0]),(6,He v1),(7,.eF 2 0 g1.2.2.length false)],[(0,some (.box [aC g1.1])),(1,some (.box [.bool g1.2.1])),(2,some (.row 1 g1.2.2.length (bP iV 0 g1.2.2)))],3⟩) [(2,some 50)] [] <|λ aj g1 hm=>sq hm Wq λ v12 hm=>Vo [14] hm (λ g10=>⟨[(0,bg l_),(2,.fn 137 [.ptr 0 0 0,.ptr 1 0 0]),(6,He v1),(7,.eF 2 0 g1.2.2.length false),(8,rD v12.1),(10,.int .u64 g10.1),(26,He v1),(27,iV (v1.length:Int)),(28,iV g10.2)],[(0,some (.box [aC g1.1])),(1,some (.box [.bool g1.2.1])),(2,some (.row 1 g1.2.2.length (bP iV 0 g1.2.2)))],3⟩) [] [] <|λ ac2 g10 hm=>si hm (λ _ hm=>s2 hm λ _ _ hm=>sq hm EJ λ v15 hm=>si hm (λ _ hm=>s2 hm λ _ _ hm=>le hm) λ _ hm=>sn hm λ _ hm=>le hm) λ _ hm=>sq hm Qy λ v16 hm=>si hm (λ _ hm=>by cases hm;exact re) λ _ hm=>sn hm λ _ hm=>ck [14] (y7 g1 aj v16) r (λ g12=>⟨[(0,bg l_),(2,.fn 137 [.ptr 0 0 0,.ptr 1 0 0]),(6,He v1),(7,.eF 2 0 g1.2.2.length false),(13,iV g12)],[(0,some (.box [aC v16.2.1])),(1,some (.box [.bool v16.2.2])),(2,some (.row 1 g1.2.2.length (bP iV 0 g1.2.2)))],3⟩) (Vo [14] hm (λ g13=>⟨[(0,bg l_),(2,.fn 137 [.ptr 0 0 0,.ptr 1 0 0]),(6,He v1),(7,.eF 2 0 g1.2.2.length false),(13,iV g13)],[(0,some (.box [aC v16.2.1])),(1,some (.box [.bool v16.2.2])),(2,some (.row 1 g1.2.2.length (bP iV 0 g1.2.2)))],3⟩) [] [] <|λ agw g13 hm=>s2 hm λ _ _ hm=>sn hm λ _ hm=>si hm (λ _ hm=>sn hm λ _ hm=>le hm) λ _ hm=>le hm) λ g12 hm=>si hm (λ _ hm=>by cases hm;exact re) λ _ hm=>s2 hm λ _ _ hm=>s2 hm λ _ _ hm=>sn hm λ _ hm=>lce [] [] hm ⟨rfl,⟨sr,⟨rfl,r4,r4,trivial⟩,sr,⟨rfl,rfl,rfl,oz,nofun⟩,trivial⟩,⟨⟨sf,trivial⟩,⟨rfl,trivial⟩,⟨rfl,oz,(ac0 oz (EW (λ _ _=>.refl _) rfl (.refl _)) oz (TG iV 0))⟩,trivial⟩⟩
theorem UC {l_:List aI} {r:List Int×Int} (hm:Cu l_ m_ r):S 90 [bg l_,fB m_] [] (.kI [aC r.1,iV r.2]) [] :=sp Tryz.func90 rfl<|sq hm Uy λ v1 hm=>si hm (λ _ hm=>by cases hm;exact re) λ _ hm=>sb hm λ v2 hv2 hm=>cl ((UA hv2).le ⟨.refl _,.refl _,.refl _,trivial⟩ ⟨⟨(.sl rfl (λ h=>absurd rfl h) nofun (λ _ h=>absurd h (Nat.not_lt_zero _))),trivial⟩,kU _,trivial⟩)<|si hm (λ _ hm=>by cases hm;exact re) λ _ hm=>by cases hm;exact re
theorem Qz {x_:bq} {pX:List aD} (hm:rJ x_ pX r):S 227 [G9 x_,.ro [aV pX]] [] (.bool r) [] :=sp Tryz.func227 rfl<|sn hm λ _ hm=>sq hm iq λ v1 hm=>sb hm λ v2 hv2 hm=>cl (λ q0=>(iq (hv2 q0)))<|sb hm λ v3 hv3 hm=>cl (λ q0=>(iq (hv3 q0)))<|sb hm λ v4 hv4 hm=>cl (λ q0=>(iq (hv4 q0)))<|by cases hm;exact re
theorem AJ {s_:List bq} {f_:List aD} {r:Int} (hm:uw s_ f_ r):S 231 [fM s_,.fn 227 [.ro [aV f_]]] [] (iV r) [] :=sp Tryz.func231 rfl<|l0 hm (λ g1=>⟨[(0,fM s_),(1,.fn 227 [.ro [aV f_]]),(7,iV (s_.length:Int)),(8,iV g1)],[],0⟩) <|λ aj g1 hm=>si hm (λ _ hm=>sn hm λ _ hm=>sq hm Qz λ v3 hm=>si hm (λ _ hm=>by cases hm;exact re) λ _ hm=>sn hm λ _ hm=>le hm) λ _ hm=>by cases hm;exact re
theorem x9 {s_:List bq} {f_:List aD} (hm:lY s_ f_ r):S 194 [fM s_,.fn 227 [.ro [aV f_]]] [] (.bool r) [] :=sp Tryz.func194 rfl<|sq hm AJ λ v1 hm=>by cases hm;exact re
variable {d_:List bq}
theorem FX {l_:List aD} (hm:wX l_ d_ r):S 188 [aV l_,fM d_] [] (.bool r) [] :=sp Tryz.func188 rfl<|sq hm qW λ v1 hm=>sb hm λ v2 hv2 hm=>cl (λ q0=>(x9 (hv2 q0)))<|by cases hm;exact re
theorem UD {l_:List aD} {r:Int} (hm:Jw l_ d_ r):S 138 [aV l_,fM d_] [] (iV r) [] :=sp Tryz.func138 rfl<|sq hm qW λ v1 hm=>si hm (λ _ hm=>by cases hm;exact re) λ _ hm=>sq hm FX λ v2 hm=>si hm (λ _ hm=>by cases hm;exact re) λ _ hm=>by cases hm;exact re
variable {x_:Int}
theorem OT {y_:Int} {r:Int×Int} (hm:Kz x_ y_ r):S 247 [.int .u64 x_,.int .u64 y_] [] (.kI [.int .u64 r.1,.int .u64 r.2]) [] :=sp Tryz.func247 rfl<|s2 hm λ _ _ hm=>s2 hm λ _ _ hm=>sn hm λ _ hm=>by cases hm;exact re
theorem SF {y_:Int} {r:Int×Int} (hm:zI x_ y_ r):S 228 [.int .u64 x_,.int .u64 y_] [] (.kI [.int .u64 r.1,.int .u64 r.2]) [] :=sp Tryz.func228 rfl<|sq hm OT λ v1 hm=>by cases hm;exact re
theorem Df {x_:List gP} {Jy:Int} {r:List gP} (hm:lZ x_ Jy r):S 189 [TH x_,iV Jy] [] (.eF 0 0 r.length false) [.row 3 r.length (bP zG jN r)] :=spc [3,6] Tryz.func189 rfl<|ck [3,6] (mU x_ Jy) r (λ g1=>⟨[(0,TH x_),(1,iV Jy)],[],0⟩) (by
 have c7:=hm.1
 have hm:=hm.2
 refine TF (λ q=>Bool.noConfusion (c7.symm.trans q)) (λ _=>?_)
 (conv=>whnf)
 exact ⟨(),[],[],hm,⟨rfl,⟨sr,r2,trivial⟩,trivial⟩⟩) λ g1 hm=>sq hm SF λ v1 hm=>ck [3,6] (mR x_ v1) r (λ g2=>⟨[(0,TH x_),(6,.int .u64 v1.2)],[],0⟩) (by
 have c6:=hm.1
 have hm:=hm.2
 refine TF (λ q=>Bool.noConfusion (c6.symm.trans q)) (λ _=>?_)
 (conv=>whnf)
 exact ⟨(),[],[],hm,⟨rfl,⟨sr,r2,trivial⟩,trivial⟩⟩) λ g2 hm=>sn hm λ _ hm=>lfe [3,6] hm (λ g3=>⟨[(7,.eF 0 0 g3.2.length false),(8,iV g3.1)],[(0,some (.row 3 g3.2.length (bP zG jN g3.2)))],1⟩) [(0,some 16)] [] ⟨rfl,⟨⟨rfl,rfl,rfl,oz,nofun⟩,r2,trivial⟩,⟨⟨rfl,oz,(ac0 oz (TG zG jN) oz (l8 (f:=zG) (d:=jN) (by first | omega | exact Nat.min_le_left _ _ | exact Nat.le_trans (Nat.min_le_left _ _) om | (simp; omega))))⟩,trivial⟩⟩ <|λ jV g3 hm=>si hm (λ _ hm=>s2 hm λ _ _ hm=>sn hm λ _ hm=>lce [] [] hm ⟨rfl,⟨⟨rfl,rfl,rfl,oz,nofun⟩,r2,trivial⟩,⟨⟨rfl,oz,(ac0 rfl (λ _ _=>.refl _) oz (l8 (f:=zG) (d:=jN) (by first | omega | exact Nat.min_le_left _ _ | exact Nat.le_trans (Nat.min_le_left _ _) om | (simp; omega))))⟩,trivial⟩⟩) λ _ hm=>by cases hm;exact re
theorem lu {s_:List aD} {r:List aD} (hm:iO s_ r):S 190 [aV s_] [] (.fn 229 [.ro [aV r]]) [] :=by
 have hm:r=s_:=hm
 subst hm
 exact abB r
theorem zy {l_:List aD} {r:List Bool} (hm:vS l_ d_ r):S 140 [aV l_,fM d_] [] (aU r) [] :=spc [11] Tryz.func140 rfl<|sn hm λ _ hm=>Vo [11] hm (λ g1=>⟨[(0,aV l_),(5,.ptr 0 0 0),(13,fM d_),(14,iV (d_.length:Int)),(15,iV g1.1)],[(0,some (.box [.eF 1 0 g1.2.length false])),(1,some (.row 1 g1.2.length (bP AV.bool false g1.2)))],2⟩) [(0,some 32),(1,some 24)] [] <|λ aj g1 hm=>si hm (λ _ hm=>s2 hm λ _ _ hm=>sn hm λ _ hm=>le hm) λ _ hm=>sq hm lu λ v1 hm=>by
 have h11:=hm.1
 have hm:=hm.2
 refine VK (ct:=[11]) (ct':=[11]) iR dk dk dk dk (Wi v1 h11) rfl (by intro v hv; simp at hv; exact ⟨_,hv⟩) hm (λ g2=>⟨[(5,.ptr 0 0 0),(25,.fn 229 [.ro [aV v1]])],[(0,some (.box [.eF 1 0 g2.length false])),(1,some (.row 1 g2.length (bP AV.bool false g2)))],2⟩) (λ k2 g2=>⟨[(5,.ptr 0 0 0),(8,iV ((v1.length - 1 - k2:Nat):Int)),(9,.ptr 2 0 0)],[(0,some (.box [.eF 1 0 g2.length false])),(1,some (.row 1 g2.length (bP AV.bool false g2))),(2,some (.box [iV ((v1.getD (v1.length - 1 - k2) au).aN),aC ((v1.getD (v1.length - 1 - k2) au).bJ),iV ((v1.getD (v1.length - 1 - k2) au).gB),iV ((v1.getD (v1.length - 1 - k2) au).gZ),.bool ((v1.getD (v1.length - 1 - k2) au).fK)]))],3⟩) (λ _ _=>r2) [] ⟨rfl,⟨r4,⟨rfl,Rz.refl _,trivial⟩,trivial⟩,⟨⟨⟨rfl,rfl,rfl,rfl,nofun⟩,trivial⟩,⟨rfl,rfl,(λ _ _=>.refl _)⟩,trivial⟩⟩ ?_ ?_ ?_
 ·intro k2 ll g2 hk
  refine ⟨Nat.le_of_ble_eq_true rfl,?_⟩
  (conv=>whnf)
  exact ⟨[(2,some 10)],⟨rfl,⟨r4,r2,r4,trivial⟩,⟨⟨⟨rfl,rfl,rfl,rfl,nofun⟩,trivial⟩,⟨rfl,rfl,(λ _ _=>.refl _)⟩,⟨r2,sr,r2,r2,rfl,trivial⟩,trivial⟩⟩⟩
 ·intro k2 ll dJ g2 hk hm
  (conv=>whnf)
  refine ZN (ct:=[11]) iR dk dk (Bc v1 dJ k2) r (λ g5=>⟨[(5,.ptr 0 0 0),(8,iV ((v1.length - 1 - k2:Nat):Int)),(9,.ptr 2 0 0)],[(0,some (.box [.eF 1 0 g5.length false])),(1,some (.row 1 g5.length (bP AV.bool false g5))),(2,some (.box [iV ((v1.getD (v1.length - 1 - k2) au).aN),aC ((v1.getD (v1.length - 1 - k2) au).bJ),iV ((v1.getD (v1.length - 1 - k2) au).gB),iV ((v1.getD (v1.length - 1 - k2) au).gZ),.bool ((v1.getD (v1.length - 1 - k2) au).fK)]))],3⟩) ?_ (λ g5 hm=>?_)
  ·(conv=>whnf)
   refine bf hm λ h28 hm=>?_
   (conv=>whnf)
   refine bf hm λ h29 hm=>?_
   (conv=>whnf)
   exact ⟨(g2.set (((v1.length - 1 - k2:Nat):Int).toNat) ((g2.getD (((v1.length - 1 - k2:Nat):Int).toNat) false)||(v1.getD (v1.length - 1 - k2) au).fK)),[],[],hm,⟨rfl,⟨r4,r2,r4,trivial⟩,⟨⟨⟨rfl,rfl,rfl,oz,nofun⟩,trivial⟩,⟨rfl,oz,(EW (λ _ _=>.refl _) rfl (.refl _))⟩,⟨r2,sr,r2,r2,rfl,trivial⟩,trivial⟩⟩⟩
  ·(conv=>whnf)
   refine bf hm λ h26 hm=>?_
   (conv=>whnf)
   refine iU hm (λ c6 hm=>?_) (λ c6 hm=>?_)
   ·(conv=>whnf)
    refine bf hm λ h27 hm=>?_
    (conv=>whnf)
    exact ⟨(g5.set (((v1.getD (v1.length - 1 - k2) au).aN).toNat) true),[],hm,⟨rfl,⟨r4,⟨rfl,Rz.refl _,trivial⟩,trivial⟩,⟨⟨⟨rfl,rfl,rfl,oz,nofun⟩,trivial⟩,⟨rfl,oz,(EW (λ _ _=>.refl _) rfl (.refl _))⟩,trivial⟩⟩⟩
   ·(conv=>whnf)
    exact ⟨g5,[],hm,⟨rfl,⟨r4,⟨rfl,Rz.refl _,trivial⟩,trivial⟩,⟨⟨⟨rfl,rfl,rfl,rfl,nofun⟩,trivial⟩,⟨rfl,rfl,(λ _ _=>.refl _)⟩,trivial⟩⟩⟩
 ·intro g2 hm
  (conv=>whnf)
  have hm:r=g2:=hm
  subst hm
  refine ⟨[1],[],?_⟩
  (conv=>whnf)
  exact ⟨⟨rfl,trivial,trivial⟩,sf⟩
theorem Er (hm:cmp_isNaN_int x_ r):S 255 [iV x_] [] (.bool r) [] :=sp Tryz.func255 rfl<|by cases hm;exact re
theorem UE {y_:Int} (hm:cmp_Less_int x_ y_ r):S 248 [iV x_,iV y_] [] (.bool r) [] :=sp Tryz.func248 rfl<|sq hm Er λ v1 hm=>sb hm λ v2 hv2 hm=>cl (λ q0=>(Er (hv2 q0)))<|by cases hm;exact re
theorem yS (hm:y8 x_ r):S 249 [iV x_] [] (.bool r) [] :=sp Tryz.func249 rfl<|by cases hm;exact re
theorem Bv {x_:List Int} {nS:Int} {r:Int×Bool} (hm:slices_BinarySearch_int x_ nS r):S 230 [aC x_,iV nS] [] (.kI [iV r.1,.bool r.2]) [] :=spc [8] Tryz.func230 rfl<|ck [8] (l9 x_ nS) r (λ g2=>⟨[(0,aC x_),(1,iV nS),(6,iV (x_.length:Int)),(7,iV g2)],[],0⟩) (Vo [8] hm (λ g3=>⟨[(0,aC x_),(1,iV nS),(6,iV (x_.length:Int)),(7,iV g3.1),(8,iV g3.2)],[],0⟩) [] [] <|λ jV g3 hm=>si hm (λ _ hm=>s2 hm λ _ _ hm=>sn hm λ _ hm=>sq hm UE λ v8 hm=>si hm (λ _ hm=>sn hm λ _ hm=>le hm) λ _ hm=>le hm) λ _ hm=>le hm) λ g2 hm=>s2 hm λ _ _ hm=>sb hm λ v4 hv4 hm=>cl (λ q0 q1=>(yS (hv4 q0 q1)))<|sb hm λ v5 hv5 hm=>cl (λ q0 q1 q2=>(yS (hv5 q0 q1 q2)))<|by cases hm;exact re
theorem UF {s_:aD} {TJ:Int} {r:Int×Bool} (hm:Jz s_ TJ r):S 191 [Cm s_,iV TJ] [] (.kI [iV r.1,.bool r.2]) [] :=sp Tryz.func191 rfl<|sq hm Bv λ v1 hm=>by cases hm;exact re
theorem QA {l_:List aD} {r:List gP×List Int×Int} (hm:wY l_ d_ r):S 139 [aV l_,fM d_] [] (.kI [TH r.1,aC r.2.1,iV r.2.2]) [] :=sp Tryz.func139 rfl<|sb hm λ v1 hv1 hm=>cl ((Df hv1).le ⟨(.sl rfl (λ _=>rfl) nofun (gN zG jN [(⟨(0:Int),(-1:Int),(-1:Int)⟩:gP)])),.refl _,trivial⟩ trivial)<|sn hm λ _ hm=>lf hm (λ g1=>⟨[(0,aV l_),(1,fM d_),(4,.ptr 0 0 0),(5,.ptr 1 0 0),(6,.ptr 2 0 0),(23,fM d_),(24,iV (d_.length:Int)),(25,iV g1.1)],[(0,some (.box [.eF 3 0 g1.2.1.length false])),(1,some (.box [.eF 4 0 g1.2.2.length false])),(2,some (.box [iV (0:Int)])),(3,some (.row 3 g1.2.1.length (bP zG jN g1.2.1))),(4,some (.row 1 g1.2.2.length (bP iV 0 g1.2.2)))],5⟩) [(1,some 8),(2,some 16),(3,some 56),(4,some 80)] [] <|λ aj g1 hm=>si hm (λ _ hm=>s2 hm λ _ _ hm=>si hm (λ _ hm=>s2 hm λ _ _ hm=>le hm) λ _ hm=>sn hm λ _ hm=>le hm) λ _ hm=>sq hm zy λ v2 hm=>sq hm lu λ v3 hm=>by
 have h17:=hm.1
 have hm:=hm.2
 refine VK (ct:=[]) (ct':=[]) iR dk dk dk dk (Wi v3 h17) rfl (by intro v hv; simp at hv; exact ⟨_,hv⟩) hm (λ g2=>⟨[(4,.ptr 0 0 0),(5,.ptr 1 0 0),(6,.ptr 2 0 0),(9,.ptr 3 0 0),(52,.fn 229 [.ro [aV v3]])],[(0,some (.box [.eF 4 0 g2.1.length false])),(1,some (.box [.eF 5 0 g2.2.length false])),(2,some (.box [iV (0:Int)])),(3,some (.box [aU v2])),(4,some (.row 3 g2.1.length (bP zG jN g2.1))),(5,some (.row 1 g2.2.length (bP iV 0 g2.2)))],6⟩) (λ k2 g2=>⟨[(4,.ptr 0 0 0),(5,.ptr 1 0 0),(6,.ptr 2 0 0),(9,.ptr 3 0 0),(10,iV ((v3.length - 1 - k2:Nat):Int)),(11,.ptr 6 0 0)],[(0,some (.box [.eF 4 0 g2.1.length false])),(1,some (.box [.eF 5 0 g2.2.length false])),(2,some (.box [iV (0:Int)])),(3,some (.box [aU v2])),(4,some (.row 3 g2.1.length (bP zG jN g2.1))),(5,some (.row 1 g2.2.length (bP iV 0 g2.2))),(6,some (.box [iV ((v3.getD (v3.length - 1 - k2) au).aN),aC ((v3.getD (v3.length - 1 - k2) au).bJ),iV ((v3.getD (v3.length - 1 - k2) au).gB),iV ((v3.getD (v3.length - 1 - k2) au).gZ),.bool ((v3.getD (v3.length - 1 - k2) au).fK)]))],7⟩) (λ _ _=>r2) [(3,some 37),(4,some 3),(5,some 4)] ⟨rfl,⟨r4,r4,r4,r4,⟨rfl,Rz.refl _,trivial⟩,trivial⟩,⟨⟨⟨rfl,rfl,rfl,rfl,nofun⟩,trivial⟩,⟨⟨rfl,rfl,rfl,rfl,nofun⟩,trivial⟩,⟨r2,trivial⟩,⟨sr,trivial⟩,⟨rfl,rfl,(λ _ _=>.refl _)⟩,⟨rfl,rfl,(λ _ _=>.refl _)⟩,trivial⟩⟩ ?_ ?_ ?_
 ·intro k2 ll g2 hk
  refine ⟨Nat.le_of_ble_eq_true rfl,?_⟩
  (conv=>whnf)
  exact ⟨[(6,some 14)],⟨rfl,⟨r4,r4,r4,r4,r2,r4,trivial⟩,⟨⟨⟨rfl,rfl,rfl,rfl,nofun⟩,trivial⟩,⟨⟨rfl,rfl,rfl,rfl,nofun⟩,trivial⟩,⟨r2,trivial⟩,⟨sr,trivial⟩,⟨rfl,rfl,(λ _ _=>.refl _)⟩,⟨rfl,rfl,(λ _ _=>.refl _)⟩,⟨r2,sr,r2,r2,rfl,trivial⟩,trivial⟩⟩⟩
 ·intro k2 ll dJ g2 hk hm
  (conv=>whnf)
  refine bf hm λ h32 hm=>?_
  (conv=>whnf)
  refine iU hm (λ c13 hm=>?_) (λ c13 hm=>?_)
  ·(conv=>whnf)
   exact ⟨(g2.1,g2.2),[],hm,⟨rfl,⟨r4,r4,r4,r4,⟨rfl,Rz.refl _,trivial⟩,trivial⟩,⟨⟨⟨rfl,rfl,rfl,rfl,nofun⟩,trivial⟩,⟨⟨rfl,rfl,rfl,rfl,nofun⟩,trivial⟩,⟨r2,trivial⟩,⟨sr,trivial⟩,⟨rfl,rfl,(λ _ _=>.refl _)⟩,⟨rfl,rfl,(λ _ _=>.refl _)⟩,trivial⟩⟩⟩
  ·(conv=>whnf)
   refine bf hm λ h33 hm=>?_
   (conv=>whnf)
   refine iF hm λ v6 hv6 hm=>?_
   refine ⟨_,_,(UF hv6),?_⟩
   (conv=>whnf)
   refine iU hm (λ c14 hm=>?_) (λ c14 hm=>?_)
   ·(conv=>whnf)
    have hm:r=(g2.1,g2.2,((v3.length - 1 - k2:Nat):Int)):=hm
    subst hm
    refine ⟨[4,5],[],?_⟩
    (conv=>whnf)
    exact ⟨⟨rfl,trivial,trivial⟩,(by (conv=>whnf); exact ⟨(by (conv=>whnf); exact sf),(by (conv=>whnf); exact ⟨(by (conv=>whnf); exact sf),(by (conv=>whnf); exact ⟨(by first | ((conv=>whnf); exact r2) | exact r2),trivial⟩)⟩)⟩)⟩
   ·(conv=>whnf)
    refine bf hm λ h34 hm=>?_
    (conv=>whnf)
    refine bf hm λ h35 hm=>?_
    (conv=>whnf)
    refine bf hm λ h36 hm=>?_
    (conv=>whnf)
    refine bf hm λ h37 hm=>?_
    (conv=>whnf)
    refine iU hm (λ c15 hm=>?_) (λ c15 hm=>?_)
    ·(conv=>whnf)
     refine bf hm λ h38 hm=>?_
     (conv=>whnf)
     exact ⟨((g2.1.set (((v3.getD (v3.length - 1 - k2) au).aN).toNat) (⟨((((v3.getD (v3.length - 1 - k2) au).bJ).getD v6.1.toNat 0)+(v3.getD (v3.length - 1 - k2) au).gB),(-1:Int),((v3.length - 1 - k2:Nat):Int)⟩:gP)),(g2.2.set (((v3.length - 1 - k2:Nat):Int).toNat) v6.1)),[],hm,⟨rfl,⟨r4,r4,r4,r4,⟨rfl,Rz.refl _,trivial⟩,trivial⟩,⟨⟨⟨rfl,rfl,rfl,oz,nofun⟩,trivial⟩,⟨⟨rfl,rfl,rfl,oz,nofun⟩,trivial⟩,⟨r2,trivial⟩,⟨sr,trivial⟩,⟨rfl,oz,(EW (λ _ _=>.refl _) rfl (.refl _))⟩,⟨rfl,oz,(EW (λ _ _=>.refl _) rfl (.refl _))⟩,trivial⟩⟩⟩
    ·(conv=>whnf)
     exact ⟨(g2.1,(g2.2.set (((v3.length - 1 - k2:Nat):Int).toNat) v6.1)),[],hm,⟨rfl,⟨r4,r4,r4,r4,⟨rfl,Rz.refl _,trivial⟩,trivial⟩,⟨⟨⟨rfl,rfl,rfl,rfl,nofun⟩,trivial⟩,⟨⟨rfl,rfl,rfl,oz,nofun⟩,trivial⟩,⟨r2,trivial⟩,⟨sr,trivial⟩,⟨rfl,rfl,(λ _ _=>.refl _)⟩,⟨rfl,oz,(EW (λ _ _=>.refl _) rfl (.refl _))⟩,trivial⟩⟩⟩
 ·intro g2 hm
  (conv=>whnf)
  have hm:r=(g2.1,g2.2,(-1:Int)):=hm
  subst hm
  refine ⟨[4,5],[],?_⟩
  (conv=>whnf)
  exact ⟨⟨rfl,trivial,trivial⟩,(by (conv=>whnf); exact ⟨(by (conv=>whnf); exact sf),(by (conv=>whnf); exact ⟨(by (conv=>whnf); exact sf),(by (conv=>whnf); exact ⟨(by first | ((conv=>whnf); exact r2) | exact r2),trivial⟩)⟩)⟩)⟩
theorem UG {l_:List aD} {r_:dh} (hm:Cw l_ r_ r):S 192 [aV l_,AZ r_] [] (.bool r) [] :=sp Tryz.func192 rfl<|sq hm qW λ v1 hm=>si hm (λ _ hm=>by cases hm;exact re) λ _ hm=>l0 hm (λ g1=>⟨[(0,aV l_),(27,aC r_.dQ),(28,iV (r_.dQ.length:Int)),(29,iV g1)],[],0⟩) <|λ aj g1 hm=>si hm (λ _ hm=>s2 hm λ _ _ hm=>sn hm λ _ hm=>sq hm iq λ v4 hm=>si hm (λ _ hm=>by cases hm;exact re) λ _ hm=>sn hm λ _ hm=>le hm) λ _ hm=>by cases hm;exact re
theorem UH {l_:List aD} {r:List Int} (hm:Cx l_ d_ r):S 193 [aV l_,fM d_] [] (aC r) [] :=sp Tryz.func193 rfl<|sn hm λ _ hm=>lf hm (λ g1=>⟨[(0,aV l_),(5,.ptr 0 0 0),(13,fM d_),(14,iV (d_.length:Int)),(15,iV g1.1)],[(0,some (.box [.eF 1 0 g1.2.length false])),(1,some (.row 1 g1.2.length (bP iV 0 g1.2)))],2⟩) [(0,some 32),(1,some 24)] [] <|λ aj g1 hm=>si hm (λ _ hm=>s2 hm λ _ _ hm=>s2 hm λ _ _ hm=>sn hm λ _ hm=>le hm) λ _ hm=>sq hm lu λ v1 hm=>by
 have h17:=hm.1
 have hm:=hm.2
 refine VK (ct:=[]) (ct':=[]) iR dk dk dk dk (Wi v1 h17) rfl (by intro v hv; simp at hv; exact ⟨_,hv⟩) hm (λ g2=>⟨[(5,.ptr 0 0 0),(30,.fn 229 [.ro [aV v1]])],[(0,some (.box [.eF 1 0 g2.length false])),(1,some (.row 1 g2.length (bP iV 0 g2)))],2⟩) (λ k2 g2=>⟨[(5,.ptr 0 0 0),(8,iV ((v1.length - 1 - k2:Nat):Int)),(9,.ptr 2 0 0)],[(0,some (.box [.eF 1 0 g2.length false])),(1,some (.row 1 g2.length (bP iV 0 g2))),(2,some (.box [iV ((v1.getD (v1.length - 1 - k2) au).aN),aC ((v1.getD (v1.length - 1 - k2) au).bJ),iV ((v1.getD (v1.length - 1 - k2) au).gB),iV ((v1.getD (v1.length - 1 - k2) au).gZ),.bool ((v1.getD (v1.length - 1 - k2) au).fK)]))],3⟩) (λ _ _=>r2) [] ⟨rfl,⟨r4,⟨rfl,Rz.refl _,trivial⟩,trivial⟩,⟨⟨⟨rfl,rfl,rfl,rfl,nofun⟩,trivial⟩,⟨rfl,rfl,(λ _ _=>.refl _)⟩,trivial⟩⟩ ?_ ?_ ?_
 ·intro k2 ll g2 hk
  refine ⟨Nat.le_of_ble_eq_true rfl,?_⟩
  (conv=>whnf)
  exact ⟨[(2,some 10)],⟨rfl,⟨r4,r2,r4,trivial⟩,⟨⟨⟨rfl,rfl,rfl,rfl,nofun⟩,trivial⟩,⟨rfl,rfl,(λ _ _=>.refl _)⟩,⟨r2,sr,r2,r2,rfl,trivial⟩,trivial⟩⟩⟩
 ·intro k2 ll dJ g2 hk hm
  (conv=>whnf)
  refine iU hm (λ c6 hm=>?_) (λ c6 hm=>?_)
  ·(conv=>whnf)
   refine bf hm λ h26 hm=>?_
   (conv=>whnf)
   refine bf hm λ h27 hm=>?_
   (conv=>whnf)
   refine bf hm λ h28 hm=>?_
   (conv=>whnf)
   refine bf hm λ h29 hm=>?_
   (conv=>whnf)
   exact ⟨(g2.set (((v1.getD (v1.length - 1 - k2) au).aN).toNat) ((g2.getD (((v1.getD (v1.length - 1 - k2) au).aN).toNat) 0)+(g2.getD (((v1.length - 1 - k2:Nat):Int).toNat) 0))),[],hm,⟨rfl,⟨r4,⟨rfl,Rz.refl _,trivial⟩,trivial⟩,⟨⟨⟨rfl,rfl,rfl,oz,nofun⟩,trivial⟩,⟨rfl,oz,(EW (λ _ _=>.refl _) rfl (.refl _))⟩,trivial⟩⟩⟩
  ·(conv=>whnf)
   exact ⟨g2,[],hm,⟨rfl,⟨r4,⟨rfl,Rz.refl _,trivial⟩,trivial⟩,⟨⟨⟨rfl,rfl,rfl,rfl,nofun⟩,trivial⟩,⟨rfl,rfl,(λ _ _=>.refl _)⟩,trivial⟩⟩⟩
 ·intro g2 hm
  (conv=>whnf)
  have hm:r=g2:=hm
  subst hm
  refine ⟨[1],[],?_⟩
  (conv=>whnf)
  exact ⟨⟨rfl,trivial,trivial⟩,sf⟩
theorem QB {x_:bq} {pX:List aD} {aiu:List Bool} {VL:List Int} (hm:rO x_ pX aiu VL r):S 195 [G9 x_,.ro [aV pX],.ro [aU aiu,aC VL]] [] (.bool r) [] :=sp Tryz.func195 rfl<|s2 hm λ _ _ hm=>sn hm λ _ hm=>sq hm iq λ v1 hm=>by cases hm;exact re
theorem yc {s_:List bq} {Bd:List aD} {BJ:List Bool} {BK:List Int} {r:Int} (hm:qK s_ Bd BJ BK r):S 231 [fM s_,.fn 195 [.ro [aV Bd],.ro [aU BJ,aC BK]]] [] (iV r) [] :=sp Tryz.func231 rfl<|l0 hm (λ g1=>⟨[(0,fM s_),(1,.fn 195 [.ro [aV Bd],.ro [aU BJ,aC BK]]),(7,iV (s_.length:Int)),(8,iV g1)],[],0⟩) <|λ aj g1 hm=>si hm (λ _ hm=>sn hm λ _ hm=>sq hm QB λ v3 hm=>si hm (λ _ hm=>by cases hm;exact re) λ _ hm=>sn hm λ _ hm=>le hm) λ _ hm=>by cases hm;exact re
theorem uK {s_:List bq} {Bd:List aD} {BJ:List Bool} {BK:List Int} (hm:kD s_ Bd BJ BK r):S 194 [fM s_,.fn 195 [.ro [aV Bd],.ro [aU BJ,aC BK]]] [] (.bool r) [] :=sp Tryz.func194 rfl<|sq hm yc λ v1 hm=>by cases hm;exact re
theorem FY {l_:List aD} {r_:dh} (hm:wZ l_ r_ d_ r):S 141 [aV l_,AZ r_,fM d_] [] (.bool r) [] :=sp Tryz.func141 rfl<|sq hm UG λ v1 hm=>sb hm λ v2 hv2 hm=>cl (λ q0=>(FX (hv2 q0)))<|si hm (λ _ hm=>by cases hm;exact re) λ _ hm=>sq hm zy λ v3 hm=>sq hm UH λ v4 hm=>lf hm (λ g1=>⟨[(2,fM d_),(3,.ptr 0 0 0),(4,.ptr 1 0 0),(7,aU v3),(8,aC v4),(28,aV l_),(29,iV (l_.length:Int)),(30,iV g1)],[(0,some (.box [aV l_])),(1,some (.box [aU r_.On,aC r_.dQ]))],2⟩) [(1,some 8)] [] <|λ aj g1 hm=>si hm (λ _ hm=>s2 hm λ _ _ hm=>si hm (λ _ hm=>sn hm λ _ hm=>si hm (λ _ hm=>by cases hm;exact re) λ _ hm=>sn hm λ _ hm=>le hm) λ _ hm=>s2 hm λ _ _ hm=>s2 hm λ _ _ hm=>s2 hm λ _ _ hm=>s2 hm λ _ _ hm=>si hm (λ _ hm=>by cases hm;exact re) λ _ hm=>sn hm λ _ hm=>le hm) λ _ hm=>sq hm uK λ v5 hm=>by cases hm;exact re
theorem UJ {l_:List aD} {r:dh×Int} (hm:Cy l_ d_ r):S 91 [aV l_,fM d_] [] (.kI [AZ r.1,iV r.2]) [] :=sp Tryz.func91 rfl<|sq hm UD λ v1 hm=>si hm (λ _ hm=>by cases hm;exact re) λ _ hm=>sq hm QA λ v2 hm=>sq hm zy λ v3 hm=>sb hm λ v4 hv4 hm=>cl (λ q0=>(FY (hv4 q0)))<|si hm (λ _ hm=>by cases hm;exact re) λ _ hm=>by cases hm;exact re
theorem SG {n_:aJ} {r:List Int} (hm:Gg n_ r):S 94 [wO n_] [] (aC r) [] :=sp Tryz.func94 rfl<|by cases hm;exact re
theorem Mk {r:List Int} (hm:Hu l_ ah r):S 93 [dO l_,aC ah,.fn 94 []] [] (aC r) [] :=sp Tryz.func93 rfl<|lf hm (λ g1=>⟨[(0,dO l_),(2,.fn 94 []),(7,.eF 0 0 g1.2.length false),(10,aC ah),(11,iV (ah.length:Int)),(12,iV g1.1)],[(0,some (.row 1 g1.2.length (bP iV 0 g1.2)))],1⟩) [(0,none)] [] <|λ aj g1 hm=>si hm (λ _ hm=>sn hm λ _ hm=>si hm (λ _ hm=>sn hm λ _ hm=>sq hm SG λ v3 hm=>s2 hm λ _ _ hm=>lc [(0,some 153)] [] hm) λ _ hm=>sn hm λ _ hm=>le hm) λ _ hm=>by cases hm;exact rt [0] []
theorem UK {l_:List eG} {eP:List Int} {r:List Bool} (hm:Cz l_ eP r):S 142 [dz l_,aC eP] [] (aU r) [] :=sp Tryz.func142 rfl<|sn hm λ _ hm=>lf hm (λ g1=>⟨[(0,dz l_),(5,.eF 0 0 g1.2.length false),(14,aC eP),(15,iV (eP.length:Int)),(16,iV g1.1)],[(0,some (.row 1 g1.2.length (bP AV.bool false g1.2)))],1⟩) [(0,some 24)] [] <|λ aj g1 hm=>si hm (λ _ hm=>s2 hm λ _ _ hm=>sn hm λ _ hm=>le hm) λ _ hm=>sn hm λ _ hm=>l0 hm (λ g2=>⟨[(0,dz l_),(5,.eF 0 0 g2.2.length false),(8,iV g2.1)],[(0,some (.row 1 g2.2.length (bP AV.bool false g2.2)))],1⟩) <|λ dJ g2 hm=>si hm (λ _ hm=>sn hm λ _ hm=>l0 hm (λ g5=>⟨[(0,dz l_),(5,.eF 0 0 g5.2.length false),(8,iV g2.1),(35,aC ((l_.getD g2.1.toNat dn).dY)),(36,iV ((((l_.getD g2.1.toNat dn).dY).length:Nat):Int)),(37,iV g5.1)],[(0,some (.row 1 g5.2.length (bP AV.bool false g5.2)))],1⟩) <|λ j5 g5 hm=>si hm (λ _ hm=>s2 hm λ _ _ hm=>s2 hm λ _ _ hm=>sn hm λ _ hm=>le hm) λ _ hm=>sn hm λ _ hm=>le hm) λ _ hm=>by cases hm;exact rt [0] []
theorem UL {l_:List eG} {eP:List Int} {r:List Bool×Int} (hm:CB l_ eP r):S 92 [dz l_,aC eP] [] (.kI [aU r.1,iV r.2]) [] :=sp Tryz.func92 rfl<|sq hm zu λ v1 hm=>si hm (λ _ hm=>by cases hm;exact re) λ _ hm=>l0 hm (λ g1=>⟨[(0,dz l_),(1,aC eP),(11,aC eP),(12,iV (eP.length:Int)),(13,iV g1)],[],0⟩) <|λ aj g1 hm=>si hm (λ _ hm=>sn hm λ _ hm=>si hm (λ _ hm=>by cases hm;exact re) λ _ hm=>sn hm λ _ hm=>le hm) λ _ hm=>sq hm UK λ v2 hm=>by cases hm;exact re
theorem SH {n_:aJ} {r:List Int} (hm:Gh n_ r):S 96 [wO n_] [] (aC r) [] :=sp Tryz.func96 rfl<|si hm (λ _ hm=>by cases hm;exact re) λ _ hm=>by cases hm;exact rt [56] []
theorem Gw {r:List Int} (hm:BL l_ ah r):S 93 [dO l_,aC ah,.fn 96 []] [] (aC r) [] :=sp Tryz.func93 rfl<|lf hm (λ g1=>⟨[(0,dO l_),(2,.fn 96 []),(7,.eF 0 0 g1.2.length false),(10,aC ah),(11,iV (ah.length:Int)),(12,iV g1.1)],[(0,some (.row 1 g1.2.length (bP iV 0 g1.2)))],1⟩) [(0,none)] [] <|λ aj g1 hm=>si hm (λ _ hm=>sn hm λ _ hm=>si hm (λ _ hm=>sn hm λ _ hm=>sq hm SH λ v3 hm=>s2 hm λ _ _ hm=>lc [(0,some 153)] [] hm) λ _ hm=>sn hm λ _ hm=>le hm) λ _ hm=>by cases hm;exact rt [0] []
theorem QC {l_:List dD} {eO:List Int} {r:Int} (hm:w9 l_ eO r):S 143 [bU l_,aC eO] [] (iV r) [] :=sp Tryz.func143 rfl<|sq hm xZ λ v1 hm=>si hm (λ _ hm=>by cases hm;exact re) λ _ hm=>l0 hm (λ g1=>⟨[(0,bU l_),(10,aC eO),(11,iV (eO.length:Int)),(12,iV g1)],[],0⟩) <|λ aj g1 hm=>si hm (λ _ hm=>sn hm λ _ hm=>si hm (λ _ hm=>by cases hm;exact re) λ _ hm=>sn hm λ _ hm=>le hm) λ _ hm=>by cases hm;exact re
theorem aaL {l_:List dD} {eO:List Int} {r:List Bool×Int} (hm:PG l_ eO r):S 95 [bU l_,aC eO] [] (.kI [aU r.1,iV r.2]) [] :=spc [9] Tryz.func95 rfl<|sq hm QC λ v1 hm=>si hm (λ _ hm=>by cases hm;exact re) λ _ hm=>s2 hm λ _ _ hm=>Vo [9] hm (λ g1=>⟨[(0,bU l_),(1,aC eO),(7,.eF 0 0 g1.2.length false),(8,iV g1.1)],[(0,some (.row 1 g1.2.length (bP AV.bool false g1.2)))],1⟩) [(0,some 80)] [] <|λ aj g1 hm=>si hm (λ _ hm=>ck [9] (JB l_ g1 aj) r (λ g4=>⟨[(0,bU l_),(1,aC eO),(7,.eF 0 0 g4.length false),(8,iV g1.1)],[(0,some (.row 1 g4.length (bP AV.bool false g4)))],1⟩) (s2 hm λ _ _ hm=>sb hm λ v7 hv7 hm=>cl (λ q0=>(gF (hv7 q0)))<|sn hm λ _ hm=>le hm) λ g4 hm=>s2 hm λ _ _ hm=>si hm (λ _ hm=>s2 hm λ _ _ hm=>sn hm λ _ hm=>le hm) λ _ hm=>sn hm λ _ hm=>le hm) λ _ hm=>by cases hm;exact rt [0] []
theorem tC {iQ:List aT} {r:List Int×List Bool×List Int×List Bool×List Bool×Int×Int×List aT} (hm:rP b_ l_ ah iQ r):S 46 [jy b_,dO l_,aC ah,dM iQ] [] (.kI [.agg [aC r.1,aU r.2.1,aC r.2.2.1,.eF 0 0 r.2.2.2.2.2.2.2.length false,aU r.2.2.2.1,aU r.2.2.2.2.1],iV r.2.2.2.2.2.1,iV r.2.2.2.2.2.2.1]) [.row 3 r.2.2.2.2.2.2.2.length (bP qJ bB r.2.2.2.2.2.2.2)] :=sp Tryz.func46 rfl<|sq hm Ux λ v1 hm=>sq hm Wm λ v2 hm=>si hm (λ _ hm=>sq hm OP λ v3 hm=>si hm (λ _ hm=>by cases hm;exact rt [] [(0,none)]) λ _ hm=>sq hm UC λ v4 hm=>si hm (λ _ hm=>by cases hm;exact rt [] [(0,none)]) λ _ hm=>sq hm UJ λ v5 hm=>si hm (λ _ hm=>by cases hm;exact rt [] [(0,none)]) λ _ hm=>lf hm (λ g1=>⟨[(1,dO l_),(2,aC ah),(4,.ptr 0 0 0),(8,.ptr 1 0 0),(16,.ptr 2 0 0),(64,dM iQ),(65,iV (iQ.length:Int)),(66,iV g1.1)],[(0,some (.box [bg b_.bR,aV b_.bD,iV b_.aR.bS,bA b_.aR.ay,dz b_.aY,bU b_.cB])),(1,some (.box [.sl 0 0 true fF,.sl 0 0 true fF,.sl 0 0 true fF,.sl 0 0 true fF,.sl 0 0 true fF,.sl 0 0 true fF])),(2,some (.box [aC v4.1,aU v5.1.On,aC v5.1.dQ,.eF 3 0 g1.2.length false,.sl 0 0 true fF,.sl 0 0 true fF])),(3,some (.row 3 g1.2.length (bP qJ bB g1.2)))],4⟩) [(1,some 8),(2,some 424),(3,none)] [] <|λ aj g1 hm=>si hm (λ _ hm=>sn hm λ _ hm=>sq hm gF λ v8 hm=>si hm (λ _ hm=>s2 hm λ _ _ hm=>lc [(3,some 108)] [] hm) λ _ hm=>sn hm λ _ hm=>le hm) λ _ hm=>sq hm Mk λ v9 hm=>sq hm UL λ v10 hm=>sq hm Gw λ v11 hm=>sq hm aaL λ v12 hm=>by cases hm;exact rt [] [(0,some 3)]) λ c1 hm=>by
 refine ⟨(λ q0=>absurd q0 (vac c1)),?_⟩
 (conv=>whnf)
 refine ⟨(λ q0=>absurd q0 (vac c1)),?_⟩
 (conv=>whnf)
 refine bf hm λ h13 hm=>?_
 (conv=>whnf)
 have hm:r=(([]:List Int),([]:List Bool),([]:List Int),([]:List Bool),([]:List Bool),(4:Int),(45:Int),([]:List aT)):=hm
 subst hm
 refine ⟨[],[(0,none)],?_⟩
 (conv=>whnf)
 exact ⟨⟨rfl,trivial,⟨rfl,trivial⟩⟩,⟨⟨⟨rfl,(λ h=>absurd rfl h),nofun,(λ _ h=>absurd h (Nat.not_lt_zero _))⟩,⟨rfl,(λ h=>absurd rfl h),nofun,(λ _ h=>absurd h (Nat.not_lt_zero _))⟩,⟨rfl,(λ h=>absurd rfl h),nofun,(λ _ h=>absurd h (Nat.not_lt_zero _))⟩,⟨rfl,rfl,rfl,rfl,rfl,rfl⟩,⟨rfl,(λ h=>absurd rfl h),nofun,(λ _ h=>absurd h (Nat.not_lt_zero _))⟩,⟨rfl,(λ h=>absurd rfl h),nofun,(λ _ h=>absurd h (Nat.not_lt_zero _))⟩,trivial⟩,r2,r2,trivial⟩⟩
theorem Yl {r:bF×Int} (hm:ZT b_ r):S 18 [jy b_] [] (.kI [kV r.1,iV r.2]) [] :=sp Tryz.func18 rfl<|sq hm IJ λ v1 hm=>si hm (λ _ hm=>by cases hm;exact re) λ _ hm=>sb hm λ v2 hv2 hm=>cl ((tC hv2).le ⟨.refl _,(.sl rfl (λ h=>absurd rfl h) nofun (λ _ h=>absurd h (Nat.not_lt_zero _))),(.sl rfl (λ h=>absurd rfl h) nofun (λ _ h=>absurd h (Nat.not_lt_zero _))),(.sl rfl (λ h=>absurd rfl h) nofun (λ _ h=>absurd h (Nat.not_lt_zero _))),trivial⟩ trivial)<|by cases hm;exact rt [72] []
theorem kP {Cr:Int} {oq:Int} (hm:qh x_ Cr oq r):S 207 [iV x_,iV Cr,iV oq] [] (.bool r) [] :=sp Tryz.func207 rfl<|by cases hm;exact re
theorem Ym {n_:aJ} {iG:Int} {r:Int} (hm:JC b_ n_ iG r):S 158 [jy b_,wO n_,iV iG] [] (iV r) [] :=sp Tryz.func158 rfl<|si hm (λ _ hm=>by cases hm;exact re) λ _ hm=>lf hm (λ g1=>⟨[(2,iV iG),(3,.ptr 0 0 0),(4,.ptr 1 0 0),(35,fB n_.bY),(36,iV (n_.bY.length:Int)),(37,iV g1)],[(0,some (.box [bg b_.bR,aV b_.bD,iV b_.aR.bS,bA b_.aR.ay,dz b_.aY,bU b_.cB])),(1,some (.box [fB n_.bY,fM n_.fJ,gG n_.ak,aC n_.aY,iV n_.fI,aC n_.bT]))],2⟩) [(1,some 8)] [] <|λ aj g1 hm=>si hm (λ _ hm=>s2 hm λ _ _ hm=>sq hm kP λ v3 hm=>si hm (λ _ hm=>by cases hm;exact re) λ _ hm=>sn hm λ _ hm=>le hm) λ _ hm=>l0 hm (λ g2=>⟨[(2,iV iG),(3,.ptr 0 0 0),(4,.ptr 1 0 0),(68,fM n_.fJ),(69,iV (n_.fJ.length:Int)),(70,iV g2)],[(0,some (.box [bg b_.bR,aV b_.bD,iV b_.aR.bS,bA b_.aR.ay,dz b_.aY,bU b_.cB])),(1,some (.box [fB n_.bY,fM n_.fJ,gG n_.ak,aC n_.aY,iV n_.fI,aC n_.bT]))],2⟩) <|λ dJ g2 hm=>si hm (λ _ hm=>s2 hm λ _ _ hm=>sq hm kP λ v8 hm=>sb hm λ v9 Sl hm=>cl (λ q0=>(kP (Sl q0)))<|si hm (λ _ hm=>by cases hm;exact re) λ _ hm=>sn hm λ _ hm=>le hm) λ _ hm=>l0 hm (λ g3=>⟨[(2,iV iG),(3,.ptr 0 0 0),(4,.ptr 1 0 0),(107,gG n_.ak),(108,iV (n_.ak.length:Int)),(109,iV g3)],[(0,some (.box [bg b_.bR,aV b_.bD,iV b_.aR.bS,bA b_.aR.ay,dz b_.aY,bU b_.cB])),(1,some (.box [fB n_.bY,fM n_.fJ,gG n_.ak,aC n_.aY,iV n_.fI,aC n_.bT]))],2⟩) <|λ jV g3 hm=>si hm (λ _ hm=>sn hm λ _ hm=>sq hm xY λ v12 hm=>si hm (λ _ hm=>by cases hm;exact re) λ _ hm=>sn hm λ _ hm=>le hm) λ _ hm=>l0 hm (λ g4=>⟨[(2,iV iG),(3,.ptr 0 0 0),(4,.ptr 1 0 0),(118,aC n_.aY),(119,iV (n_.aY.length:Int)),(120,iV g4)],[(0,some (.box [bg b_.bR,aV b_.bD,iV b_.aR.bS,bA b_.aR.ay,dz b_.aY,bU b_.cB])),(1,some (.box [fB n_.bY,fM n_.fJ,gG n_.ak,aC n_.aY,iV n_.fI,aC n_.bT]))],2⟩) <|λ jk g4 hm=>si hm (λ _ hm=>s2 hm λ _ _ hm=>sq hm kP λ v15 hm=>si hm (λ _ hm=>by cases hm;exact re) λ _ hm=>sn hm λ _ hm=>le hm) λ _ hm=>sn hm λ _ hm=>sq hm kP λ v16 hm=>si hm (λ _ hm=>by cases hm;exact re) λ _ hm=>lf hm (λ g5=>⟨[(2,iV iG),(4,.ptr 0 0 0),(141,aC n_.bT),(142,iV (n_.bT.length:Int)),(143,iV g5)],[(0,some (.box [fB n_.bY,fM n_.fJ,gG n_.ak,aC n_.aY,iV n_.fI,aC n_.bT]))],1⟩) [(0,some 1)] [] <|λ j5 g5 hm=>si hm (λ _ hm=>s2 hm λ _ _ hm=>sq hm kP λ v19 hm=>si hm (λ _ hm=>by cases hm;exact re) λ _ hm=>sn hm λ _ hm=>le hm) λ _ hm=>l0 hm (λ g6=>⟨[(4,.ptr 0 0 0),(17,iV g6)],[(0,some (.box [fB n_.bY,fM n_.fJ,gG n_.ak,aC n_.aY,iV n_.fI,aC n_.bT]))],1⟩) <|λ jG g6 hm=>si hm (λ _ hm=>s2 hm λ _ _ hm=>sn hm λ _ hm=>si hm (λ _ hm=>by cases hm;exact re) λ _ hm=>sn hm λ _ hm=>le hm) λ _ hm=>by cases hm;exact re
theorem LK {r:Int} (hm:DL b_ l_ r):S 110 [jy b_,dO l_] [] (iV r) [] :=sp Tryz.func110 rfl<|sq hm IJ λ v1 hm=>si hm (λ _ hm=>by cases hm;exact re) λ _ hm=>si hm (λ _ hm=>by cases hm;exact re) λ _ hm=>l0 hm (λ g1=>⟨[(1,dO l_),(2,.ptr 0 0 0),(17,dO l_),(18,iV (l_.length:Int)),(19,iV g1)],[(0,some (.box [bg b_.bR,aV b_.bD,iV b_.aR.bS,bA b_.aR.ay,dz b_.aY,bU b_.cB]))],1⟩) <|λ aj g1 hm=>si hm (λ _ hm=>sn hm λ _ hm=>sq hm Ym λ v4 hm=>si hm (λ _ hm=>by cases hm;exact re) λ _ hm=>sn hm λ _ hm=>le hm) λ _ hm=>by cases hm;exact re
theorem IK {r:Int} (hm:Ah b_ l_ ah r):S 61 [jy b_,dO l_,aC ah] [] (iV r) [] :=sp Tryz.func61 rfl<|sq hm LK λ v1 hm=>si hm (λ _ hm=>by cases hm;exact re) λ _ hm=>l0 hm (λ g1=>⟨[(1,dO l_),(2,aC ah),(16,aC ah),(17,iV (ah.length:Int)),(18,iV g1)],[],0⟩) <|λ aj g1 hm=>si hm (λ _ hm=>s2 hm λ _ _ hm=>sb hm λ v4 hv4 hm=>cl (λ q0=>((gF (hv4 q0)).le ⟨(.sl oz (λ _=>rfl) nofun (l8 (f:=iV) (d:=0) (by first | omega | exact Nat.min_le_left _ _ | exact Nat.le_trans (Nat.min_le_left _ _) om | (simp; omega)))),.refl _,trivial⟩ trivial))<|si hm (λ _ hm=>by cases hm;exact re) λ _ hm=>sn hm λ _ hm=>le hm) λ _ hm=>by cases hm;exact re
theorem OU (hm:uP l_ ah r):S 210 [dO l_,aC ah] [] (.bool r) [] :=sp Tryz.func210 rfl<|l0 hm (λ g1=>⟨[(0,dO l_),(1,aC ah),(7,aC ah),(8,iV (ah.length:Int)),(9,iV g1)],[],0⟩) <|λ aj g1 hm=>si hm (λ _ hm=>s2 hm λ _ _ hm=>sq hm kP λ v5 hm=>sn hm λ _ hm=>sb hm λ v6 hv6 hm=>cl (λ q0=>((gF (hv6 q0)).le ⟨(.sl oz (λ _=>rfl) nofun (l8 (f:=iV) (d:=0) (by first | omega | exact Nat.min_le_left _ _ | exact Nat.le_trans (Nat.min_le_left _ _) om | (simp; omega)))),.refl _,trivial⟩ trivial))<|si hm (λ _ hm=>by cases hm;exact re) λ _ hm=>sn hm λ _ hm=>le hm) λ _ hm=>by cases hm;exact re
theorem J9 {s_:gY} (hm:qL s_ r):S 167 [Jr s_] [] (.bool r) [] :=sp Tryz.func167 rfl<|sq hm OU λ v1 hm=>si hm (λ _ hm=>by cases hm;exact re) λ _ hm=>lf hm (λ g1=>⟨[(1,.ptr 0 0 0),(4,.ptr 1 0 0),(67,bg s_.bG.bR),(68,iV (s_.bG.bR.length:Int)),(69,iV g1)],[(0,some (.box [bg s_.bG.bR,aV s_.bG.bD,iV s_.bG.aR.bS,bA s_.bG.aR.ay,dz s_.bG.aY,bU s_.bG.cB,dO s_.dB,aC s_.aQ,aC s_.aW.dA,aU s_.aW.fA.On,aC s_.aW.fA.dQ,dM s_.aW.dP,aU s_.aW.dU,aU s_.aW.fq,.bool s_.jO])),(1,some (.box [aC s_.aW.dA,aU s_.aW.fA.On,aC s_.aW.fA.dQ,dM s_.aW.dP,aU s_.aW.dU,aU s_.aW.fq]))],2⟩) [(1,some 56)] [] <|λ aj g1 hm=>si hm (λ _ hm=>s2 hm λ _ _ hm=>sn hm λ _ hm=>sq hm kP λ v4 hm=>si hm (λ _ hm=>by cases hm;exact re) λ _ hm=>sn hm λ _ hm=>le hm) λ _ hm=>l0 hm (λ g2=>⟨[(1,.ptr 0 0 0),(87,dM s_.aW.dP),(88,iV (s_.aW.dP.length:Int)),(89,iV g2)],[(0,some (.box [bg s_.bG.bR,aV s_.bG.bD,iV s_.bG.aR.bS,bA s_.bG.aR.ay,dz s_.bG.aY,bU s_.bG.cB,dO s_.dB,aC s_.aQ,aC s_.aW.dA,aU s_.aW.fA.On,aC s_.aW.fA.dQ,dM s_.aW.dP,aU s_.aW.dU,aU s_.aW.fq,.bool s_.jO]))],1⟩) <|λ dJ g2 hm=>si hm (λ _ hm=>s2 hm λ _ _ hm=>sq hm kP λ v7 hm=>si hm (λ _ hm=>by cases hm;exact re) λ _ hm=>sn hm λ _ hm=>le hm) λ _ hm=>by cases hm;exact re
theorem Cc {l_:List aI} {r:List bK} (hm:rQ l_ s_ r):S 225 [bg l_,aC s_] [] (rD r) [] :=sp Tryz.func225 rfl<|sn hm λ _ hm=>lf hm (λ g1=>⟨[(0,bg l_),(1,aC s_),(5,.eF 0 0 g1.2.length false),(13,bg l_),(14,iV (l_.length:Int)),(15,iV g1.1)],[(0,some (.row 2 g1.2.length (bP qg dS g1.2)))],1⟩) [(0,some 24)] [] <|λ aj g1 hm=>si hm (λ _ hm=>s2 hm λ _ _ hm=>sn hm λ _ hm=>sq hm FV λ v7 hm=>si hm (λ _ hm=>s2 hm λ _ _ hm=>le hm) λ _ hm=>sn hm λ _ hm=>si hm (λ _ hm=>s2 hm λ _ _ hm=>le hm) λ _ hm=>si hm (λ _ hm=>sn hm λ _ hm=>sq hm OQ λ v8 hm=>s2 hm λ _ _ hm=>le hm) λ _ hm=>si hm (λ _ hm=>sn hm λ _ hm=>sq hm LJ λ v9 hm=>s2 hm λ _ _ hm=>le hm) λ _ hm=>s2 hm λ _ _ hm=>sn hm λ _ hm=>le hm) λ _ hm=>by cases hm;exact rt [0] []
theorem SI {x_:bM} {pX:List bK} (hm:uy x_ pX r):S 234 [yY x_,.ro [rD pX]] [] (.bool r) [] :=sp Tryz.func234 rfl<|s2 hm λ _ _ hm=>sb hm λ v1 hv1 hm=>cl (λ q0=>(zx (hv1 q0)))<|by cases hm;exact re
theorem wH {s_:List bM} {f_:List bK} {r:Int} (hm:qj s_ f_ r):S 241 [fB s_,.fn 234 [.ro [rD f_]]] [] (iV r) [] :=sp Tryz.func241 rfl<|l0 hm (λ g1=>⟨[(0,fB s_),(1,.fn 234 [.ro [rD f_]]),(7,iV (s_.length:Int)),(8,iV g1)],[],0⟩) <|λ aj g1 hm=>si hm (λ _ hm=>sn hm λ _ hm=>sq hm SI λ v3 hm=>si hm (λ _ hm=>by cases hm;exact re) λ _ hm=>sn hm λ _ hm=>le hm) λ _ hm=>by cases hm;exact re
theorem ug {s_:List bM} {f_:List bK} (hm:jZ s_ f_ r):S 222 [fB s_,.fn 234 [.ro [rD f_]]] [] (.bool r) [] :=sp Tryz.func222 rfl<|sq hm wH λ v1 hm=>by cases hm;exact re
theorem Ws {l_:List aI} (hm:Fb l_ s_ m_ r):S 211 [bg l_,aC s_,fB m_] [] (.bool r) [] :=sp Tryz.func211 rfl<|sq hm FU λ v1 hm=>sb hm λ v2 hv2 hm=>cl (λ q0=>(vK (hv2 q0)))<|si hm (λ _ hm=>by cases hm;exact re) λ _ hm=>sq hm Cc λ v3 hm=>lf hm (λ g1=>⟨[(2,fB m_),(7,.ptr 0 0 0),(23,bg l_),(24,iV (l_.length:Int)),(25,iV g1)],[(0,some (.box [rD v3]))],1⟩) [(0,some 112)] [] <|λ aj g1 hm=>si hm (λ _ hm=>s2 hm λ _ _ hm=>sn hm λ _ hm=>sb hm λ v6 hv6 hm=>cl (λ q0=>(zx (hv6 q0)))<|si hm (λ _ hm=>by cases hm;exact re) λ _ hm=>sn hm λ _ hm=>le hm) λ _ hm=>sq hm ug λ v7 hm=>by cases hm;exact re
theorem IL {s_:gY} (hm:pq s_ r):S 168 [Jr s_] [] (.bool r) [] :=sp Tryz.func168 rfl<|sb hm λ v1 hv1 hm=>cl ((Ws hv1).le ⟨.refl _,.refl _,(.sl rfl (λ h=>absurd rfl h) nofun (λ _ h=>absurd h (Nat.not_lt_zero _))),trivial⟩ trivial)<|by cases hm;exact re
theorem QD {l_:List aI} {r:List bK×Int} (hm:xg l_ s_ r):S 186 [bg l_,aC s_] [] (.kI [rD r.1,iV r.2]) [] :=sp Tryz.func186 rfl<|sq hm oF λ v1 hm=>si hm (λ _ hm=>by cases hm;exact re) λ _ hm=>sq hm vK λ v2 hm=>si hm (λ _ hm=>by cases hm;exact re) λ _ hm=>sq hm Cc λ v3 hm=>by cases hm;exact re
theorem IQ {s_:gY} (hm:pz s_ r):S 169 [Jr s_] [] (.bool r) [] :=sp Tryz.func169 rfl<|sq hm QD λ v1 hm=>si hm (λ _ hm=>by cases hm;exact re) λ _ hm=>l0 hm (λ g1=>⟨[(1,.ptr 0 0 0),(3,rD v1.1),(23,aC s_.aQ),(24,iV (s_.aQ.length:Int)),(25,iV g1)],[(0,some (.box [bg s_.bG.bR,aV s_.bG.bD,iV s_.bG.aR.bS,bA s_.bG.aR.ay,dz s_.bG.aY,bU s_.bG.cB,dO s_.dB,aC s_.aQ,aC s_.aW.dA,aU s_.aW.fA.On,aC s_.aW.fA.dQ,dM s_.aW.dP,aU s_.aW.dU,aU s_.aW.fq,.bool s_.jO]))],1⟩) <|λ aj g1 hm=>si hm (λ _ hm=>s2 hm λ _ _ hm=>l0 hm (λ g4=>⟨[(1,.ptr 0 0 0),(3,rD v1.1),(23,aC s_.aQ),(24,iV (s_.aQ.length:Int)),(25,iV g1),(34,fB ((s_.dB.getD ((s_.aQ.getD g1.toNat 0).toNat) aZ).bY)),(35,iV ((((s_.dB.getD ((s_.aQ.getD g1.toNat 0).toNat) aZ).bY).length:Nat):Int)),(36,iV g4)],[(0,some (.box [bg s_.bG.bR,aV s_.bG.bD,iV s_.bG.aR.bS,bA s_.bG.aR.ay,dz s_.bG.aY,bU s_.bG.cB,dO s_.dB,aC s_.aQ,aC s_.aW.dA,aU s_.aW.fA.On,aC s_.aW.fA.dQ,dM s_.aW.dP,aU s_.aW.dU,aU s_.aW.fq,.bool s_.jO]))],1⟩) <|λ jk g4 hm=>si hm (λ _ hm=>s2 hm λ _ _ hm=>s2 hm λ _ _ hm=>si hm (λ _ hm=>by cases hm;exact re) λ _ hm=>sn hm λ _ hm=>le hm) λ _ hm=>sn hm λ _ hm=>le hm) λ _ hm=>by cases hm;exact re
theorem pV {s_:List Bool} {r:List Bool} (hm:lH s_ r):S 103 [aU s_] [] (.eF 0 0 r.length false) [.row 1 r.length (bP AV.bool false r)] :=by
 obtain ⟨h1,hm⟩:=hm
 have hm:r=s_:=hm
 subst hm
 refine nJ (ct:=[1]) iR Tryz.func103 rfl rfl (Nat.le_of_ble_eq_true rfl) dk (Nat.le_of_ble_eq_true rfl) ?_
 (conv=>whnf)
 refine ZO (ct:=[]) iR (iR.slice (t:=36) (e:=4) rfl rfl rfl).1 dk dk dk dk dk [(2,.sl 0 0 true fF),(0,aU r)] [] 8 rfl ?_ (λ hn=>?_) ?_
 ·exact rfl
 ·(conv=>whnf)
  have hn:r.length=0:=hn
  refine ⟨[],[(0,none)],?_⟩
  (conv=>whnf)
  exact ⟨⟨rfl,trivial,⟨hn,trivial⟩⟩,⟨rfl,rfl,rfl,rfl,rfl,hn⟩⟩
 ·(conv=>whnf)
  refine ⟨by rw [Nat.zero_add]; exact h1,?_⟩
  (conv=>whnf)
  refine ⟨[],[(0,some 24)],?_⟩
  (conv=>whnf)
  exact ⟨⟨rfl,trivial,⟨⟨rfl,Nat.zero_add _,jL (l:=[]) rfl (λ _ h=>absurd h (Nat.not_lt_zero _)) rfl (λ _ _=>.refl _)⟩,trivial⟩⟩,⟨rfl,rfl,rfl,Nat.zero_add _,nofun⟩⟩
theorem nM {r:List Int} (hm:jU s_ r):S 47 [aC s_] [] (.eF 0 0 r.length false) [.row 1 r.length (bP iV 0 r)] :=by
 obtain ⟨h1,hm⟩:=hm
 have hm:r=s_:=hm
 subst hm
 refine nJ (ct:=[1]) iR Tryz.func47 rfl rfl (Nat.le_of_ble_eq_true rfl) dk (Nat.le_of_ble_eq_true rfl) ?_
 (conv=>whnf)
 refine ZO (ct:=[]) iR (iR.slice (t:=22) (e:=3) rfl rfl rfl).1 dk dk dk dk dk [(2,.sl 0 0 true fF),(0,aC r)] [] 8 rfl ?_ (λ hn=>?_) ?_
 ·exact rfl
 ·(conv=>whnf)
  have hn:r.length=0:=hn
  refine ⟨[],[(0,none)],?_⟩
  (conv=>whnf)
  exact ⟨⟨rfl,trivial,⟨hn,trivial⟩⟩,⟨rfl,rfl,rfl,rfl,rfl,hn⟩⟩
 ·(conv=>whnf)
  refine ⟨by rw [Nat.zero_add]; exact h1,?_⟩
  (conv=>whnf)
  refine ⟨[],[(0,some 24)],?_⟩
  (conv=>whnf)
  exact ⟨⟨rfl,trivial,⟨⟨rfl,Nat.zero_add _,jL (l:=[]) rfl (λ _ h=>absurd h (Nat.not_lt_zero _)) rfl (λ _ _=>.refl _)⟩,trivial⟩⟩,⟨rfl,rfl,rfl,Nat.zero_add _,nofun⟩⟩
theorem OV {r_:dh} {r:dh} (hm:Hy r_ r):S 101 [AZ r_] [] (AZ r) [] :=sp Tryz.func101 rfl<|sq hm pV λ v1 hm=>sq hm nM λ v2 hm=>by cases hm;exact rt [32,56] []
theorem EK {s_:gY} (hm:nu s_ r):S 170 [Jr s_] [] (.bool r) [] :=sp Tryz.func170 rfl<|lf hm (λ g1=>⟨[(1,.ptr 0 0 0),(3,.eF 1 0 g1.2.length false),(7,aC s_.aQ),(8,iV (s_.aQ.length:Int)),(9,iV g1.1)],[(0,some (.box [bg s_.bG.bR,aV s_.bG.bD,iV s_.bG.aR.bS,bA s_.bG.aR.ay,dz s_.bG.aY,bU s_.bG.cB,dO s_.dB,aC s_.aQ,aC s_.aW.dA,aU s_.aW.fA.On,aC s_.aW.fA.dQ,dM s_.aW.dP,aU s_.aW.dU,aU s_.aW.fq,.bool s_.jO])),(1,some (.row 4 g1.2.length (bP G9 dG g1.2)))],2⟩) [(1,none)] [] <|λ aj g1 hm=>si hm (λ _ hm=>s2 hm λ _ _ hm=>s2 hm λ _ _ hm=>lc [(1,some 90)] [] hm) λ _ hm=>sq hm OV λ v1 hm=>sq hm FY λ v2 hm=>by cases hm;exact re
theorem Wt {l_:List oJ} {r:((Nat→Int)×Int)} (hm:Fe p_ l_ r):S 235 [lX p_,QS l_] [] (.kI [ams r.1,iV r.2]) [] :=sp Tryz.func235 rfl<|lf hm (λ g1=>⟨[(1,QS l_),(2,.ptr 0 0 0),(4,.ptr 1 0 0),(6,.ptr 2 0 0),(13,iV g1.1)],[(0,some (.box [iV p_.bS,bA p_.ay])),(1,some (.row 1 64 (L8 iV g1.2.1))),(2,some (.row 1 64 (L8 iV g1.2.2)))],3⟩) [(1,some 8),(2,some 24)] [] <|λ aj g1 hm=>si hm (λ _ hm=>s2 hm λ _ _ hm=>le hm) λ _ hm=>sq hm uX λ v1 hm=>si hm (λ _ hm=>by cases hm;exact re) λ _ hm=>sn hm λ _ hm=>lf hm (λ g2=>⟨[(2,.ptr 0 0 0),(4,.ptr 1 0 0),(6,.ptr 2 0 0),(8,.eF 3 0 g2.2.2.length false),(27,QS l_),(28,iV (l_.length:Int)),(29,iV g2.1)],[(0,some (.box [iV p_.bS,bA p_.ay])),(1,some (.row 1 64 (L8 iV g1.2.1))),(2,some (.row 1 64 (L8 iV g2.2.1))),(3,some (.row 1 g2.2.2.length (bP AV.bool false g2.2.2)))],4⟩) [(3,some 59)] [] <|λ dJ g2 hm=>si hm (λ _ hm=>s2 hm λ _ _ hm=>si hm (λ _ hm=>by cases hm;exact re) λ _ hm=>sn hm λ _ hm=>si hm (λ _ hm=>by cases hm;exact re) λ _ hm=>s2 hm λ _ _ hm=>lf hm (λ g5=>⟨[(2,.ptr 0 0 0),(4,.ptr 1 0 0),(6,.ptr 2 0 0),(8,.eF 3 0 g5.2.2.length false),(10,.ptr 4 0 0),(27,QS l_),(28,iV (l_.length:Int)),(29,iV g2.1),(79,aC ((p_.ay.getD (((l_.getD g2.1.toNat fU).dx).toNat) aG).bS)),(80,iV ((((p_.ay.getD (((l_.getD g2.1.toNat fU).dx).toNat) aG).bS).length:Nat):Int)),(81,iV g5.1)],[(0,some (.box [iV p_.bS,bA p_.ay])),(1,some (.row 1 64 (L8 iV g1.2.1))),(2,some (.row 1 64 (L8 iV g5.2.1))),(3,some (.row 1 g5.2.2.length (bP AV.bool false g5.2.2))),(4,some (.box [iV ((l_.getD g2.1.toNat fU).dx),iV ((l_.getD g2.1.toNat fU).gy)]))],5⟩) [(4,some 28)] [] <|λ j5 g5 hm=>si hm (λ _ hm=>s2 hm λ _ _ hm=>si hm (λ _ hm=>by cases hm;exact re) λ _ hm=>s2 hm λ _ _ hm=>le hm) λ _ hm=>sn hm λ _ hm=>le hm) λ _ hm=>by cases hm;exact re
theorem Gx {s_:Nat} {r:List Int} (hm:nT s_ dF r):S 47 [.eF 0 0 s_ false] [.row 1 dF.length (bP iV 0 dF)] (.eF 1 0 r.length false) [.row 1 dF.length (bP iV 0 dF),.row 1 r.length (bP iV 0 r)] :=by
 obtain ⟨⟨h0,h1⟩,hm⟩:=hm
 have hm:r=dF.take s_:=hm
 have hl:r.length=s_:=by rw [hm,List.length_take]; omega
 refine nJ (ct:=[1]) iR Tryz.func47 rfl rfl (Nat.le_of_ble_eq_true rfl) dk (Nat.le_of_ble_eq_true rfl) ?_
 (conv=>whnf)
 refine RO (ct:=[]) iR (iR.slice (t:=22) (e:=3) rfl rfl rfl).1 dk dk dk dk dk [(2,.sl 0 0 true fF),(0,.eF 0 0 s_ false)] [(0,some (.row 1 dF.length (bP iV 0 dF)))] 9 rfl rfl ?_ (λ hn=>?_) ?_
 ·exact rfl
 ·(conv=>whnf)
  have hn:r.length=0:=hl.trans hn
  refine ⟨[],[(1,none)],?_⟩
  (conv=>whnf)
  exact ⟨⟨rfl,trivial,⟨⟨rfl,rfl,λ _ _=>.refl _⟩,hn,trivial⟩⟩,⟨rfl,rfl,rfl,rfl,rfl,hn⟩⟩
 ·(conv=>whnf)
  refine ⟨by rw [Nat.zero_add]; exact h1,?_⟩
  (conv=>whnf)
  refine ⟨[],[(1,some 25)],?_⟩
  (conv=>whnf)
  subst hm
  exact ⟨⟨rfl,trivial,⟨⟨rfl,rfl,λ _ _=>.refl _⟩,⟨rfl,(Nat.zero_add _).trans hl.symm,jL (l:=[]) rfl (λ _ h=>absurd h (Nat.not_lt_zero _)) hl.symm (l8 (f:=iV) (d:=0) h0)⟩,trivial⟩⟩,⟨rfl,rfl,rfl,(Nat.zero_add _).trans hl.symm,nofun⟩⟩
theorem Wu {l_:List oJ} {r:List Int×Int} (hm:Fg p_ l_ r):S 212 [lX p_,QS l_] [] (.kI [aC r.1,iV r.2]) [] :=spc [4,6] Tryz.func212 rfl<|sq hm Wt λ v1 hm=>ck [4,6] (DR p_) r (λ g1=>⟨[(2,.ptr 0 0 0),(6,.ptr 1 0 0)],[(0,some (.box [iV p_.bS,bA p_.ay])),(1,some (.row 1 64 (L8 iV g1)))],2⟩) (si hm (λ _ hm=>by cases hm;exact re) λ _ hm=>lce [(1,some 72)] [] hm ⟨rfl,⟨r4,r4,trivial⟩,⟨⟨r2,sr,trivial⟩,⟨rfl,rfl,(ab1 (f:=iV) (X:=v1.1) (n:=64) (λ _=>rfl))⟩,trivial⟩⟩) λ g1 hm=>sn hm λ _ hm=>sb hm λ v2 hv2 hm=>cl ((Gx hv2).le ⟨.refl _,trivial⟩ ⟨⟨rfl,oz,(amr (f:=iV) (X:=g1))⟩,trivial⟩)<|by cases hm;exact rt [26] []
theorem Ml {s_:gY} (hm:sJ s_ r):S 171 [Jr s_] [] (.bool r) [] :=sp Tryz.func171 rfl<|lf hm (λ g1=>⟨[(1,.ptr 0 0 0),(3,.eF 1 0 g1.2.length false),(10,dM s_.aW.dP),(11,iV (s_.aW.dP.length:Int)),(12,iV g1.1)],[(0,some (.box [bg s_.bG.bR,aV s_.bG.bD,iV s_.bG.aR.bS,bA s_.bG.aR.ay,dz s_.bG.aY,bU s_.bG.cB,dO s_.dB,aC s_.aQ,aC s_.aW.dA,aU s_.aW.fA.On,aC s_.aW.fA.dQ,dM s_.aW.dP,aU s_.aW.dU,aU s_.aW.fq,.bool s_.jO])),(1,some (.row 2 g1.2.length (bP amt fU g1.2)))],2⟩) [(1,none)] [] <|λ aj g1 hm=>si hm (λ _ hm=>s2 hm λ _ _ hm=>sn hm λ _ hm=>lc [(1,some 74)] [] hm) λ _ hm=>sq hm Wu λ v1 hm=>by cases hm;exact re
theorem Es {s_:gY} (hm:mJ s_ r):S 172 [Jr s_] [] (.bool r) [] :=sp Tryz.func172 rfl<|l0 hm (λ g1=>⟨[(1,.ptr 0 0 0),(11,aC s_.aQ),(12,iV (s_.aQ.length:Int)),(13,iV g1)],[(0,some (.box [bg s_.bG.bR,aV s_.bG.bD,iV s_.bG.aR.bS,bA s_.bG.aR.ay,dz s_.bG.aY,bU s_.bG.cB,dO s_.dB,aC s_.aQ,aC s_.aW.dA,aU s_.aW.fA.On,aC s_.aW.fA.dQ,dM s_.aW.dP,aU s_.aW.dU,aU s_.aW.fq,.bool s_.jO]))],1⟩) <|λ aj g1 hm=>si hm (λ _ hm=>sn hm λ _ hm=>lf hm (λ g6=>⟨[(1,.ptr 0 0 0),(4,iV (s_.aQ.getD g1.toNat 0)),(5,.mref 1),(11,aC s_.aQ),(12,iV (s_.aQ.length:Int)),(13,iV g1),(20,dM s_.aW.dP),(21,iV (s_.aW.dP.length:Int)),(22,iV g6.1)],[(0,some (.box [bg s_.bG.bR,aV s_.bG.bD,iV s_.bG.aR.bS,bA s_.bG.aR.ay,dz s_.bG.aY,bU s_.bG.cB,dO s_.dB,aC s_.aQ,aC s_.aW.dA,aU s_.aW.fA.On,aC s_.aW.fA.dQ,dM s_.aW.dP,aU s_.aW.dU,aU s_.aW.fq,.bool s_.jO])),(1,some (.map .str [(.int .i64)] g6.2))],2⟩) [(1,some 33)] [] <|λ jG g6 hm=>si hm (λ _ hm=>sn hm λ _ hm=>si hm (λ _ hm=>s2 hm λ _ _ hm=>s2 hm λ _ _ hm=>le hm) λ _ hm=>sn hm λ _ hm=>le hm) λ _ hm=>sn hm λ _ hm=>l0 hm (λ g7=>⟨[(1,.ptr 0 0 0),(5,.mref 1),(11,aC s_.aQ),(12,iV (s_.aQ.length:Int)),(13,iV g1),(54,gG ((s_.dB.getD ((s_.aQ.getD g1.toNat 0).toNat) aZ).ak)),(55,iV ((((s_.dB.getD ((s_.aQ.getD g1.toNat 0).toNat) aZ).ak).length:Nat):Int)),(56,iV g7.1)],[(0,some (.box [bg s_.bG.bR,aV s_.bG.bD,iV s_.bG.aR.bS,bA s_.bG.aR.ay,dz s_.bG.aY,bU s_.bG.cB,dO s_.dB,aC s_.aQ,aC s_.aW.dA,aU s_.aW.fA.On,aC s_.aW.fA.dQ,dM s_.aW.dP,aU s_.aW.dU,aU s_.aW.fq,.bool s_.jO])),(1,some (.map .str [(.int .i64)] g7.2))],2⟩) <|λ nQ g7 hm=>si hm (λ _ hm=>s2 hm λ _ _ hm=>si hm (λ _ hm=>by cases hm;exact re) λ _ hm=>sn hm λ _ hm=>le hm) λ _ hm=>sn hm λ _ hm=>le hm) λ _ hm=>by cases hm;exact re
theorem UM {l_:List eG} {dL:List Bool} (hm:CF l_ dL r):S 236 [dz l_,aU dL] [] (.bool r) [] :=sp Tryz.func236 rfl<|si hm (λ _ hm=>by cases hm;exact re) λ _ hm=>l0 hm (λ g1=>⟨[(1,aU dL),(14,dz l_),(15,iV (l_.length:Int)),(16,iV g1)],[],0⟩) <|λ aj g1 hm=>si hm (λ _ hm=>sn hm λ _ hm=>l0 hm (λ g4=>⟨[(1,aU dL),(5,iV g1),(14,dz l_),(15,iV (l_.length:Int)),(16,iV g1),(22,aC ((l_.getD g1.toNat dn).dY)),(23,iV ((((l_.getD g1.toNat dn).dY).length:Nat):Int)),(24,iV g4)],[],0⟩) <|λ jk g4 hm=>si hm (λ _ hm=>s2 hm λ _ _ hm=>sn hm λ _ hm=>si hm (λ _ hm=>by cases hm;exact re) λ _ hm=>sn hm λ _ hm=>le hm) λ _ hm=>sn hm λ _ hm=>le hm) λ _ hm=>by cases hm;exact re
theorem UN {l_:List eG} {dL:List Bool} (hm:CG l_ dL r):S 213 [dz l_,aU dL] [] (.bool r) [] :=sp Tryz.func213 rfl<|sq hm zu λ v1 hm=>sb hm λ v2 hv2 hm=>cl (λ q0=>(UM (hv2 q0)))<|by cases hm;exact re
theorem EL {Ns:Int} {Bb:List aI} {vB:List aD} {ZU:Int} {ZV:List cK} {ZW:List eG} {ZX:List dD} {Gi:List aJ} {ZY:List Int} {Z0:List Int} {Z4:List Bool} {Nt:List Int} {Nu:List aT} {DT:List Bool} {DU:List Bool} {Nv:Bool} (hm:kW Ns Bb vB ZU ZV ZW ZX Gi ZY Z0 Z4 Nt Nu DT DU Nv r):S 214 [iV Ns,.ro [bg Bb,aV vB,iV ZU,bA ZV,dz ZW,bU ZX,dO Gi,aC ZY,aC Z0,aU Z4,aC Nt,dM Nu,aU DT,aU DU,.bool Nv]] [] (.bool r) [] :=sp Tryz.func214 rfl<|sn hm λ _ hm=>by cases hm;exact re
variable {Bd:List aI} {BJ:List aD} {BK:Int} {RS:List cK} {RU:List eG} {RX:List dD} {L9:List aJ} {RY:List Int} {RZ:List Int} {R3:List Bool} {vC:List Int} {vD:List aT} {sK:List Bool} {sM:List Bool} {vE:Bool}
theorem Bw {r:Int} (hm:vU s_ Bd BJ BK RS RU RX L9 RY RZ R3 vC vD sK sM vE r):S 130 [aC s_,.fn 214 [.ro [bg Bd,aV BJ,iV BK,bA RS,dz RU,bU RX,dO L9,aC RY,aC RZ,aU R3,aC vC,dM vD,aU sK,aU sM,.bool vE]]] [] (iV r) [] :=sp Tryz.func130 rfl<|l0 hm (λ g1=>⟨[(0,aC s_),(1,.fn 214 [.ro [bg Bd,aV BJ,iV BK,bA RS,dz RU,bU RX,dO L9,aC RY,aC RZ,aU R3,aC vC,dM vD,aU sK,aU sM,.bool vE]]),(7,iV (s_.length:Int)),(8,iV g1)],[],0⟩) <|λ aj g1 hm=>si hm (λ _ hm=>sn hm λ _ hm=>sq hm EL λ v3 hm=>si hm (λ _ hm=>by cases hm;exact re) λ _ hm=>sn hm λ _ hm=>le hm) λ _ hm=>by cases hm;exact re
theorem yB (hm:mg s_ Bd BJ BK RS RU RX L9 RY RZ R3 vC vD sK sM vE r):S 200 [aC s_,.fn 214 [.ro [bg Bd,aV BJ,iV BK,bA RS,dz RU,bU RX,dO L9,aC RY,aC RZ,aU R3,aC vC,dM vD,aU sK,aU sM,.bool vE]]] [] (.bool r) [] :=sp Tryz.func200 rfl<|sq hm Bw λ v1 hm=>by cases hm;exact re
theorem IU {s_:gY} (hm:pE s_ r):S 173 [Jr s_] [] (.bool r) [] :=sp Tryz.func173 rfl<|sq hm UN λ v1 hm=>si hm (λ _ hm=>by cases hm;exact re) λ _ hm=>l0 hm (λ g1=>⟨[(1,.ptr 0 0 0),(14,aC s_.aQ),(15,iV (s_.aQ.length:Int)),(16,iV g1)],[(0,some (.box [bg s_.bG.bR,aV s_.bG.bD,iV s_.bG.aR.bS,bA s_.bG.aR.ay,dz s_.bG.aY,bU s_.bG.cB,dO s_.dB,aC s_.aQ,aC s_.aW.dA,aU s_.aW.fA.On,aC s_.aW.fA.dQ,dM s_.aW.dP,aU s_.aW.dU,aU s_.aW.fq,.bool s_.jO]))],1⟩) <|λ aj g1 hm=>si hm (λ _ hm=>s2 hm λ _ _ hm=>sq hm yB λ v4 hm=>si hm (λ _ hm=>by cases hm;exact re) λ _ hm=>sn hm λ _ hm=>le hm) λ _ hm=>by cases hm;exact re
theorem UO {l_:List dD} {qM:List Bool} (hm:CJ l_ qM r):S 237 [bU l_,aU qM] [] (.bool r) [] :=sp Tryz.func237 rfl<|si hm (λ _ hm=>by cases hm;exact re) λ _ hm=>l0 hm (λ g1=>⟨[(1,aU qM),(12,bU l_),(13,iV (l_.length:Int)),(14,iV g1)],[],0⟩) <|λ aj g1 hm=>si hm (λ _ hm=>s2 hm λ _ _ hm=>s2 hm λ _ _ hm=>si hm (λ _ hm=>by cases hm;exact re) λ _ hm=>sn hm λ _ hm=>le hm) λ _ hm=>by cases hm;exact re
theorem UQ {l_:List dD} {qM:List Bool} (hm:CK l_ qM r):S 215 [bU l_,aU qM] [] (.bool r) [] :=sp Tryz.func215 rfl<|sq hm xZ λ v1 hm=>sb hm λ v2 hv2 hm=>cl (λ q0=>(UO (hv2 q0)))<|by cases hm;exact re
theorem Et {m_:Int} {Bb:List aI} {vB:List aD} {ZU:Int} {ZV:List cK} {ZW:List eG} {ZX:List dD} {Gi:List aJ} {ZY:List Int} {Z0:List Int} {Z4:List Bool} {Nt:List Int} {Nu:List aT} {DT:List Bool} {DU:List Bool} {Nv:Bool} (hm:j6 m_ Bb vB ZU ZV ZW ZX Gi ZY Z0 Z4 Nt Nu DT DU Nv r):S 216 [iV m_,.ro [bg Bb,aV vB,iV ZU,bA ZV,dz ZW,bU ZX,dO Gi,aC ZY,aC Z0,aU Z4,aC Nt,dM Nu,aU DT,aU DU,.bool Nv]] [] (.bool r) [] :=sp Tryz.func216 rfl<|s2 hm λ _ _ hm=>by cases hm;exact re
theorem Bz {r:Int} (hm:vV s_ Bd BJ BK RS RU RX L9 RY RZ R3 vC vD sK sM vE r):S 130 [aC s_,.fn 216 [.ro [bg Bd,aV BJ,iV BK,bA RS,dz RU,bU RX,dO L9,aC RY,aC RZ,aU R3,aC vC,dM vD,aU sK,aU sM,.bool vE]]] [] (iV r) [] :=sp Tryz.func130 rfl<|l0 hm (λ g1=>⟨[(0,aC s_),(1,.fn 216 [.ro [bg Bd,aV BJ,iV BK,bA RS,dz RU,bU RX,dO L9,aC RY,aC RZ,aU R3,aC vC,dM vD,aU sK,aU sM,.bool vE]]),(7,iV (s_.length:Int)),(8,iV g1)],[],0⟩) <|λ aj g1 hm=>si hm (λ _ hm=>sn hm λ _ hm=>sq hm Et λ v3 hm=>si hm (λ _ hm=>by cases hm;exact re) λ _ hm=>sn hm λ _ hm=>le hm) λ _ hm=>by cases hm;exact re
theorem yC (hm:mh s_ Bd BJ BK RS RU RX L9 RY RZ R3 vC vD sK sM vE r):S 200 [aC s_,.fn 216 [.ro [bg Bd,aV BJ,iV BK,bA RS,dz RU,bU RX,dO L9,aC RY,aC RZ,aU R3,aC vC,dM vD,aU sK,aU sM,.bool vE]]] [] (.bool r) [] :=sp Tryz.func200 rfl<|sq hm Bz λ v1 hm=>by cases hm;exact re
theorem Gy {s_:gY} (hm:nU s_ r):S 174 [Jr s_] [] (.bool r) [] :=sp Tryz.func174 rfl<|sq hm UQ λ v1 hm=>si hm (λ _ hm=>by cases hm;exact re) λ _ hm=>sq hm yC λ v2 hm=>by cases hm;exact re
theorem IV {s_:gY} {r:Int} (hm:pF s_ r):S 120 [Jr s_] [] (iV r) [] :=sp Tryz.func120 rfl<|by
 refine aeN 9 ?_
 refine oU (ct:=[]) iR dk ?_
 (conv=>whnf)
 refine bf hm λ h1 hm=>?_
 (conv=>whnf)
 refine iF hm λ v1 hv1 hm=>?_
 refine ⟨_,_,(J9 hv1),?_⟩
 (conv=>whnf)
 refine iU hm (λ c1 hm=>?_) (λ c1 hm=>?_)
 ·(conv=>whnf)
  refine bf hm λ h2 hm=>?_
  (conv=>whnf)
  have hm:r=((0:Int)+(1:Int)):=hm
  subst hm
  refine ⟨[],[],?_⟩
  (conv=>whnf)
  exact ⟨⟨rfl,trivial,trivial⟩,r2⟩
 ·(conv=>whnf)
  refine bf hm λ h3 hm=>?_
  (conv=>whnf)
  refine oU (ct:=[]) iR dk ?_
  (conv=>whnf)
  refine bf hm λ h4 hm=>?_
  (conv=>whnf)
  refine iF hm λ v2 hv2 hm=>?_
  refine ⟨_,_,(IL hv2),?_⟩
  (conv=>whnf)
  refine iU hm (λ c2 hm=>?_) (λ c2 hm=>?_)
  ·(conv=>whnf)
   refine bf hm λ h5 hm=>?_
   (conv=>whnf)
   have hm:r=(((0:Int)+(1:Int))+(1:Int)):=hm
   subst hm
   refine ⟨[],[],?_⟩
   (conv=>whnf)
   exact ⟨⟨rfl,trivial,trivial⟩,r2⟩
  ·(conv=>whnf)
   refine bf hm λ h6 hm=>?_
   (conv=>whnf)
   refine oU (ct:=[]) iR dk ?_
   (conv=>whnf)
   refine bf hm λ h7 hm=>?_
   (conv=>whnf)
   refine iF hm λ v3 hv3 hm=>?_
   refine ⟨_,_,(IQ hv3),?_⟩
   (conv=>whnf)
   refine iU hm (λ c3 hm=>?_) (λ c3 hm=>?_)
   ·(conv=>whnf)
    refine bf hm λ h8 hm=>?_
    (conv=>whnf)
    have hm:r=((((0:Int)+(1:Int))+(1:Int))+(1:Int)):=hm
    subst hm
    refine ⟨[],[],?_⟩
    (conv=>whnf)
    exact ⟨⟨rfl,trivial,trivial⟩,r2⟩
   ·(conv=>whnf)
    refine bf hm λ h9 hm=>?_
    (conv=>whnf)
    refine oU (ct:=[]) iR dk ?_
    (conv=>whnf)
    refine bf hm λ h10 hm=>?_
    (conv=>whnf)
    refine iF hm λ v4 hv4 hm=>?_
    refine ⟨_,_,(EK hv4),?_⟩
    (conv=>whnf)
    refine iU hm (λ c4 hm=>?_) (λ c4 hm=>?_)
    ·(conv=>whnf)
     refine bf hm λ h11 hm=>?_
     (conv=>whnf)
     have hm:r=(((((0:Int)+(1:Int))+(1:Int))+(1:Int))+(1:Int)):=hm
     subst hm
     refine ⟨[],[],?_⟩
     (conv=>whnf)
     exact ⟨⟨rfl,trivial,trivial⟩,r2⟩
    ·(conv=>whnf)
     refine bf hm λ h12 hm=>?_
     (conv=>whnf)
     refine oU (ct:=[]) iR dk ?_
     (conv=>whnf)
     refine bf hm λ h13 hm=>?_
     (conv=>whnf)
     refine iF hm λ v5 hv5 hm=>?_
     refine ⟨_,_,(Ml hv5),?_⟩
     (conv=>whnf)
     refine iU hm (λ c5 hm=>?_) (λ c5 hm=>?_)
     ·(conv=>whnf)
      refine bf hm λ h14 hm=>?_
      (conv=>whnf)
      have hm:r=((((((0:Int)+(1:Int))+(1:Int))+(1:Int))+(1:Int))+(1:Int)):=hm
      subst hm
      refine ⟨[],[],?_⟩
      (conv=>whnf)
      exact ⟨⟨rfl,trivial,trivial⟩,r2⟩
     ·(conv=>whnf)
      refine bf hm λ h15 hm=>?_
      (conv=>whnf)
      refine oU (ct:=[]) iR dk ?_
      (conv=>whnf)
      refine bf hm λ h16 hm=>?_
      (conv=>whnf)
      refine iF hm λ v6 hv6 hm=>?_
      refine ⟨_,_,(Es hv6),?_⟩
      (conv=>whnf)
      refine iU hm (λ c6 hm=>?_) (λ c6 hm=>?_)
      ·(conv=>whnf)
       refine bf hm λ h17 hm=>?_
       (conv=>whnf)
       have hm:r=(((((((0:Int)+(1:Int))+(1:Int))+(1:Int))+(1:Int))+(1:Int))+(1:Int)):=hm
       subst hm
       refine ⟨[],[],?_⟩
       (conv=>whnf)
       exact ⟨⟨rfl,trivial,trivial⟩,r2⟩
      ·(conv=>whnf)
       refine bf hm λ h18 hm=>?_
       (conv=>whnf)
       refine oU (ct:=[]) iR dk ?_
       (conv=>whnf)
       refine bf hm λ h19 hm=>?_
       (conv=>whnf)
       refine iF hm λ v7 hv7 hm=>?_
       refine ⟨_,_,(IU hv7),?_⟩
       (conv=>whnf)
       refine iU hm (λ c7 hm=>?_) (λ c7 hm=>?_)
       ·(conv=>whnf)
        refine bf hm λ h20 hm=>?_
        (conv=>whnf)
        have hm:r=((((((((0:Int)+(1:Int))+(1:Int))+(1:Int))+(1:Int))+(1:Int))+(1:Int))+(1:Int)):=hm
        subst hm
        refine ⟨[],[],?_⟩
        (conv=>whnf)
        exact ⟨⟨rfl,trivial,trivial⟩,r2⟩
       ·(conv=>whnf)
        refine bf hm λ h21 hm=>?_
        (conv=>whnf)
        refine oU (ct:=[]) iR dk ?_
        (conv=>whnf)
        refine bf hm λ h22 hm=>?_
        (conv=>whnf)
        refine iF hm λ v8 uG hm=>?_
        refine ⟨_,_,(Gy uG),?_⟩
        (conv=>whnf)
        refine iU hm (λ c8 hm=>?_) (λ c8 hm=>?_)
        ·(conv=>whnf)
         refine bf hm λ h23 hm=>?_
         (conv=>whnf)
         have hm:r=(((((((((0:Int)+(1:Int))+(1:Int))+(1:Int))+(1:Int))+(1:Int))+(1:Int))+(1:Int))+(1:Int)):=hm
         subst hm
         refine ⟨[],[],?_⟩
         (conv=>whnf)
         exact ⟨⟨rfl,trivial,trivial⟩,r2⟩
        ·(conv=>whnf)
         refine bf hm λ h24 hm=>?_
         (conv=>whnf)
         refine oU (ct:=[]) iR dk ?_
         (conv=>whnf)
         have hm:r=(0:Int):=hm
         subst hm
         refine ⟨[],[],?_⟩
         (conv=>whnf)
         exact ⟨⟨rfl,trivial,trivial⟩,r2⟩
variable {g_:bF}
theorem UR {gQ:Bool} {r:Int} (hm:CO b_ l_ ah g_ gQ r):S 68 [jy b_,dO l_,aC ah,kV g_,.bool gQ] [] (iV r) [] :=sp Tryz.func68 rfl<|sq hm LK λ v1 hm=>si hm (λ _ hm=>by cases hm;exact re) λ _ hm=>sq hm IV λ v2 hm=>by cases hm;exact re
theorem IW (hm:Aj b_ l_ ah g_ r):S 28 [jy b_,dO l_,aC ah,kV g_] [] (.bool r) [] :=sp Tryz.func28 rfl<|sq hm UR λ v1 hm=>by cases hm;exact re
theorem FZ {bI:Int} {r:Int} (hm:xk b_ l_ ah g_ bI r):S 44 [jy b_,dO l_,aC ah,kV g_,iV bI] [] (iV r) [] :=sp Tryz.func44 rfl<|sq hm IK λ v1 hm=>si hm (λ _ hm=>by cases hm;exact re) λ _ hm=>sq hm IW λ v2 hm=>si hm (λ _ hm=>by cases hm;exact re) λ _ hm=>si hm (λ _ hm=>by cases hm;exact re) λ _ hm=>by cases hm;exact re
theorem Wv {iQ:List aT} {KQ:List ByteArray} {r:List ByteArray×List Int} (hm:Fh b_ iQ KQ r):S 48 [jy b_,dM iQ,gG KQ] [] (.kI [gG r.1,aC r.2]) [] :=sp Tryz.func48 rfl<|lf hm (λ g1=>⟨[(2,gG KQ),(3,.ptr 0 0 0),(6,.eF 1 0 g1.2.1.length false),(7,.eF 2 0 g1.2.2.length false),(10,dM iQ),(11,iV (iQ.length:Int)),(12,iV g1.1)],[(0,some (.box [bg b_.bR,aV b_.bD,iV b_.aR.bS,bA b_.aR.ay,dz b_.aY,bU b_.cB])),(1,some (.row 1 g1.2.1.length (bP AV.str ByteArray.empty g1.2.1))),(2,some (.row 1 g1.2.2.length (bP iV 0 g1.2.2)))],3⟩) [(1,none),(2,none)] [] <|λ aj g1 hm=>si hm (λ _ hm=>s2 hm λ _ _ hm=>s2 hm λ _ _ hm=>s2 hm λ _ _ hm=>lc [(1,some 171),(2,some 227)] [] hm) λ _ hm=>sn hm λ _ hm=>by cases hm;exact rt [27,2] []
theorem OW {f_:ByteArray} (hm:KR f_ r):S 145 [.str f_] [] (.bool r) [] :=sp Tryz.func145 rfl<|sq hm xY λ v1 hm=>by cases hm;exact re
theorem BA {s_:List ByteArray} {r:Int} (hm:ou s_ r):S 197 [gG s_,.fn 145 []] [] (iV r) [] :=sp Tryz.func197 rfl<|l0 hm (λ g1=>⟨[(0,gG s_),(1,.fn 145 []),(7,iV (s_.length:Int)),(8,iV g1)],[],0⟩) <|λ aj g1 hm=>si hm (λ _ hm=>sn hm λ _ hm=>sq hm OW λ v3 hm=>si hm (λ _ hm=>by cases hm;exact re) λ _ hm=>sn hm λ _ hm=>le hm) λ _ hm=>by cases hm;exact re
theorem yD {s_:List ByteArray} (hm:mo s_ r):S 144 [gG s_,.fn 145 []] [] (.bool r) [] :=sp Tryz.func144 rfl<|sq hm BA λ v1 hm=>by cases hm;exact re
theorem Ww {fD:ByteArray} {r:List Int} (hm:Fj p_ fD r):S 198 [lX p_,.str fD] [] (aC r) [] :=sp Tryz.func198 rfl<|sq hm uX λ v1 hm=>si hm (λ _ hm=>by cases hm;exact re) λ _ hm=>lf hm (λ g1=>⟨[(1,.str fD),(5,.eF 0 0 g1.2.length false),(12,bA p_.ay),(13,iV (p_.ay.length:Int)),(14,iV g1.1)],[(0,some (.row 1 g1.2.length (bP iV 0 g1.2)))],1⟩) [(0,none)] [] <|λ aj g1 hm=>si hm (λ _ hm=>sn hm λ _ hm=>sq hm qX λ v4 hm=>si hm (λ _ hm=>s2 hm λ _ _ hm=>lc [(0,some 113)] [] hm) λ _ hm=>sn hm λ _ hm=>le hm) λ _ hm=>by cases hm;exact rt [0] []
theorem OX {fD:ByteArray} {r:List Int} (hm:KS p_ fD r):S 147 [lX p_,.str fD] [] (aC r) [] :=sp Tryz.func147 rfl<|sq hm Ww λ v1 hm=>by cases hm;exact re
theorem SK {l_:List ByteArray} {dX:List Int} {r:eU×Int} (hm:zJ p_ l_ dX r):S 97 [lX p_,gG l_,aC dX] [] (.kI [ZP r.1,iV r.2]) [] :=sp Tryz.func97 rfl<|sq hm uX λ v1 hm=>sb hm λ v2 hv2 hm=>cl (λ q0=>(yD (hv2 q0)))<|si hm (λ _ hm=>by cases hm;exact re) λ _ hm=>lf hm (λ g1=>⟨[(1,gG l_),(2,aC dX),(3,.ptr 0 0 0),(6,.ptr 1 0 0),(8,.ptr 2 0 0),(31,gG l_),(32,iV (l_.length:Int)),(33,iV g1.1)],[(0,some (.box [iV p_.bS,bA p_.ay])),(1,some (.box [.sl 0 0 true fF,.sl 0 0 true fF,.sl 0 0 true fF,.int .u64 (0:Int)])),(2,some (.box [.eF 3 0 g1.2.length false,.sl 0 0 true fF,.sl 0 0 true fF,.int .u64 (0:Int)])),(3,some (.row 1 g1.2.length (bP aC [] g1.2)))],4⟩) [(1,some 8),(2,some 120),(3,none)] [] <|λ aj g1 hm=>si hm (λ _ hm=>sn hm λ _ hm=>sq hm OX λ v5 hm=>s2 hm λ _ _ hm=>lc [(3,some 84)] [] hm) λ _ hm=>lf hm (λ g2=>⟨[(1,gG l_),(2,aC dX),(6,.ptr 0 0 0),(8,.ptr 1 0 0),(47,bA p_.ay),(48,iV (p_.ay.length:Int)),(49,iV g2.1)],[(0,some (.box [.sl 0 0 true fF,.sl 0 0 true fF,.sl 0 0 true fF,.int .u64 (0:Int)])),(1,some (.box [.eF 2 0 g1.2.length false,.eF 3 0 g2.2.length false,.sl 0 0 true fF,.int .u64 (0:Int)])),(2,some (.row 1 g1.2.length (bP aC [] g1.2))),(3,some (.row 1 g2.2.length (bP (AV.int .u64) 0 g2.2)))],4⟩) [(0,some 1),(1,some 2),(2,some 3),(3,none)] [] <|λ dJ g2 hm=>si hm (λ _ hm=>sn hm λ _ hm=>l0 hm (λ g5=>⟨[(1,gG l_),(2,aC dX),(6,.ptr 0 0 0),(8,.ptr 1 0 0),(13,.int .u64 g5.1),(47,bA p_.ay),(48,iV (p_.ay.length:Int)),(49,iV g2.1),(54,aC ((p_.ay.getD g2.1.toNat aG).bS)),(55,iV ((((p_.ay.getD g2.1.toNat aG).bS).length:Nat):Int)),(56,iV g5.2)],[(0,some (.box [.sl 0 0 true fF,.sl 0 0 true fF,.sl 0 0 true fF,.int .u64 (0:Int)])),(1,some (.box [.eF 2 0 g1.2.length false,.eF 3 0 g2.2.length false,.sl 0 0 true fF,.int .u64 (0:Int)])),(2,some (.row 1 g1.2.length (bP aC [] g1.2))),(3,some (.row 1 g2.2.length (bP (AV.int .u64) 0 g2.2)))],4⟩) <|λ j5 g5 hm=>si hm (λ _ hm=>s2 hm λ _ _ hm=>sn hm λ _ hm=>le hm) λ _ hm=>s2 hm λ _ _ hm=>lc [(3,some 44)] [] hm) λ _ hm=>si hm (λ _ hm=>by cases hm;exact re) λ _ hm=>l0 hm (λ g6=>⟨[(2,aC dX),(6,.ptr 0 0 0),(8,.ptr 1 0 0),(78,aC dX),(79,iV (dX.length:Int)),(80,iV g6.1)],[(0,some (.box [.sl 0 0 true fF,.sl 0 0 true fF,.sl 0 0 true fF,.int .u64 (0:Int)])),(1,some (.box [.eF 2 0 g1.2.length false,.eF 3 0 g2.2.length false,.sl 0 0 true fF,.int .u64 g6.2])),(2,some (.row 1 g1.2.length (bP aC [] g1.2))),(3,some (.row 1 g2.2.length (bP (AV.int .u64) 0 g2.2)))],4⟩) <|λ jG g6 hm=>si hm (λ _ hm=>s2 hm λ _ _ hm=>sq hm gF λ v8 hm=>sn hm λ _ hm=>si hm (λ _ hm=>by cases hm;exact re) λ _ hm=>s2 hm λ _ _ hm=>le hm) λ _ hm=>by cases hm;exact rt [2,3] []
theorem EM {x_:eU} {r:List Int} (hm:ny x_ r):S 99 [ZP x_] [] (aC r) [] :=sp Tryz.func99 rfl<|lf hm (λ g1=>⟨[(1,.ptr 0 0 0),(3,.eF 1 0 g1.2.length false),(4,iV g1.1)],[(0,some (.box [yZ x_.fT,Xq x_.rC,aC x_.oV,.int .u64 x_.Dz])),(1,some (.row 1 g1.2.length (bP iV 0 g1.2)))],2⟩) [(1,none)] [] <|λ aj g1 hm=>si hm (λ _ hm=>s2 hm λ _ _ hm=>lc [(1,some 66)] [] hm) λ _ hm=>by cases hm;exact rt [1] []
theorem Eu:∀(n:Nat) (iK:Int×List Int×eU×List Int) (r:Bool×Nat×List Int×eU×List Int),itM iI n iK r→S 148 [.int .u64 iK.1,.ptr 0 0 0,.ptr 1 0 0,.ptr 2 0 0,.ptr 3 0 0] [.box [.eF 4 0 iK.2.2.2.length false],.box [aC iK.2.1],.box [yZ iK.2.2.1.fT,Xq iK.2.2.1.rC,aC iK.2.2.1.oV,.int .u64 iK.2.2.1.Dz],.box [.fn 148 [.ptr 0 0 0,.ptr 1 0 0,.ptr 2 0 0,.ptr 3 0 0]],.row 1 iK.2.2.2.length (bP iV 0 iK.2.2.2)] (.bool r.1) [.box [.eF 5 0 r.2.1 false],.box [aC r.2.2.1],.box [yZ r.2.2.2.1.fT,Xq r.2.2.2.1.rC,aC r.2.2.2.1.oV,.int .u64 r.2.2.2.1.Dz],.box [.fn 148 [.ptr 0 0 0,.ptr 1 0 0,.ptr 2 0 0,.ptr 3 0 0]],ana,.row 1 r.2.2.2.2.length (bP iV 0 r.2.2.2.2)] :=by
 intro n
 induction n with
 | zero=>intro iK r hm; exact hm.elim
 | succ n ih=>
   intro iK r hm
   have hm:iI (itM iI n) iK r:=hm
   generalize itM iI n=Bf at hm ih
   refine nJ (ct:=[8]) iR Tryz.func148 rfl rfl (Nat.le_of_ble_eq_true rfl) dk (Nat.le_of_ble_eq_true rfl) ?_
   (conv=>whnf)
   refine iU hm (λ c1 hm=>?_) (λ c1 hm=>?_)
   · (conv=>whnf)
     have hm:r=(true,iK.2.2.2.length,iK.2.1,iK.2.2.1,iK.2.2.2):=hm
     subst hm
     refine ⟨[],[(5,some 4)],?_⟩
     (conv=>whnf)
     exact ⟨⟨rfl,trivial,⟨⟨⟨rfl,rfl,rfl,rfl,nofun⟩,trivial⟩,⟨sf,trivial⟩,⟨sf,sf,sf,r2,trivial⟩,⟨⟨rfl,r4,r4,r4,r4,trivial⟩,trivial⟩,⟨rfl,rfl,(λ _ _=>.refl _)⟩,trivial⟩⟩,rfl⟩
   · (conv=>whnf)
     refine bf hm λ h1 hm=>?_
     (conv=>whnf)
     refine bf hm λ h2 hm=>?_
     (conv=>whnf)
     refine vP (ct:=[8]) iR dk hm (λ g1=>⟨[(0,.int .u64 iK.1),(1,.ptr 0 0 0),(3,.ptr 2 0 0),(4,.ptr 3 0 0),(22,aC (iK.2.2.1.fT.getD ((iK.2.1.getD ((iK.2.2.2.length:Int).toNat) 0).toNat) [])),(23,iV (((iK.2.2.1.fT.getD ((iK.2.1.getD ((iK.2.2.2.length:Int).toNat) 0).toNat) []).length:Nat):Int)),(24,iV g1.1)],[(0,some (.box [.eF 5 0 g1.2.1 false])),(1,some (.box [aC g1.2.2.1])),(2,some (.box [yZ g1.2.2.2.1,Xq g1.2.2.2.2.1,aC g1.2.2.2.2.2.1,.int .u64 g1.2.2.2.2.2.2.1])),(3,some (.box [.fn 148 [.ptr 0 0 0,.ptr 1 0 0,.ptr 2 0 0,.ptr 3 0 0]])),(5,some (.row 1 g1.2.2.2.2.2.2.2.length (bP iV 0 g1.2.2.2.2.2.2.2)))],6⟩) [(5,some 4)] [] ⟨rfl,⟨r2,r4,r4,r4,sr,r2,r2,trivial⟩,⟨⟨⟨rfl,rfl,rfl,rfl,nofun⟩,trivial⟩,⟨sf,trivial⟩,⟨sf,sf,sf,r2,trivial⟩,⟨⟨rfl,r4,r4,r4,r4,trivial⟩,trivial⟩,⟨rfl,rfl,(λ _ _=>.refl _)⟩,trivial⟩⟩ ?_
     intro aj g1 hm
     (conv=>whnf)
     have h33:=hm.1
     have hm:=hm.2
     refine iU hm (λ c8 hm=>?_) (λ c8 hm=>?_)
     · (conv=>whnf)
       refine bf hm λ h23 hm=>?_
       (conv=>whnf)
       refine bf hm λ h24 hm=>?_
       (conv=>whnf)
       refine iU hm (λ c9 hm=>?_) (λ c9 hm=>?_)
       · (conv=>whnf)
         refine bf hm λ h25 hm=>?_
         (conv=>whnf)
         exact ⟨((g1.1+(1:Int)),g1.2.1,g1.2.2.1,g1.2.2.2.1,g1.2.2.2.2.1,g1.2.2.2.2.2.1,g1.2.2.2.2.2.2.1,g1.2.2.2.2.2.2.2),[],[],hm,⟨rfl,⟨r2,r4,r4,r4,sr,r2,r2,trivial⟩,⟨⟨⟨rfl,rfl,rfl,rfl,nofun⟩,trivial⟩,⟨sf,trivial⟩,⟨sf,sf,sf,r2,trivial⟩,⟨⟨rfl,r4,r4,r4,r4,trivial⟩,trivial⟩,⟨rfl,rfl,(λ _ _=>.refl _)⟩,trivial⟩⟩⟩
       · (conv=>whnf)
         refine ZN (ct:=[8]) iR dk dk (mq Bf iK g1 aj) r (λ g4=>⟨[(0,.int .u64 iK.1),(1,.ptr 0 0 0),(3,.ptr 2 0 0),(4,.ptr 3 0 0),(8,iV ((iK.2.2.1.fT.getD ((iK.2.1.getD ((iK.2.2.2.length:Int).toNat) 0).toNat) []).getD g1.1.toNat 0)),(22,aC (iK.2.2.1.fT.getD ((iK.2.1.getD ((iK.2.2.2.length:Int).toNat) 0).toNat) [])),(23,iV (((iK.2.2.1.fT.getD ((iK.2.1.getD ((iK.2.2.2.length:Int).toNat) 0).toNat) []).length:Nat):Int)),(24,iV g1.1)],[(0,some (.box [.eF 5 0 g4.length false])),(1,some (.box [aC g1.2.2.1])),(2,some (.box [yZ g1.2.2.2.1,Xq g1.2.2.2.2.1,aC g1.2.2.2.2.2.1,.int .u64 g1.2.2.2.2.2.2.1])),(3,some (.box [.fn 148 [.ptr 0 0 0,.ptr 1 0 0,.ptr 2 0 0,.ptr 3 0 0]])),(5,some (.row 1 g4.length (bP iV 0 g4)))],6⟩) ?_ (λ g4 hm=>?_)
         · (conv=>whnf)
           refine bf hm λ h32 hm=>?_
           (conv=>whnf)
           exact ⟨((g1.2.2.2.2.2.2.2.take (g1.2.1))++([((iK.2.2.1.fT.getD ((iK.2.1.getD ((iK.2.2.2.length:Int).toNat) 0).toNat) []).getD g1.1.toNat 0)]:List Int)),[(5,some 126)],[],hm,⟨rfl,⟨r2,r4,r4,r4,r2,sr,r2,r2,trivial⟩,⟨⟨⟨rfl,rfl,rfl,oz,nofun⟩,trivial⟩,⟨sr,trivial⟩,⟨sr,sr,sr,r2,trivial⟩,⟨⟨rfl,r4,r4,r4,r4,trivial⟩,trivial⟩,⟨rfl,oz,(jL oz (l8 (f:=iV) (d:=0) (by first | omega | exact Nat.min_le_left _ _ | exact Nat.le_trans (Nat.min_le_left _ _) om | (simp; omega))) rfl (gN iV 0 [((iK.2.2.1.fT.getD ((iK.2.1.getD ((iK.2.2.2.length:Int).toNat) 0).toNat) []).getD g1.1.toNat 0)]))⟩,trivial⟩⟩⟩
         · (conv=>whnf)
           refine bf hm λ h27 hm=>?_
           (conv=>whnf)
           refine iF hm λ v3 hv3 hm=>?_
           refine ⟨_,_,(ih _ _ hv3),?_⟩
           (conv=>whnf)
           have h28:=hm.1
           have hm:=hm.2
           refine iU hm (λ c10 hm=>?_) (λ c10 hm=>?_)
           · (conv=>whnf)
             have hm:r=(true,v3.2.1,v3.2.2.1,v3.2.2.2.1,v3.2.2.2.2):=hm
             subst hm
             refine ⟨[],[(5,some 70)],?_⟩
             (conv=>whnf)
             exact ⟨⟨rfl,trivial,⟨⟨⟨rfl,rfl,rfl,rfl,nofun⟩,trivial⟩,⟨sf,trivial⟩,⟨sf,sf,sf,r2,trivial⟩,⟨⟨rfl,r4,r4,r4,r4,trivial⟩,trivial⟩,⟨rfl,rfl,(λ _ _=>.refl _)⟩,trivial⟩⟩,rfl⟩
           · (conv=>whnf)
             refine bf hm λ h29 hm=>?_
             (conv=>whnf)
             refine bf hm λ h30 hm=>?_
             (conv=>whnf)
             refine bf hm λ h31 hm=>?_
             (conv=>whnf)
             exact ⟨((g1.1+(1:Int)),(((v3.2.1:Nat):Int) - (1:Int)).toNat,v3.2.2.1,v3.2.2.2.1.fT,v3.2.2.2.1.rC,v3.2.2.2.1.oV,v3.2.2.2.1.Dz,v3.2.2.2.2),[(5,some 70)],[],hm,⟨rfl,⟨r2,r4,r4,r4,sr,r2,r2,trivial⟩,⟨⟨⟨rfl,rfl,rfl,rfl,nofun⟩,trivial⟩,⟨sf,trivial⟩,⟨sf,sf,sf,r2,trivial⟩,⟨⟨rfl,r4,r4,r4,r4,trivial⟩,trivial⟩,⟨rfl,rfl,(λ _ _=>.refl _)⟩,trivial⟩⟩⟩
     · (conv=>whnf)
       have hm:r=(false,g1.2.1,g1.2.2.1,(⟨g1.2.2.2.1,g1.2.2.2.2.1,g1.2.2.2.2.2.1,g1.2.2.2.2.2.2.1⟩:eU),g1.2.2.2.2.2.2.2):=hm
       subst hm
       refine ⟨[],[],?_⟩
       (conv=>whnf)
       exact ⟨⟨rfl,trivial,⟨⟨⟨rfl,rfl,rfl,rfl,nofun⟩,trivial⟩,⟨sf,trivial⟩,⟨sf,sf,sf,r2,trivial⟩,⟨⟨rfl,r4,r4,r4,r4,trivial⟩,trivial⟩,⟨rfl,rfl,(λ _ _=>.refl _)⟩,trivial⟩⟩,rfl⟩
theorem BD {Z5:Int} {o1_:List Int} {o2_:eU} {o4_:List Int} {r:Bool×Nat×List Int×eU×List Int} (hm:lI Z5 o1_ o2_ o4_ r):S 148 [.int .u64 Z5,.ptr 0 0 0,.ptr 1 0 0,.ptr 2 0 0,.ptr 3 0 0] [.box [.eF 4 0 o4_.length false],.box [aC o1_],.box [yZ o2_.fT,Xq o2_.rC,aC o2_.oV,.int .u64 o2_.Dz],.box [.fn 148 [.ptr 0 0 0,.ptr 1 0 0,.ptr 2 0 0,.ptr 3 0 0]],.row 1 o4_.length (bP iV 0 o4_)] (.bool r.1) [.box [.eF 5 0 r.2.1 false],.box [aC r.2.2.1],.box [yZ r.2.2.2.1.fT,Xq r.2.2.2.1.rC,aC r.2.2.2.1.oV,.int .u64 r.2.2.2.1.Dz],.box [.fn 148 [.ptr 0 0 0,.ptr 1 0 0,.ptr 2 0 0,.ptr 3 0 0]],ana,.row 1 r.2.2.2.2.length (bP iV 0 r.2.2.2.2)] :=by
 obtain ⟨n,hm⟩:=hm
 exact Eu n (Z5,o1_,o2_,o4_) r hm
theorem Ev {x_:eU} {PI:List Int} {r:List Int×Bool} (hm:qE x_ PI r):S 98 [ZP x_,aC PI] [] (.kI [aC r.1,.bool r.2]) [] :=sp Tryz.func98 rfl<|sn hm λ _ hm=>sb hm λ v1 hv1 hm=>cl ((BD hv1).le ⟨.refl _,.refl _,.refl _,.refl _,.refl _,trivial⟩ ⟨kU _,kU _,kU _,kU _,⟨rfl,rfl,(λ _ h=>absurd h (Nat.not_lt_zero _))⟩,trivial⟩)<|by
 have h2:=hm.1
 have hm:=hm.2
 have hm:r=((v1.2.2.2.2.take (v1.2.1)),v1.1):=hm
 subst hm
 refine ⟨[120],[],?_⟩
 (conv=>whnf)
 exact ⟨⟨rfl,trivial,trivial⟩,(by (conv=>whnf); exact ⟨(by (conv=>whnf); exact ⟨oz,(λ _=>rfl),nofun,(l8 (f:=iV) (d:=0) (by first | omega | exact Nat.min_le_left _ _ | exact Nat.le_trans (Nat.min_le_left _ _) om | (simp; omega)))⟩),(by (conv=>whnf); exact ⟨(by first | ((conv=>whnf); exact rfl) | exact rfl),trivial⟩)⟩)⟩
theorem IX {r:Nat×List Int} (hm:pG n_ r):S 149 [.sl 0 0 true fF,iV n_] [] (.eF 0 0 r.1 false) [.row 1 r.2.length (bP iV 0 r.2)] :=spc [3] Tryz.func149 rfl<|ck [3] (qF n_) r (λ g1=>⟨[(0,.sl 0 0 true fF),(1,iV n_)],[],0⟩) (by
 have c3:=hm.1
 have hm:=hm.2
 refine TF (λ q=>Bool.noConfusion (c3.symm.trans q)) (λ _=>?_)
 (conv=>whnf)
 exact ⟨(),[],[],hm,⟨rfl,⟨sr,r2,trivial⟩,trivial⟩⟩) λ g1 hm=>s2 hm λ _ _ hm=>si hm (λ _ hm=>s2 hm λ _ _ hm=>sn hm λ _ hm=>by cases hm;exact rt [] [(0,some 120)]) λ _ hm=>by cases hm;exact rt [] [(0,none)]
theorem Ka {jC:(List (List Int))} {r:List Int} (hm:qN jC r):S 100 [yZ jC] [] (aC r) [] :=sp Tryz.func100 rfl<|l0 hm (λ g1=>⟨[(0,yZ jC),(3,iV g1.1),(9,yZ jC),(10,iV (jC.length:Int)),(11,iV g1.2)],[],0⟩) <|λ aj g1 hm=>si hm (λ _ hm=>s2 hm λ _ _ hm=>by
 have c6:=hm.1
 have hm:=hm.2
 refine TF (λ q=>Bool.noConfusion (c6.symm.trans q)) (λ _=>?_)
 (conv=>whnf)
 refine bf hm λ h9 hm=>?_
 (conv=>whnf)
 exact ⟨((g1.1+(((jC.getD g1.2.toNat []).length:Nat):Int)),(g1.2+(1:Int))),[],[],hm,⟨rfl,⟨sr,r2,sr,r2,r2,trivial⟩,trivial⟩⟩) λ _ hm=>sq hm IX λ v1 hm=>by
 have h10:=hm.1
 have hm:=hm.2
 refine vP (ct:=[]) iR dk hm (λ g2=>⟨[(6,.eF 0 0 g2.1 false),(25,yZ jC),(26,iV (jC.length:Int)),(27,iV g2.2.1)],[(0,some (.row 1 g2.2.2.length (bP iV 0 g2.2.2)))],1⟩) [(0,some 16)] [] ⟨rfl,⟨⟨rfl,rfl,rfl,rfl,nofun⟩,sr,r2,r2,trivial⟩,⟨⟨rfl,rfl,(λ _ _=>.refl _)⟩,trivial⟩⟩ ?_
 intro dJ g2 hm
 (conv=>whnf)
 have h20:=hm.1
 have hm:=hm.2
 refine iU hm (λ c9 hm=>?_) (λ c9 hm=>?_)
 ·(conv=>whnf)
  refine bf hm λ h17 hm=>?_
  (conv=>whnf)
  refine bf hm λ h18 hm=>?_
  (conv=>whnf)
  refine bf hm λ h19 hm=>?_
  (conv=>whnf)
  exact ⟨((g2.1+(jC.getD g2.2.1.toNat []).length),(g2.2.1+(1:Int)),((g2.2.2.take (g2.1))++(jC.getD g2.2.1.toNat []))),[(0,some 49)],[],hm,⟨rfl,⟨⟨rfl,rfl,rfl,rfl,nofun⟩,sr,r2,r2,trivial⟩,⟨⟨rfl,oz,(jL oz (l8 (f:=iV) (d:=0) (by first | omega | exact Nat.min_le_left _ _ | exact Nat.le_trans (Nat.min_le_left _ _) om | (simp; omega))) rfl (λ _ _=>.refl _))⟩,trivial⟩⟩⟩
 ·(conv=>whnf)
  have hm:r=(g2.2.2.take (g2.1)):=hm
  subst hm
  refine ⟨[0],[],?_⟩
  (conv=>whnf)
  exact ⟨⟨rfl,trivial,trivial⟩,⟨oz,(λ _=>rfl),nofun,(l8 (f:=iV) (d:=0) (by first | omega | exact Nat.min_le_left _ _ | exact Nat.le_trans (Nat.min_le_left _ _) om | (simp; omega)))⟩⟩
theorem QE {l_:List ByteArray} {dX:List Int} {r:List Int×Int} (hm:xq p_ l_ dX r):S 49 [lX p_,gG l_,aC dX] [] (.kI [aC r.1,iV r.2]) [] :=sp Tryz.func49 rfl<|sq hm SK λ v1 hm=>si hm (λ _ hm=>by cases hm;exact re) λ _ hm=>sq hm EM λ v2 hm=>sq hm Ev λ v3 hm=>si hm (λ _ hm=>by cases hm;exact re) λ _ hm=>sb hm λ v4 hv4 hm=>cl ((Ka hv4).le ⟨(.sl rfl (λ _=>rfl) nofun (gN aC [] [dX,v3.1])),trivial⟩ trivial)<|by cases hm;exact re
theorem Ew {s_:List aT} {r:List aT} (hm:mK s_ r):S 102 [dM s_] [] (.eF 0 0 r.length false) [.row 3 r.length (bP qJ bB r)] :=by
 obtain ⟨h1,hm⟩:=hm
 have hm:r=s_:=hm
 subst hm
 refine nJ (ct:=[1]) iR Tryz.func102 rfl rfl (Nat.le_of_ble_eq_true rfl) dk (Nat.le_of_ble_eq_true rfl) ?_
 (conv=>whnf)
 refine ZO (ct:=[]) iR (iR.slice (t:=39) (e:=57) rfl rfl rfl).1 dk dk dk dk dk [(2,.sl 0 0 true fF),(0,dM r)] [] 8 rfl ?_ (λ hn=>?_) ?_
 ·exact rfl
 ·(conv=>whnf)
  have hn:r.length=0:=hn
  refine ⟨[],[(0,none)],?_⟩
  (conv=>whnf)
  exact ⟨⟨rfl,trivial,⟨hn,trivial⟩⟩,⟨rfl,rfl,rfl,rfl,rfl,hn⟩⟩
 ·(conv=>whnf)
  refine ⟨by rw [Nat.zero_add]; exact h1,?_⟩
  (conv=>whnf)
  refine ⟨[],[(0,some 24)],?_⟩
  (conv=>whnf)
  exact ⟨⟨rfl,trivial,⟨⟨rfl,Nat.zero_add _,jL (l:=[]) rfl (λ _ h=>absurd h (Nat.not_lt_zero _)) rfl (λ _ _=>.refl _)⟩,trivial⟩⟩,⟨rfl,rfl,rfl,Nat.zero_add _,nofun⟩⟩
theorem aaM {r:bF} (hm:PK g_ r):S 51 [kV g_] [] (kV r) [] :=sp Tryz.func51 rfl<|sq hm nM λ v1 hm=>sq hm OV λ v2 hm=>sq hm Ew λ v3 hm=>sq hm pV λ v4 hm=>sq hm pV λ v5 hm=>by cases hm;exact rt [32,80,104,128] []
theorem F3 {bI:Int} {r:bF×Int×Int} (hm:xu b_ l_ ah g_ bI r):S 13 [jy b_,dO l_,aC ah,kV g_,iV bI] [] (.kI [kV r.1,iV r.2.1,iV r.2.2]) [] :=spc [13] Tryz.func13 rfl<|sq hm FZ λ v1 hm=>si hm (λ _ hm=>by cases hm;exact re) λ _ hm=>sq hm gF λ v2 hm=>si hm (λ _ hm=>by cases hm;exact re) λ _ hm=>ck [13] (za b_ l_ ah bI) r (λ g2=>⟨[(1,dO l_),(2,aC ah),(4,iV bI),(5,.ptr 0 0 0),(10,.ptr 1 0 0),(14,dM g2)],[(0,some (.box [bg b_.bR,aV b_.bD,iV b_.aR.bS,bA b_.aR.ay,dz b_.aY,bU b_.cB])),(1,some (.box [.sl 0 0 true fF,.sl 0 0 true fF,.sl 0 0 true fF,.sl 0 0 true fF,.sl 0 0 true fF,.sl 0 0 true fF]))],2⟩) (Vo [13] hm (λ g4=>⟨[(1,dO l_),(2,aC ah),(4,iV bI),(5,.ptr 0 0 0),(10,.ptr 1 0 0),(14,.eF 2 0 g4.2.length false),(41,dM g_.dP),(42,iV (g_.dP.length:Int)),(43,iV g4.1)],[(0,some (.box [bg b_.bR,aV b_.bD,iV b_.aR.bS,bA b_.aR.ay,dz b_.aY,bU b_.cB])),(1,some (.box [.sl 0 0 true fF,.sl 0 0 true fF,.sl 0 0 true fF,.sl 0 0 true fF,.sl 0 0 true fF,.sl 0 0 true fF])),(2,some (.row 3 g4.2.length (bP qJ bB g4.2)))],3⟩) [(1,some 16),(2,none)] [] <|λ jk g4 hm=>si hm (λ _ hm=>sn hm λ _ hm=>sq hm gF λ v16 hm=>si hm (λ _ hm=>s2 hm λ _ _ hm=>lc [(2,some 99)] [] hm) λ _ hm=>sn hm λ _ hm=>le hm) λ _ hm=>lc [] [2] hm) λ g2 hm=>sq hm nM λ v6 hm=>sn hm λ _ hm=>sb hm λ v7 hv7 hm=>cl ((tC hv7).le ⟨.refl _,.refl _,(.sl oz (λ _=>rfl) nofun (jL rfl (λ _ _=>.refl _) rfl (gN iV 0 [bI]))),.refl _,trivial⟩ trivial)<|si hm (λ _ hm=>by cases hm;exact re) λ _ hm=>sn hm λ _ hm=>sq hm Wv λ v8 hm=>sq hm QE λ v9 hm=>si hm (λ _ hm=>by cases hm;exact re) λ _ hm=>sn hm λ _ hm=>lfe [13] hm (λ g3=>⟨[(4,iV bI),(5,.ptr 0 0 0),(10,.ptr 1 0 0),(17,.ptr 2 0 0),(20,gG v8.1),(21,aC v8.2),(99,aC g3.1),(100,iV (((v9.1.length - (v8.2.length:Int).toNat):Nat):Int)),(101,iV g3.2.1)],[(0,some (.box [bg b_.bR,aV b_.bD,iV b_.aR.bS,bA b_.aR.ay,dz b_.aY,bU b_.cB])),(1,some (.box [.sl 0 0 true fF,.sl 0 0 true fF,.sl 0 0 true fF,.sl 0 0 true fF,.sl 0 0 true fF,.sl 0 0 true fF])),(2,some (.box [aC v7.1,aU v7.2.1,aC v7.2.2.1,.eF 3 0 g3.2.2.length false,aU v7.2.2.2.1,aU v7.2.2.2.2.1])),(3,some (.row 3 g3.2.2.length (bP qJ bB g3.2.2)))],4⟩) [(2,some 106),(3,some 66)] [] ⟨rfl,⟨r2,r4,r4,r4,sr,sr,⟨oz,(λ _=>rfl),nofun,(ais (a:=(v8.2.length:Int).toNat) (N:=v9.1.length) (λ _ _=>.refl _) (by first | omega | (simp; omega)))⟩,r2,r2,trivial⟩,⟨⟨sr,sr,r2,sr,sr,sr,trivial⟩,⟨sr,sr,sr,sr,sr,sr,trivial⟩,⟨sr,sr,sr,⟨rfl,rfl,rfl,rfl,nofun⟩,sr,sr,trivial⟩,⟨rfl,rfl,(λ _ _=>.refl _)⟩,trivial⟩⟩ <|λ jV g3 hm=>si hm (λ _ hm=>s2 hm λ _ _ hm=>s2 hm λ _ _ hm=>sq hm uJ λ v12 hm=>s2 hm λ _ _ hm=>lc [(3,some 244)] [] hm) λ _ hm=>sq hm aaM λ v13 hm=>by cases hm;exact re
theorem Gz {r:List Int} (hm:BN dF r):S 47 [.eF 0 0 dF.length true] [.row 1 dF.length (bP iV 0 dF)] (.eF 1 0 r.length false) [.row 1 dF.length (bP iV 0 dF),.row 1 r.length (bP iV 0 r)] :=by
 obtain ⟨h1,hm⟩:=hm
 have hm:r=dF:=hm
 subst hm
 refine nJ (ct:=[1]) iR Tryz.func47 rfl rfl (Nat.le_of_ble_eq_true rfl) dk (Nat.le_of_ble_eq_true rfl) ?_
 (conv=>whnf)
 refine RO (ct:=[]) iR (iR.slice (t:=22) (e:=3) rfl rfl rfl).1 dk dk dk dk dk [(2,.sl 0 0 true fF),(0,.eF 0 0 r.length true)] [(0,some (.row 1 r.length (bP iV 0 r)))] 9 rfl rfl ?_ (λ hn=>?_) ?_
 ·exact rfl
 ·(conv=>whnf)
  have hn:r.length=0:=hn
  refine ⟨[],[(1,none)],?_⟩
  (conv=>whnf)
  exact ⟨⟨rfl,trivial,⟨⟨rfl,rfl,λ _ _=>.refl _⟩,hn,trivial⟩⟩,⟨rfl,rfl,rfl,rfl,rfl,hn⟩⟩
 ·(conv=>whnf)
  refine ⟨by rw [Nat.zero_add]; exact h1,?_⟩
  (conv=>whnf)
  refine ⟨[],[(1,some 25)],?_⟩
  (conv=>whnf)
  exact ⟨⟨rfl,trivial,⟨⟨rfl,rfl,λ _ _=>.refl _⟩,⟨rfl,Nat.zero_add _,jL (l:=[]) rfl (λ _ h=>absurd h (Nat.not_lt_zero _)) rfl (λ _ _=>.refl _)⟩,trivial⟩⟩,⟨rfl,rfl,rfl,Nat.zero_add _,nofun⟩⟩
theorem Ce {m_:Int} {pX:Int} (hm:DX m_ pX r):S 76 [iV m_,.ro [iV pX]] [] (.bool r) [] :=sp Tryz.func76 rfl<|by cases hm;exact re
theorem BF {f_:Int} {r:Int} (hm:vX s_ f_ r):S 130 [aC s_,.fn 76 [.ro [iV f_]]] [] (iV r) [] :=sp Tryz.func130 rfl<|l0 hm (λ g1=>⟨[(0,aC s_),(1,.fn 76 [.ro [iV f_]]),(7,iV (s_.length:Int)),(8,iV g1)],[],0⟩) <|λ aj g1 hm=>si hm (λ _ hm=>sn hm λ _ hm=>sq hm Ce λ v3 hm=>si hm (λ _ hm=>by cases hm;exact re) λ _ hm=>sn hm λ _ hm=>le hm) λ _ hm=>by cases hm;exact re
theorem Ey {aeO:Int} {r:Nat×List Int} (hm:yL aeO dF r):S 75 [.eF 0 0 dF.length false,.fn 76 [.ro [iV aeO]]] [.row 1 dF.length (bP iV 0 dF)] (.eF 0 0 r.1 false) [.row 1 r.2.length (bP iV 0 r.2)] :=sp Tryz.func75 rfl<|sq hm BF λ v1 hm=>si hm (λ _ hm=>by cases hm;exact re) λ _ hm=>sn hm λ _ hm=>l0 hm (λ g1=>⟨[(0,.eF 0 0 g1.2.2.length false),(1,.fn 76 [.ro [iV aeO]]),(5,iV g1.1),(6,iV g1.2.1)],[(0,some (.row 1 g1.2.2.length (bP iV 0 g1.2.2)))],1⟩) <|λ aj g1 hm=>si hm (λ _ hm=>sn hm λ _ hm=>sq hm Ce λ v4 hm=>si hm (λ _ hm=>s2 hm λ _ _ hm=>sn hm λ _ hm=>le hm) λ _ hm=>sn hm λ _ hm=>le hm) λ _ hm=>s2 hm λ _ _ hm=>by cases hm;exact rt [] [] (by (conv=>whnf);exact ⟨⟨rfl,trivial,⟨⟨rfl,oz,(ac0 rfl (λ _ _=>.refl _) oz (TG iV 0))⟩,trivial⟩⟩,⟨rfl,rfl,rfl,rfl,nofun⟩⟩)
theorem UU {bI:Int} {r:bF×Int} (hm:TL b_ l_ g_ bI dF r):S 32 [jy b_,dO l_,.eF 0 0 dF.length true,kV g_,iV bI] [.row 1 dF.length (bP iV 0 dF)] (.kI [kV r.1,iV r.2]) [.row 1 dF.length (bP iV 0 dF)] :=sp Tryz.func32 rfl<|sb hm λ v1 hv1 hm=>cl ((FZ hv1).le ⟨.refl _,.refl _,(.sl rfl (λ _=>rfl) nofun (λ _ _=>.refl _)),.refl _,.refl _,trivial⟩ trivial)<|si hm (λ _ hm=>by cases hm;exact re) λ _ hm=>sb hm λ v2 hv2 hm=>cl ((gF hv2).le ⟨(.sl rfl (λ _=>rfl) nofun (λ _ _=>.refl _)),.refl _,trivial⟩ trivial)<|si hm (λ _ hm=>by cases hm;exact re) λ _ hm=>sq hm Gz λ v3 hm=>sq hm Ey λ v4 hm=>by
 have h1:=hm.1
 have hm:=hm.2
 refine iF hm λ v5 hv5 hm=>?_
 refine ⟨_,_,((tC hv5).le ⟨.refl _,.refl _,(.sl oz (λ _=>rfl) nofun (l8 (f:=iV) (d:=0) (by first | omega | exact Nat.min_le_left _ _ | exact Nat.le_trans (Nat.min_le_left _ _) om | (simp; omega)))),.refl _,trivial⟩ trivial),?_⟩
 (conv=>whnf)
 have hm:r=((⟨v5.1,(⟨v5.2.1,v5.2.2.1⟩:dh),v5.2.2.2.2.2.2.2,v5.2.2.2.1,v5.2.2.2.2.1⟩:bF),v5.2.2.2.2.2.2.1):=hm
 subst hm
 refine ⟨[225],[],?_⟩
 (conv=>whnf)
 exact ⟨⟨rfl,trivial,⟨⟨rfl,rfl,(λ _ _=>.refl _)⟩,trivial⟩⟩,(by (conv=>whnf); exact ⟨(by (conv=>whnf); exact ⟨(by (conv=>whnf); exact sf),(by (conv=>whnf); exact ⟨(by (conv=>whnf); exact sf),(by (conv=>whnf); exact ⟨(by (conv=>whnf); exact sf),(by (conv=>whnf); exact ⟨(by (conv=>whnf); exact sf),(by (conv=>whnf); exact ⟨(by (conv=>whnf); exact sf),(by (conv=>whnf); exact ⟨(by (conv=>whnf); exact sf),trivial⟩)⟩)⟩)⟩)⟩)⟩),(by (conv=>whnf); exact ⟨(by first | ((conv=>whnf); exact r2) | exact r2),trivial⟩)⟩)⟩
theorem uZ  {r:Bool} (hm:rU r):S 9 [] [] (.bool r) [] :=sp Tryz.func9 rfl<|sb hm λ v1 hv1 hm=>cl ((Yl hv1).le ⟨(Le.Qg ⟨(.sl rfl (λ h=>absurd rfl h) nofun (λ _ h=>absurd h (Nat.not_lt_zero _))),(.sl rfl (λ h=>absurd rfl h) nofun (λ _ h=>absurd h (Nat.not_lt_zero _))),(.refl _),(.sl rfl (λ h=>absurd rfl h) nofun (λ _ h=>absurd h (Nat.not_lt_zero _))),(.sl rfl (λ h=>absurd rfl h) nofun (λ _ h=>absurd h (Nat.not_lt_zero _))),(.sl rfl (λ h=>absurd rfl h) nofun (λ _ h=>absurd h (Nat.not_lt_zero _))),trivial⟩),trivial⟩ trivial)<|sb hm λ v2 hv2 hm=>cl ((F3 hv2).le ⟨(Le.Qg ⟨(.sl rfl (λ h=>absurd rfl h) nofun (λ _ h=>absurd h (Nat.not_lt_zero _))),(.sl rfl (λ h=>absurd rfl h) nofun (λ _ h=>absurd h (Nat.not_lt_zero _))),(.refl _),(.sl rfl (λ h=>absurd rfl h) nofun (λ _ h=>absurd h (Nat.not_lt_zero _))),(.sl rfl (λ h=>absurd rfl h) nofun (λ _ h=>absurd h (Nat.not_lt_zero _))),(.sl rfl (λ h=>absurd rfl h) nofun (λ _ h=>absurd h (Nat.not_lt_zero _))),trivial⟩),(.sl rfl (λ _=>rfl) nofun (uq (Le.Qg ⟨(.sl rfl (λ h=>absurd rfl h) nofun (λ _ h=>absurd h (Nat.not_lt_zero _))),(.sl rfl (λ h=>absurd rfl h) nofun (λ _ h=>absurd h (Nat.not_lt_zero _))),(.sl rfl (λ h=>absurd rfl h) nofun (λ _ h=>absurd h (Nat.not_lt_zero _))),(.sl rfl (λ h=>absurd rfl h) nofun (λ _ h=>absurd h (Nat.not_lt_zero _))),(.refl _),(.sl rfl (λ h=>absurd rfl h) nofun (λ _ h=>absurd h (Nat.not_lt_zero _))),trivial⟩) (λ _ h=>absurd h (Nat.not_lt_zero _)))),(.sl rfl (λ h=>absurd rfl h) nofun (λ _ h=>absurd h (Nat.not_lt_zero _))),.refl _,.refl _,trivial⟩ trivial)<|sb hm λ v3 hv3 hm=>cl ((UU hv3).le ⟨(Le.Qg ⟨(.sl rfl (λ h=>absurd rfl h) nofun (λ _ h=>absurd h (Nat.not_lt_zero _))),(.sl rfl (λ h=>absurd rfl h) nofun (λ _ h=>absurd h (Nat.not_lt_zero _))),(.refl _),(.sl rfl (λ h=>absurd rfl h) nofun (λ _ h=>absurd h (Nat.not_lt_zero _))),(.sl rfl (λ h=>absurd rfl h) nofun (λ _ h=>absurd h (Nat.not_lt_zero _))),(.sl rfl (λ h=>absurd rfl h) nofun (λ _ h=>absurd h (Nat.not_lt_zero _))),trivial⟩),(.sl rfl (λ _=>rfl) nofun (uq (Le.Qg ⟨(.sl rfl (λ h=>absurd rfl h) nofun (λ _ h=>absurd h (Nat.not_lt_zero _))),(.sl rfl (λ h=>absurd rfl h) nofun (λ _ h=>absurd h (Nat.not_lt_zero _))),(.sl rfl (λ h=>absurd rfl h) nofun (λ _ h=>absurd h (Nat.not_lt_zero _))),(.sl rfl (λ h=>absurd rfl h) nofun (λ _ h=>absurd h (Nat.not_lt_zero _))),(.refl _),(.sl rfl (λ h=>absurd rfl h) nofun (λ _ h=>absurd h (Nat.not_lt_zero _))),trivial⟩) (λ _ h=>absurd h (Nat.not_lt_zero _)))),.refl _,.refl _,.refl _,trivial⟩ ⟨⟨rfl,rfl,(gN iV 0 [(0:Int)])⟩,trivial⟩)<|si hm (λ _ hm=>si hm (λ _ hm=>sb hm λ v4 hv4 hm=>cl (λ q0=>((IW (hv4 q0)).le ⟨(Le.Qg ⟨(.sl rfl (λ h=>absurd rfl h) nofun (λ _ h=>absurd h (Nat.not_lt_zero _))),(.sl rfl (λ h=>absurd rfl h) nofun (λ _ h=>absurd h (Nat.not_lt_zero _))),(.refl _),(.sl rfl (λ h=>absurd rfl h) nofun (λ _ h=>absurd h (Nat.not_lt_zero _))),(.sl rfl (λ h=>absurd rfl h) nofun (λ _ h=>absurd h (Nat.not_lt_zero _))),(.sl rfl (λ h=>absurd rfl h) nofun (λ _ h=>absurd h (Nat.not_lt_zero _))),trivial⟩),(.sl rfl (λ _=>rfl) nofun (uq (Le.Qg ⟨(.sl rfl (λ h=>absurd rfl h) nofun (λ _ h=>absurd h (Nat.not_lt_zero _))),(.sl rfl (λ h=>absurd rfl h) nofun (λ _ h=>absurd h (Nat.not_lt_zero _))),(.sl rfl (λ h=>absurd rfl h) nofun (λ _ h=>absurd h (Nat.not_lt_zero _))),(.sl rfl (λ h=>absurd rfl h) nofun (λ _ h=>absurd h (Nat.not_lt_zero _))),(.refl _),(.sl rfl (λ h=>absurd rfl h) nofun (λ _ h=>absurd h (Nat.not_lt_zero _))),trivial⟩) (λ _ h=>absurd h (Nat.not_lt_zero _)))),(.sl rfl (λ _=>rfl) nofun (gN iV 0 [(0:Int)])),.refl _,trivial⟩ trivial))<|by cases hm;exact re) λ c2 hm=>by
 refine ⟨.bool false,[],(λ q0=>absurd q0 (vac c2)),?_⟩
 (conv=>whnf)
 have hm:r=(((((v1.2==(0:Int))&&(v2.2.2==(0:Int)))&&(v2.2.1==(0:Int)))&&(v3.2==(0:Int)))&&false):=hm
 subst hm
 refine ⟨[],[],?_⟩
 (conv=>whnf)
 exact ⟨⟨rfl,trivial,trivial⟩,rfl⟩) λ c1 hm=>si hm (λ _ hm=>by
 refine ⟨.bool false,[],(λ q0=>absurd q0 (vac c1)),?_⟩
 (conv=>whnf)
 have hm:r=(((((v1.2==(0:Int))&&(v2.2.2==(0:Int)))&&(v2.2.1==(0:Int)))&&(v3.2==(0:Int)))&&false):=hm
 subst hm
 refine ⟨[],[],?_⟩
 (conv=>whnf)
 exact ⟨⟨rfl,trivial,trivial⟩,rfl⟩) λ _ hm=>by
 refine ⟨.bool false,[],(λ q0=>absurd q0 (vac c1)),?_⟩
 (conv=>whnf)
 have hm:r=(((((v1.2==(0:Int))&&(v2.2.2==(0:Int)))&&(v2.2.1==(0:Int)))&&(v3.2==(0:Int)))&&false):=hm
 subst hm
 refine ⟨[],[],?_⟩
 (conv=>whnf)
 exact ⟨⟨rfl,trivial,trivial⟩,rfl⟩
theorem aaN {l_:List Int} {r:List Int×Int} (hm:PL l_ r):S 10 [aC l_] [] (.ptr 0 0 0) [.box [aC r.1,iV r.2]] :=sp Tryz.func10 rfl<|sn hm λ _ hm=>by cases hm;exact rt [] [(0,some 56)]
theorem aaO {r:Int} (hm:PN x_ n_ r):S 70 [iV x_,iV n_] [] (iV r) [] :=sp Tryz.func70 rfl<|si hm (λ _ hm=>by cases hm;exact re) λ _ hm=>s2 hm λ _ _ hm=>sn hm λ _ hm=>by cases hm;exact re
theorem bZ {dF:dI} {r:Int×dI} (hm:eu n_ dF r):S 30 [.ptr 0 0 0,iV n_] [.box [aC dF.L,iV dF.At]] (iV r.1) [.box [aC r.2.L,iV r.2.At]] :=sp Tryz.func30 rfl<|si hm (λ _ hm=>by cases hm;exact re) λ _ hm=>s2 hm λ _ _ hm=>sn hm λ _ hm=>sq hm aaO λ v1 hm=>by cases hm;exact re
theorem gT {l_:List Int} {dF:dI} {r:Int×dI} (hm:ig l_ dF r):S 56 [.ptr 0 0 0,aC l_] [.box [aC dF.L,iV dF.At]] (iV r.1) [.box [aC r.2.L,iV r.2.At]] :=sp Tryz.func56 rfl<|sq hm bZ λ v1 hm=>sn hm λ _ hm=>by cases hm;exact re
theorem Mq {dF:dI} {r:List aI×dI} (hm:sN dF r):S 79 [.ptr 0 0 0] [.box [aC dF.L,iV dF.At]] (bg r.1) [.box [aC r.2.L,iV r.2.At]] :=spc [20,22] Tryz.func79 rfl<|sq hm bZ λ v1 hm=>Vo [20,22] hm (λ g1=>⟨[(0,.ptr 0 0 0),(3,.eF 1 0 g1.2.2.2.length false),(4,iV g1.1)],[(0,some (.box [aC g1.2.1,iV g1.2.2.1])),(1,some (.row 5 g1.2.2.2.length (bP M4 aK g1.2.2.2)))],2⟩) [(1,none)] [] <|λ aj g1 hm=>si hm (λ _ hm=>sb hm λ v28 hv28 hm=>cl ((gT hv28).le ⟨.refl _,(.sl rfl (λ _=>rfl) nofun (gN iV 0 [(12:Int),(24:Int),(48:Int),(100:Int)])),trivial⟩ ⟨kU _,trivial⟩)<|ck [20,22] (eH g1 aj) r (λ g7=>⟨[(0,.ptr 0 0 0),(3,.eF 1 0 g1.2.2.2.length false),(4,iV g1.1),(5,.ptr 2 0 0)],[(0,some (.box [aC g7.1,iV g7.2.1])),(1,some (.row 5 g1.2.2.2.length (bP M4 aK g1.2.2.2))),(2,some (.box [iV g7.2.2.1,.eF 3 0 g7.2.2.2.2.1.length false,.eF 4 0 g7.2.2.2.2.2.length false,iV (0:Int),iV g7.2.2.2.1])),(3,some (.row 1 g7.2.2.2.2.1.length (bP iV 0 g7.2.2.2.2.1))),(4,some (.row 1 g7.2.2.2.2.2.length (bP iV 0 g7.2.2.2.2.2)))],5⟩) (si hm (λ _ hm=>sq hm bZ λ v41 hm=>si hm (λ _ hm=>sq hm bZ λ v42 hm=>ck [20,22] (gK g1 aj) r (λ g8=>⟨[(0,.ptr 0 0 0),(3,.eF 1 0 g1.2.2.2.length false),(4,iV g1.1),(5,.ptr 2 0 0),(25,iV v41.1)],[(0,some (.box [aC g8.1,iV g8.2.1])),(1,some (.row 5 g1.2.2.2.length (bP M4 aK g1.2.2.2))),(2,some (.box [iV g8.2.2.1,.eF 3 0 g8.2.2.2.1.length false,.eF 4 0 g8.2.2.2.2.length false,iV (0:Int),iV (0:Int)])),(3,some (.row 1 g8.2.2.2.1.length (bP iV 0 g8.2.2.2.1))),(4,some (.row 1 g8.2.2.2.2.length (bP iV 0 g8.2.2.2.2)))],5⟩) (sq hm bZ λ v49 hm=>si hm (λ _ hm=>sb hm λ v50 ac4 hm=>cl ((gT ac4).le ⟨.refl _,(.sl rfl (λ _=>rfl) nofun (gN iV 0 [(3:Int),(4:Int),(8:Int)])),trivial⟩ ⟨kU _,trivial⟩)<|lc [(2,some 58),(3,some 178),(4,some 258)] [] hm) λ _ hm=>si hm (λ _ hm=>sb hm λ v51 aob hm=>cl ((gT aob).le ⟨.refl _,(.sl rfl (λ _=>rfl) nofun (gN iV 0 [(2:Int),(3:Int)])),trivial⟩ ⟨kU _,trivial⟩)<|lc [(2,some 58),(3,some 178),(4,some 274)] [] hm) λ _ hm=>si hm (λ _ hm=>lc [(2,some 58),(3,some 178),(4,some 266)] [] hm) λ _ hm=>si hm (λ _ hm=>sn hm λ _ hm=>sq hm bZ λ v52 hm=>sn hm λ _ hm=>lc [(2,some 58),(3,some 346),(4,some 354)] [] hm) λ _ hm=>lc [(2,some 58),(3,some 178),(4,some 282)] [] hm) λ g8 hm=>sq hm bZ λ v47 hm=>si hm (λ _ hm=>sb hm λ v48 aad hm=>cl ((gT aad).le ⟨.refl _,(.sl rfl (λ _=>rfl) nofun (gN iV 0 [(24:Int),(48:Int),(96:Int)])),trivial⟩ ⟨kU _,trivial⟩)<|le hm) λ _ hm=>le hm) λ _ hm=>lc [(2,some 58),(3,none),(4,some 42)] [] hm) λ c37 hm=>by
 refine ⟨(λ q0=>absurd q0 (vac c37)),?_⟩
 (conv=>whnf)
 refine bf hm λ h28 hm=>?_
 (conv=>whnf)
 exact ⟨(v28.2.L,v28.2.At,(1:Int),(0:Int),([]:List Int),([v28.1]:List Int)),[(2,some 58),(3,none),(4,some 42)],[],hm,⟨rfl,⟨r4,⟨rfl,rfl,rfl,rfl,nofun⟩,r2,r4,trivial⟩,⟨⟨sf,r2,trivial⟩,⟨rfl,rfl,(λ _ _=>.refl _)⟩,⟨r2,⟨rfl,rfl,rfl,rfl,rfl,rfl⟩,⟨rfl,rfl,rfl,rfl,nofun⟩,r2,r2,trivial⟩,rfl,⟨rfl,rfl,(gN iV 0 [v28.1])⟩,trivial⟩⟩⟩) λ g7 hm=>s2 hm λ _ _ hm=>lc [(1,some 29)] [] hm) λ _ hm=>by cases hm;exact rt [1] []
theorem lC {dF:dI} {r:Int×dI} (hm:jW wB yt dF r):S 54 [.ptr 0 0 0,iV wB,iV yt] [.box [aC dF.L,iV dF.At]] (iV r.1) [.box [aC r.2.L,iV r.2.At]] :=sp Tryz.func54 rfl<|s2 hm λ _ _ hm=>sq hm bZ λ v1 hm=>sn hm λ _ hm=>by cases hm;exact re
theorem IY {dF:dI} {r:List aD×dI} (hm:pI dF r):S 80 [.ptr 0 0 0] [.box [aC dF.L,iV dF.At]] (aV r.1) [.box [aC r.2.L,iV r.2.At]] :=spc [8] Tryz.func80 rfl<|sq hm bZ λ v1 hm=>Vo [8] hm (λ g1=>⟨[(0,.ptr 0 0 0),(3,.eF 1 0 g1.2.2.2.length false),(4,iV g1.1)],[(0,some (.box [aC g1.2.1,iV g1.2.2.1])),(1,some (.row 5 g1.2.2.2.length (bP Cm au g1.2.2.2)))],2⟩) [(1,none)] [] <|λ aj g1 hm=>si hm (λ _ hm=>sn hm λ _ hm=>sq hm lC λ v12 hm=>sb hm λ v13 R8 hm=>cl ((gT R8).le ⟨.refl _,(.sl rfl (λ _=>rfl) nofun (gN iV 0 [(0:Int),(0:Int),(100:Int),(300:Int)])),trivial⟩ ⟨kU _,trivial⟩)<|sb hm λ v14 TY hm=>cl ((gT TY).le ⟨.refl _,(.sl rfl (λ _=>rfl) nofun (gN iV 0 [(100:Int),(300:Int),(1000:Int)])),trivial⟩ ⟨kU _,trivial⟩)<|sq hm bZ λ v15 hm=>ck [8] (kg g1 aj v12 v14 v15) r (λ g4=>⟨[(0,.ptr 0 0 0),(3,.eF 1 0 g1.2.2.2.length false),(4,iV g1.1),(5,.ptr 2 0 0)],[(0,some (.box [aC v15.2.L,iV v15.2.At])),(1,some (.row 5 g1.2.2.2.length (bP Cm au g1.2.2.2))),(2,some (.box [iV v12.1,.sl 0 0 true fF,iV g4,iV v14.1,.bool (v15.1==(7:Int))]))],3⟩) (si hm (λ _ hm=>lc [(2,some 138)] [] hm) λ _ hm=>lc [(2,some 138)] [] hm) λ g4 hm=>sq hm bZ λ v16 hm=>sn hm λ _ hm=>by
 rcases (by omega:v16.1=0∨v16.1=1∨v16.1=2∨v16.1=3∨v16.1=4) with e1 | e1 | e1 | e1 | e1
 ·rw [e1] at hm ⊢
  (conv=>whnf)
  refine bf hm λ h27 hm=>?_
  (conv=>whnf)
  refine bf hm λ h28 hm=>?_
  (conv=>whnf)
  exact ⟨((g1.1 - (1:Int)),v16.2.L,v16.2.At,(g1.2.2.2++([(⟨v12.1,([(1000:Int),(1200:Int)]:List Int),g4,v14.1,(v15.1==(7:Int))⟩:aD)]:List aD))),[(1,some 123)],[],hm,⟨rfl,⟨r4,⟨rfl,rfl,rfl,oz,nofun⟩,r2,trivial⟩,⟨⟨sf,r2,trivial⟩,⟨rfl,oz,(jL rfl (λ _ _=>.refl _) rfl (uq (Le.Qg ⟨(.refl _),(.sl rfl (λ _=>rfl) nofun (gN iV 0 [(1000:Int),(1200:Int)])),(.refl _),(.refl _),(.refl _),trivial⟩) (λ _ h=>absurd h (Nat.not_lt_zero _))))⟩,trivial⟩⟩⟩
 ·rw [e1] at hm ⊢
  (conv=>whnf)
  refine bf hm λ h29 hm=>?_
  (conv=>whnf)
  refine bf hm λ h30 hm=>?_
  (conv=>whnf)
  exact ⟨((g1.1 - (1:Int)),v16.2.L,v16.2.At,(g1.2.2.2++([(⟨v12.1,([(1800:Int),(3300:Int)]:List Int),g4,v14.1,(v15.1==(7:Int))⟩:aD)]:List aD))),[(1,some 123)],[],hm,⟨rfl,⟨r4,⟨rfl,rfl,rfl,oz,nofun⟩,r2,trivial⟩,⟨⟨sf,r2,trivial⟩,⟨rfl,oz,(jL rfl (λ _ _=>.refl _) rfl (uq (Le.Qg ⟨(.refl _),(.sl rfl (λ _=>rfl) nofun (gN iV 0 [(1800:Int),(3300:Int)])),(.refl _),(.refl _),(.refl _),trivial⟩) (λ _ h=>absurd h (Nat.not_lt_zero _))))⟩,trivial⟩⟩⟩
 ·rw [e1] at hm ⊢
  (conv=>whnf)
  refine bf hm λ h31 hm=>?_
  (conv=>whnf)
  refine bf hm λ h32 hm=>?_
  (conv=>whnf)
  exact ⟨((g1.1 - (1:Int)),v16.2.L,v16.2.At,(g1.2.2.2++([(⟨v12.1,([(1000:Int),(1800:Int),(3300:Int)]:List Int),g4,v14.1,(v15.1==(7:Int))⟩:aD)]:List aD))),[(1,some 123)],[],hm,⟨rfl,⟨r4,⟨rfl,rfl,rfl,oz,nofun⟩,r2,trivial⟩,⟨⟨sf,r2,trivial⟩,⟨rfl,oz,(jL rfl (λ _ _=>.refl _) rfl (uq (Le.Qg ⟨(.refl _),(.sl rfl (λ _=>rfl) nofun (gN iV 0 [(1000:Int),(1800:Int),(3300:Int)])),(.refl _),(.refl _),(.refl _),trivial⟩) (λ _ h=>absurd h (Nat.not_lt_zero _))))⟩,trivial⟩⟩⟩
 ·rw [e1] at hm ⊢
  (conv=>whnf)
  refine bf hm λ h33 hm=>?_
  (conv=>whnf)
  refine bf hm λ h34 hm=>?_
  (conv=>whnf)
  exact ⟨((g1.1 - (1:Int)),v16.2.L,v16.2.At,(g1.2.2.2++([(⟨v12.1,([(3300:Int),(5000:Int)]:List Int),g4,v14.1,(v15.1==(7:Int))⟩:aD)]:List aD))),[(1,some 123)],[],hm,⟨rfl,⟨r4,⟨rfl,rfl,rfl,oz,nofun⟩,r2,trivial⟩,⟨⟨sf,r2,trivial⟩,⟨rfl,oz,(jL rfl (λ _ _=>.refl _) rfl (uq (Le.Qg ⟨(.refl _),(.sl rfl (λ _=>rfl) nofun (gN iV 0 [(3300:Int),(5000:Int)])),(.refl _),(.refl _),(.refl _),trivial⟩) (λ _ h=>absurd h (Nat.not_lt_zero _))))⟩,trivial⟩⟩⟩
 ·rw [e1] at hm ⊢
  (conv=>whnf)
  refine bf hm λ h35 hm=>?_
  (conv=>whnf)
  refine bf hm λ h36 hm=>?_
  (conv=>whnf)
  exact ⟨((g1.1 - (1:Int)),v16.2.L,v16.2.At,(g1.2.2.2++([(⟨v12.1,([(900:Int)]:List Int),g4,v14.1,(v15.1==(7:Int))⟩:aD)]:List aD))),[(1,some 123)],[],hm,⟨rfl,⟨r4,⟨rfl,rfl,rfl,oz,nofun⟩,r2,trivial⟩,⟨⟨sf,r2,trivial⟩,⟨rfl,oz,(jL rfl (λ _ _=>.refl _) rfl (uq (Le.Qg ⟨(.refl _),(.sl rfl (λ _=>rfl) nofun (gN iV 0 [(900:Int)])),(.refl _),(.refl _),(.refl _),trivial⟩) (λ _ h=>absurd h (Nat.not_lt_zero _))))⟩,trivial⟩⟩⟩) λ _ hm=>by cases hm;exact rt [1] []
theorem oG  {r:List ByteArray} (hm:oL r):S 132 [] [] (gG r) [] :=sp Tryz.func132 rfl<|by cases hm;exact rt [8] []
theorem Mr {dF:dI} {r:bn×dI} (hm:sO dF r):S 81 [.ptr 0 0 0] [.box [aC dF.L,iV dF.At]] (lX r.1) [.box [aC r.2.L,iV r.2.At]] :=spc [13,17] Tryz.func81 rfl<|sq hm lC λ v1 hm=>sq hm bZ λ v2 hm=>Vo [13,17] hm (λ g1=>⟨[(0,.ptr 0 0 0),(2,.ptr 1 0 0),(3,.ptr 2 0 0),(4,iV g1.1)],[(0,some (.box [aC g1.2.1,iV g1.2.2.1])),(1,some (.box [iV (0:Int),.sl 0 0 true fF])),(2,some (.box [iV v1.1,.eF 3 0 g1.2.2.2.length false])),(3,some (.row 3 g1.2.2.2.length (bP og aG g1.2.2.2)))],4⟩) [(2,some 33),(3,none)] [] <|λ aj g1 hm=>si hm (λ _ hm=>sn hm λ _ hm=>by
 refine ⟨(akd (es:=[.int .u8 (IntKind.u8.wrap ((97:Int)+(g1.2.2.2.length:Int)))]) rfl),?_⟩
 (conv=>whnf)
 refine bf hm λ h74 hm=>?_
 (conv=>whnf)
 refine iF hm λ v35 aoh hm=>?_
 refine ⟨_,_,(bZ aoh),?_⟩
 (conv=>whnf)
 refine vP (ct:=[13,17]) iR dk hm (λ g12=>⟨[(0,.ptr 0 0 0),(2,.ptr 1 0 0),(3,.ptr 2 0 0),(4,iV g1.1),(5,.ptr 3 0 0),(6,iV v35.1),(7,iV g12.1)],[(0,some (.box [aC g12.2.1,iV g12.2.2.1])),(1,some (.box [iV (0:Int),.sl 0 0 true fF])),(2,some (.box [iV v1.1,.eF 4 0 g1.2.2.2.length false])),(3,some (.box [.str (({ data:=#[103] }:ByteArray)++(strOf ([(IntKind.u8.wrap ((97:Int)+(g1.2.2.2.length:Int)))]:List Int))),.eF 5 0 g12.2.2.2.length false,.sl 0 0 true fF])),(4,some (.row 3 g1.2.2.2.length (bP og aG g1.2.2.2))),(5,some (.row 1 g12.2.2.2.length (bP iV 0 g12.2.2.2)))],6⟩) [(3,some 92),(4,some 3),(5,none)] [] ⟨rfl,⟨r4,r4,r4,r2,r4,r2,r2,trivial⟩,⟨⟨sf,r2,trivial⟩,⟨r2,sr,trivial⟩,⟨r2,⟨rfl,rfl,rfl,rfl,nofun⟩,trivial⟩,⟨rfl,⟨rfl,rfl,rfl,rfl,rfl,rfl⟩,sr,trivial⟩,⟨rfl,rfl,(λ _ _=>.refl _)⟩,rfl,trivial⟩⟩ ?_
 intro agx g12 hm
 (conv=>whnf)
 refine iU hm (λ c36 hm=>?_) (λ c36 hm=>?_)
 ·(conv=>whnf)
  refine iF hm λ v38 hv38 hm=>?_
  refine ⟨_,_,(lC hv38),?_⟩
  (conv=>whnf)
  refine bf hm λ h83 hm=>?_
  (conv=>whnf)
  refine iU hm (λ c37 hm=>?_) (λ c37 hm=>?_)
  ·(conv=>whnf)
   refine bf hm λ h84 hm=>?_
   (conv=>whnf)
   refine bf hm λ h85 hm=>?_
   (conv=>whnf)
   exact ⟨((g12.1+(1:Int)),v38.2.L,v38.2.At,(g12.2.2.2++([g12.1]:List Int))),[(5,some 134)],[],hm,⟨rfl,⟨r4,r4,r4,r2,r4,r2,r2,trivial⟩,⟨⟨sf,r2,trivial⟩,⟨r2,sr,trivial⟩,⟨r2,⟨rfl,rfl,rfl,rfl,nofun⟩,trivial⟩,⟨rfl,⟨rfl,rfl,rfl,oz,nofun⟩,sr,trivial⟩,⟨rfl,rfl,(λ _ _=>.refl _)⟩,⟨rfl,oz,(jL rfl (λ _ _=>.refl _) rfl (gN iV 0 [g12.1]))⟩,trivial⟩⟩⟩
  ·(conv=>whnf)
   refine ZN (ct:=[13,17]) iR dk dk (kX g1 aj v38) r (λ g13=>⟨[(0,.ptr 0 0 0),(2,.ptr 1 0 0),(3,.ptr 2 0 0),(4,iV g1.1),(5,.ptr 3 0 0),(40,iV v38.1)],[(0,some (.box [aC v38.2.L,iV v38.2.At])),(1,some (.box [iV (0:Int),.sl 0 0 true fF])),(2,some (.box [iV v1.1,.eF 4 0 g1.2.2.2.length false])),(3,some (.box [.str (({ data:=#[103] }:ByteArray)++(strOf ([(IntKind.u8.wrap ((97:Int)+(g1.2.2.2.length:Int)))]:List Int))),.eF 5 0 g13.length false,.sl 0 0 true fF])),(4,some (.row 3 g1.2.2.2.length (bP og aG g1.2.2.2))),(5,some (.row 1 g13.length (bP iV 0 g13)))],6⟩) ?_ (λ g13 hm=>?_)
   ·(conv=>whnf)
    refine iU hm (λ c41 hm=>?_) (λ c41 hm=>?_)
    ·(conv=>whnf)
     exact ⟨([v35.1]:List Int),[(5,some 142)],[],hm,⟨rfl,⟨r4,r4,r4,r2,r4,r2,trivial⟩,⟨⟨sr,r2,trivial⟩,⟨r2,sr,trivial⟩,⟨r2,⟨rfl,rfl,rfl,rfl,nofun⟩,trivial⟩,⟨rfl,⟨rfl,rfl,rfl,rfl,nofun⟩,sr,trivial⟩,⟨rfl,rfl,(λ _ _=>.refl _)⟩,⟨rfl,rfl,(gN iV 0 [v35.1])⟩,trivial⟩⟩⟩
    ·(conv=>whnf)
     exact ⟨g12.2.2.2,[],[],hm,⟨rfl,⟨r4,r4,r4,r2,r4,r2,trivial⟩,⟨⟨sr,r2,trivial⟩,⟨r2,sr,trivial⟩,⟨r2,⟨rfl,rfl,rfl,rfl,nofun⟩,trivial⟩,⟨rfl,⟨rfl,rfl,rfl,rfl,nofun⟩,sr,trivial⟩,⟨rfl,rfl,(λ _ _=>.refl _)⟩,⟨rfl,rfl,(λ _ _=>.refl _)⟩,trivial⟩⟩⟩
   ·(conv=>whnf)
    refine iF hm λ v39 hv39 hm=>?_
    refine ⟨_,_,(bZ hv39),?_⟩
    (conv=>whnf)
    refine iF hm λ v40 akw hm=>?_
    refine ⟨_,_,(oG akw),?_⟩
    (conv=>whnf)
    refine bf hm λ h86 hm=>?_
    (conv=>whnf)
    refine ZN (ct:=[13,17]) iR dk dk (jf g1 aj g13) r (λ g14=>⟨[(0,.ptr 0 0 0),(2,.ptr 1 0 0),(3,.ptr 2 0 0),(4,iV g1.1),(5,.ptr 3 0 0),(40,iV v38.1)],[(0,some (.box [aC g14.1,iV g14.2.1])),(1,some (.box [iV (0:Int),.sl 0 0 true fF])),(2,some (.box [iV v1.1,.eF 4 0 g1.2.2.2.length false])),(3,some (.box [.str (({ data:=#[103] }:ByteArray)++(strOf ([(IntKind.u8.wrap ((97:Int)+(g1.2.2.2.length:Int)))]:List Int))),.eF 5 0 g13.length false,.eF 6 0 g14.2.2.length false])),(4,some (.row 3 g1.2.2.2.length (bP og aG g1.2.2.2))),(5,some (.row 1 g13.length (bP iV 0 g13))),(6,some (.row 1 g14.2.2.length (bP AV.str ByteArray.empty g14.2.2)))],7⟩) ?_ (λ g14 hm=>?_)
    ·(conv=>whnf)
     refine iF hm λ v43 akx hm=>?_
     refine ⟨_,_,(bZ akx),?_⟩
     (conv=>whnf)
     refine iU hm (λ c40 hm=>?_) (λ c40 hm=>?_)
     ·(conv=>whnf)
      refine iF hm λ v44 aky hm=>?_
      refine ⟨_,_,(oG aky),?_⟩
      (conv=>whnf)
      refine bf hm λ h93 hm=>?_
      (conv=>whnf)
      refine bf hm λ h94 hm=>?_
      (conv=>whnf)
      refine bf hm λ h95 hm=>?_
      (conv=>whnf)
      refine bf hm λ h96 hm=>?_
      (conv=>whnf)
      exact ⟨(v43.2.L,v43.2.At,(([(v40.getD v39.1.toNat ByteArray.empty)]:List ByteArray)++([(v44.getD (((v39.1+(1:Int)).tmod (4:Int)).toNat) ByteArray.empty)]:List ByteArray))),[(6,some 182)],[],hm,⟨rfl,⟨r4,r4,r4,r2,r4,r2,trivial⟩,⟨⟨sf,r2,trivial⟩,⟨r2,sr,trivial⟩,⟨r2,⟨rfl,rfl,rfl,rfl,nofun⟩,trivial⟩,⟨rfl,⟨rfl,rfl,rfl,rfl,nofun⟩,⟨rfl,rfl,rfl,oz,nofun⟩,trivial⟩,⟨rfl,rfl,(λ _ _=>.refl _)⟩,⟨rfl,rfl,(λ _ _=>.refl _)⟩,⟨rfl,oz,(jL rfl (gN AV.str ByteArray.empty [(v40.getD v39.1.toNat ByteArray.empty)]) rfl (gN AV.str ByteArray.empty [(v44.getD (((v39.1+(1:Int)).tmod (4:Int)).toNat) ByteArray.empty)]))⟩,trivial⟩⟩⟩
     ·(conv=>whnf)
      exact ⟨(v43.2.L,v43.2.At,([(v40.getD v39.1.toNat ByteArray.empty)]:List ByteArray)),[(6,some 62)],[],hm,⟨rfl,⟨r4,r4,r4,r2,r4,r2,trivial⟩,⟨⟨sf,r2,trivial⟩,⟨r2,sr,trivial⟩,⟨r2,⟨rfl,rfl,rfl,rfl,nofun⟩,trivial⟩,⟨rfl,⟨rfl,rfl,rfl,rfl,nofun⟩,⟨rfl,rfl,rfl,rfl,nofun⟩,trivial⟩,⟨rfl,rfl,(λ _ _=>.refl _)⟩,⟨rfl,rfl,(λ _ _=>.refl _)⟩,⟨rfl,rfl,(gN AV.str ByteArray.empty [(v40.getD v39.1.toNat ByteArray.empty)])⟩,trivial⟩⟩⟩
    ·(conv=>whnf)
     refine bf hm λ h91 hm=>?_
     (conv=>whnf)
     refine bf hm λ h92 hm=>?_
     (conv=>whnf)
     exact ⟨((g1.1 - (1:Int)),g14.1,g14.2.1,(g1.2.2.2++([(⟨(({ data:=#[103] }:ByteArray)++(strOf ([(IntKind.u8.wrap ((97:Int)+(g1.2.2.2.length:Int)))]:List Int))),g13,g14.2.2⟩:cK)]:List cK))),[(3,some 39)],[],hm,⟨rfl,⟨r4,r4,r4,r2,trivial⟩,⟨⟨sf,r2,trivial⟩,⟨r2,sr,trivial⟩,⟨r2,⟨rfl,rfl,rfl,oz,nofun⟩,trivial⟩,⟨rfl,oz,(jL rfl (λ _ _=>.refl _) rfl (gN og aG [(⟨(({ data:=#[103] }:ByteArray)++(strOf ([(IntKind.u8.wrap ((97:Int)+(g1.2.2.2.length:Int)))]:List Int))),g13,g14.2.2⟩:cK)]))⟩,trivial⟩⟩⟩
 ·(conv=>whnf)
  refine ⟨(λ q0=>absurd q0 (vac c36)),?_⟩
  (conv=>whnf)
  refine ⟨(λ q0=>absurd q0 (vac c36)),?_⟩
  (conv=>whnf)
  refine bf hm λ h97 hm=>?_
  (conv=>whnf)
  refine ZN (ct:=[13,17]) iR dk dk (jQ g1 aj g12) r (λ g15=>⟨[(0,.ptr 0 0 0),(2,.ptr 1 0 0),(3,.ptr 2 0 0),(4,iV g1.1),(5,.ptr 3 0 0)],[(0,some (.box [aC g12.2.1,iV g12.2.2.1])),(1,some (.box [iV (0:Int),.sl 0 0 true fF])),(2,some (.box [iV v1.1,.eF 4 0 g1.2.2.2.length false])),(3,some (.box [.str (({ data:=#[103] }:ByteArray)++(strOf ([(IntKind.u8.wrap ((97:Int)+(g1.2.2.2.length:Int)))]:List Int))),.eF 5 0 g15.length false,.sl 0 0 true fF])),(4,some (.row 3 g1.2.2.2.length (bP og aG g1.2.2.2))),(5,some (.row 1 g15.length (bP iV 0 g15)))],6⟩) ?_ (λ g15 hm=>?_)
  ·(conv=>whnf)
   refine iU hm (λ c45 hm=>?_) (λ c45 hm=>?_)
   ·(conv=>whnf)
    exact ⟨([v35.1]:List Int),[(5,some 142)],[],hm,⟨rfl,⟨r4,r4,r4,r2,r4,trivial⟩,⟨⟨sr,r2,trivial⟩,⟨r2,sr,trivial⟩,⟨r2,⟨rfl,rfl,rfl,rfl,nofun⟩,trivial⟩,⟨rfl,⟨rfl,rfl,rfl,rfl,nofun⟩,sr,trivial⟩,⟨rfl,rfl,(λ _ _=>.refl _)⟩,⟨rfl,rfl,(gN iV 0 [v35.1])⟩,trivial⟩⟩⟩
   ·(conv=>whnf)
    exact ⟨g12.2.2.2,[],[],hm,⟨rfl,⟨r4,r4,r4,r2,r4,trivial⟩,⟨⟨sr,r2,trivial⟩,⟨r2,sr,trivial⟩,⟨r2,⟨rfl,rfl,rfl,rfl,nofun⟩,trivial⟩,⟨rfl,⟨rfl,rfl,rfl,rfl,nofun⟩,sr,trivial⟩,⟨rfl,rfl,(λ _ _=>.refl _)⟩,⟨rfl,rfl,(λ _ _=>.refl _)⟩,trivial⟩⟩⟩
  ·(conv=>whnf)
   refine iF hm λ v45 akz hm=>?_
   refine ⟨_,_,(bZ akz),?_⟩
   (conv=>whnf)
   refine iF hm λ v46 agD hm=>?_
   refine ⟨_,_,(oG agD),?_⟩
   (conv=>whnf)
   refine bf hm λ h98 hm=>?_
   (conv=>whnf)
   refine ZN (ct:=[13,17]) iR dk dk (iJ g1 aj g15) r (λ g16=>⟨[(0,.ptr 0 0 0),(2,.ptr 1 0 0),(3,.ptr 2 0 0),(4,iV g1.1),(5,.ptr 3 0 0)],[(0,some (.box [aC g16.1,iV g16.2.1])),(1,some (.box [iV (0:Int),.sl 0 0 true fF])),(2,some (.box [iV v1.1,.eF 4 0 g1.2.2.2.length false])),(3,some (.box [.str (({ data:=#[103] }:ByteArray)++(strOf ([(IntKind.u8.wrap ((97:Int)+(g1.2.2.2.length:Int)))]:List Int))),.eF 5 0 g15.length false,.eF 6 0 g16.2.2.length false])),(4,some (.row 3 g1.2.2.2.length (bP og aG g1.2.2.2))),(5,some (.row 1 g15.length (bP iV 0 g15))),(6,some (.row 1 g16.2.2.length (bP AV.str ByteArray.empty g16.2.2)))],7⟩) ?_ (λ g16 hm=>?_)
   ·(conv=>whnf)
    refine iF hm λ v49 agB hm=>?_
    refine ⟨_,_,(bZ agB),?_⟩
    (conv=>whnf)
    refine iU hm (λ c44 hm=>?_) (λ c44 hm=>?_)
    ·(conv=>whnf)
     refine iF hm λ v50 ac4 hm=>?_
     refine ⟨_,_,(oG ac4),?_⟩
     (conv=>whnf)
     refine bf hm λ atT hm=>?_
     (conv=>whnf)
     refine bf hm λ atU hm=>?_
     (conv=>whnf)
     refine bf hm λ atV hm=>?_
     (conv=>whnf)
     refine bf hm λ atW hm=>?_
     (conv=>whnf)
     exact ⟨(v49.2.L,v49.2.At,(([(v46.getD v45.1.toNat ByteArray.empty)]:List ByteArray)++([(v50.getD (((v45.1+(1:Int)).tmod (4:Int)).toNat) ByteArray.empty)]:List ByteArray))),[(6,some 182)],[],hm,⟨rfl,⟨r4,r4,r4,r2,r4,trivial⟩,⟨⟨sf,r2,trivial⟩,⟨r2,sr,trivial⟩,⟨r2,⟨rfl,rfl,rfl,rfl,nofun⟩,trivial⟩,⟨rfl,⟨rfl,rfl,rfl,rfl,nofun⟩,⟨rfl,rfl,rfl,oz,nofun⟩,trivial⟩,⟨rfl,rfl,(λ _ _=>.refl _)⟩,⟨rfl,rfl,(λ _ _=>.refl _)⟩,⟨rfl,oz,(jL rfl (gN AV.str ByteArray.empty [(v46.getD v45.1.toNat ByteArray.empty)]) rfl (gN AV.str ByteArray.empty [(v50.getD (((v45.1+(1:Int)).tmod (4:Int)).toNat) ByteArray.empty)]))⟩,trivial⟩⟩⟩
    ·(conv=>whnf)
     exact ⟨(v49.2.L,v49.2.At,([(v46.getD v45.1.toNat ByteArray.empty)]:List ByteArray)),[(6,some 62)],[],hm,⟨rfl,⟨r4,r4,r4,r2,r4,trivial⟩,⟨⟨sf,r2,trivial⟩,⟨r2,sr,trivial⟩,⟨r2,⟨rfl,rfl,rfl,rfl,nofun⟩,trivial⟩,⟨rfl,⟨rfl,rfl,rfl,rfl,nofun⟩,⟨rfl,rfl,rfl,rfl,nofun⟩,trivial⟩,⟨rfl,rfl,(λ _ _=>.refl _)⟩,⟨rfl,rfl,(λ _ _=>.refl _)⟩,⟨rfl,rfl,(gN AV.str ByteArray.empty [(v46.getD v45.1.toNat ByteArray.empty)])⟩,trivial⟩⟩⟩
   ·(conv=>whnf)
    refine bf hm λ atX hm=>?_
    (conv=>whnf)
    refine bf hm λ atY hm=>?_
    (conv=>whnf)
    exact ⟨((g1.1 - (1:Int)),g16.1,g16.2.1,(g1.2.2.2++([(⟨(({ data:=#[103] }:ByteArray)++(strOf ([(IntKind.u8.wrap ((97:Int)+(g1.2.2.2.length:Int)))]:List Int))),g15,g16.2.2⟩:cK)]:List cK))),[(3,some 39)],[],hm,⟨rfl,⟨r4,r4,r4,r2,trivial⟩,⟨⟨sf,r2,trivial⟩,⟨r2,sr,trivial⟩,⟨r2,⟨rfl,rfl,rfl,oz,nofun⟩,trivial⟩,⟨rfl,oz,(jL rfl (λ _ _=>.refl _) rfl (gN og aG [(⟨(({ data:=#[103] }:ByteArray)++(strOf ([(IntKind.u8.wrap ((97:Int)+(g1.2.2.2.length:Int)))]:List Int))),g15,g16.2.2⟩:cK)]))⟩,trivial⟩⟩⟩) λ _ hm=>by cases hm;exact rt [3] []
theorem uh {dF:dI} {r:List Int×dI} (hm:kY n_ k_ dF r):S 87 [.ptr 0 0 0,iV n_,iV k_] [.box [aC dF.L,iV dF.At]] (aC r.1) [.box [aC r.2.L,iV r.2.At]] :=sp Tryz.func87 rfl<|lf hm (λ g1=>⟨[(0,.ptr 0 0 0),(1,iV n_),(2,iV k_),(7,.eF 1 0 g1.2.2.2.length false),(8,iV g1.1)],[(0,some (.box [aC g1.2.1,iV g1.2.2.1])),(1,some (.row 1 g1.2.2.2.length (bP iV 0 g1.2.2.2)))],2⟩) [(1,none)] [] <|λ aj g1 hm=>si hm (λ _ hm=>sq hm bZ λ v3 hm=>sn hm λ _ hm=>si hm (λ _ hm=>s2 hm λ _ _ hm=>lc [(1,some 98)] [] hm) λ _ hm=>sn hm λ _ hm=>le hm) λ _ hm=>by cases hm;exact rt [1] []
variable {jh:Int}
theorem Ms {dF:dI} {r:List eG×dI} (hm:sP jh dF r):S 82 [.ptr 0 0 0,iV jh] [.box [aC dF.L,iV dF.At]] (dz r.1) [.box [aC r.2.L,iV r.2.At]] :=sp Tryz.func82 rfl<|sn hm λ _ hm=>sq hm bZ λ v1 hm=>lf hm (λ g1=>⟨[(0,.ptr 0 0 0),(5,.eF 1 0 g1.2.2.2.length false),(6,iV g1.1)],[(0,some (.box [aC g1.2.1,iV g1.2.2.1])),(1,some (.row 1 g1.2.2.2.length (bP akj dn g1.2.2.2)))],2⟩) [(1,none)] [] <|λ aj g1 hm=>si hm (λ _ hm=>sq hm uh λ v4 hm=>s2 hm λ _ _ hm=>lc [(1,some 74)] [] hm) λ _ hm=>by cases hm;exact rt [1] []
theorem Kc {dF:dI} {r:List dD×dI} (hm:qO jh dF r):S 83 [.ptr 0 0 0,iV jh] [.box [aC dF.L,iV dF.At]] (bU r.1) [.box [aC r.2.L,iV r.2.At]] :=sp Tryz.func83 rfl<|sn hm λ _ hm=>sq hm bZ λ v1 hm=>lf hm (λ g1=>⟨[(0,.ptr 0 0 0),(5,.eF 1 0 g1.2.2.2.length false),(6,iV g1.1)],[(0,some (.box [aC g1.2.1,iV g1.2.2.1])),(1,some (.row 2 g1.2.2.2.length (bP ahw dH g1.2.2.2)))],2⟩) [(1,none)] [] <|λ aj g1 hm=>si hm (λ _ hm=>sn hm λ _ hm=>sq hm lC λ v6 hm=>sq hm bZ λ v7 hm=>s2 hm λ _ _ hm=>lc [(1,some 106)] [] hm) λ _ hm=>by cases hm;exact rt [1] []
theorem OY {dF:dI} {r:aS×dI} (hm:uQ dF r):S 42 [.ptr 0 0 0] [.box [aC dF.L,iV dF.At]] (jy r.1) [.box [aC r.2.L,iV r.2.At]] :=sp Tryz.func42 rfl<|sq hm Mq λ v1 hm=>sq hm IY λ v2 hm=>sq hm Mr λ v3 hm=>sq hm Ms λ v4 hm=>sq hm Kc λ v5 hm=>by cases hm;exact re
theorem OZ {dF:dI} {r:bM×dI} (hm:uR b_ dF r):S 84 [.ptr 0 0 0,jy b_] [.box [aC dF.L,iV dF.At]] (yY r.1) [.box [aC r.2.L,iV r.2.At]] :=sp Tryz.func84 rfl<|sq hm bZ λ v1 hm=>sb hm λ v2 hv2 hm=>cl ((gT hv2).le ⟨.refl _,(.sl rfl (λ _=>rfl) nofun (gN iV 0 [(0:Int),(0:Int),(6:Int),(12:Int),(24:Int)])),trivial⟩ ⟨kU _,trivial⟩)<|sb hm λ v3 hv3 hm=>cl ((gT hv3).le ⟨.refl _,(.sl rfl (λ _=>rfl) nofun (gN iV 0 [(24:Int),(48:Int),(100:Int),(300:Int)])),trivial⟩ ⟨kU _,trivial⟩)<|by cases hm;exact re
theorem QF {dF:dI} {r:bq×dI} (hm:xA b_ dF r):S 85 [.ptr 0 0 0,jy b_] [.box [aC dF.L,iV dF.At]] (G9 r.1) [.box [aC r.2.L,iV r.2.At]] :=sp Tryz.func85 rfl<|sq hm bZ λ v1 hm=>sb hm λ v2 hv2 hm=>cl ((gT hv2).le ⟨.refl _,(.sl rfl (λ _=>rfl) nofun (gN iV 0 [(0:Int),(900:Int),(1000:Int),(1800:Int)])),trivial⟩ ⟨kU _,trivial⟩)<|sb hm λ v3 hv3 hm=>cl ((gT hv3).le ⟨.refl _,(.sl rfl (λ _=>rfl) nofun (gN iV 0 [(1800:Int),(3300:Int),(5000:Int)])),trivial⟩ ⟨kU _,trivial⟩)<|sb hm λ v4 hv4 hm=>cl ((gT hv4).le ⟨.refl _,(.sl rfl (λ _=>rfl) nofun (gN iV 0 [(0:Int),(10:Int),(50:Int),(200:Int)])),trivial⟩ ⟨kU _,trivial⟩)<|by cases hm;exact re
theorem QG {l_:List ByteArray} {dF:dI} {r:ByteArray×dI} (hm:xB l_ dF r):S 55 [.ptr 0 0 0,gG l_] [.box [aC dF.L,iV dF.At]] (.str r.1) [.box [aC r.2.L,iV r.2.At]] :=sp Tryz.func55 rfl<|sq hm bZ λ v1 hm=>sn hm λ _ hm=>by cases hm;exact re
theorem Ke {dF:dI} {r:List ByteArray×dI} (hm:qP jh dF r):S 86 [.ptr 0 0 0,iV jh] [.box [aC dF.L,iV dF.At]] (gG r.1) [.box [aC r.2.L,iV r.2.At]] :=sp Tryz.func86 rfl<|sn hm λ _ hm=>sq hm bZ λ v1 hm=>lf hm (λ g1=>⟨[(0,.ptr 0 0 0),(5,.eF 1 0 g1.2.2.2.length false),(6,iV g1.1)],[(0,some (.box [aC g1.2.1,iV g1.2.2.1])),(1,some (.row 1 g1.2.2.2.length (bP AV.str ByteArray.empty g1.2.2.2)))],2⟩) [(1,none)] [] <|λ aj g1 hm=>si hm (λ _ hm=>sq hm oG λ v6 hm=>sq hm QG λ v7 hm=>s2 hm λ _ _ hm=>lc [(1,some 58)] [] hm) λ _ hm=>by cases hm;exact rt [1] []
theorem Kg {dF:dI} {r:List aJ×dI} (hm:qQ b_ jh dF r):S 43 [.ptr 0 0 0,jy b_,iV jh] [.box [aC dF.L,iV dF.At]] (dO r.1) [.box [aC r.2.L,iV r.2.At]] :=spc [9,11,13,18,19] Tryz.func43 rfl<|sn hm λ _ hm=>sq hm bZ λ v1 hm=>Vo [9,11,13,18,19] hm (λ g1=>⟨[(0,.ptr 0 0 0),(4,.ptr 1 0 0),(7,.eF 2 0 g1.2.2.2.length false),(8,iV v1.1),(9,iV g1.1)],[(0,some (.box [aC g1.2.1,iV g1.2.2.1])),(1,some (.box [bg b_.bR,aV b_.bD,iV b_.aR.bS,bA b_.aR.ay,dz b_.aY,bU b_.cB])),(2,some (.row 6 g1.2.2.2.length (bP wO aZ g1.2.2.2)))],3⟩) [(2,none)] [] <|λ aj g1 hm=>si hm (λ _ hm=>sn hm λ _ hm=>sq hm lC λ v46 hm=>ck [9,11,13,18,19] (jH b_ v1 g1 aj v46) r (λ g14=>⟨[(0,.ptr 0 0 0),(4,.ptr 1 0 0),(7,.eF 2 0 g1.2.2.2.length false),(8,iV v1.1),(9,iV g1.1),(10,.ptr 3 0 0)],[(0,some (.box [aC g14.1,iV g14.2.1])),(1,some (.box [bg b_.bR,aV b_.bD,iV b_.aR.bS,bA b_.aR.ay,dz b_.aY,bU b_.cB])),(2,some (.row 6 g1.2.2.2.length (bP wO aZ g1.2.2.2))),(3,some (.box [.eF 4 0 g14.2.2.length false,.sl 0 0 true fF,.sl 0 0 true fF,.sl 0 0 true fF,iV v46.1,.sl 0 0 true fF])),(4,some (.row 3 g14.2.2.length (bP yY cZ g14.2.2)))],5⟩) (si hm (λ _ hm=>sq hm bZ λ v66 hm=>si hm (λ _ hm=>sq hm OZ λ v67 hm=>sn hm λ _ hm=>lc [(3,some 83),(4,some 219)] [] hm) λ _ hm=>lc [(3,some 83),(4,none)] [] hm) λ c50 hm=>by
 refine ⟨(λ q0=>absurd q0 (vac c50)),?_⟩
 (conv=>whnf)
 refine bf hm λ h34 hm=>?_
 (conv=>whnf)
 exact ⟨(v46.2.L,v46.2.At,([]:List bM)),[(3,some 83),(4,none)],[],hm,⟨rfl,⟨r4,r4,⟨rfl,rfl,rfl,rfl,nofun⟩,r2,r2,r4,trivial⟩,⟨⟨sf,r2,trivial⟩,⟨sr,sr,r2,sr,sr,sr,trivial⟩,⟨rfl,rfl,(λ _ _=>.refl _)⟩,⟨⟨rfl,rfl,rfl,rfl,rfl,rfl⟩,sr,sr,sr,r2,sr,trivial⟩,rfl,trivial⟩⟩⟩) λ g14 hm=>ck [9,11,13,18,19] (jw b_ v1 g1 aj v46 g14) r (λ g15=>⟨[(0,.ptr 0 0 0),(4,.ptr 1 0 0),(7,.eF 2 0 g1.2.2.2.length false),(8,iV v1.1),(9,iV g1.1),(10,.ptr 3 0 0)],[(0,some (.box [aC g15.1,iV g15.2.1])),(1,some (.box [bg b_.bR,aV b_.bD,iV b_.aR.bS,bA b_.aR.ay,dz b_.aY,bU b_.cB])),(2,some (.row 6 g1.2.2.2.length (bP wO aZ g1.2.2.2))),(3,some (.box [.eF 4 0 g14.2.2.length false,.eF 5 0 g15.2.2.length false,.sl 0 0 true fF,.sl 0 0 true fF,iV v46.1,.sl 0 0 true fF])),(4,some (.row 3 g14.2.2.length (bP yY cZ g14.2.2))),(5,some (.row 4 g15.2.2.length (bP G9 dG g15.2.2)))],6⟩) (si hm (λ _ hm=>sq hm bZ λ v64 hm=>si hm (λ _ hm=>sq hm QF λ v65 hm=>sn hm λ _ hm=>lc [(5,some 125)] [] hm) λ _ hm=>lc [(5,none)] [] hm) λ c48 hm=>by
 refine ⟨(λ q0=>absurd q0 (vac c48)),?_⟩
 (conv=>whnf)
 refine bf hm λ h32 hm=>?_
 (conv=>whnf)
 exact ⟨(g14.1,g14.2.1,([]:List bq)),[(5,none)],[],hm,⟨rfl,⟨r4,r4,⟨rfl,rfl,rfl,rfl,nofun⟩,r2,r2,r4,trivial⟩,⟨⟨sf,r2,trivial⟩,⟨sr,sr,r2,sr,sr,sr,trivial⟩,⟨rfl,rfl,(λ _ _=>.refl _)⟩,⟨⟨rfl,rfl,rfl,rfl,nofun⟩,⟨rfl,rfl,rfl,rfl,rfl,rfl⟩,sr,sr,r2,sr,trivial⟩,⟨rfl,rfl,(λ _ _=>.refl _)⟩,rfl,trivial⟩⟩⟩) λ g15 hm=>ck [9,11,13,18,19] (ku b_ v1 g1 aj v46 g14 g15) r (λ g16=>⟨[(0,.ptr 0 0 0),(4,.ptr 1 0 0),(7,.eF 2 0 g1.2.2.2.length false),(8,iV v1.1),(9,iV g1.1),(10,.ptr 3 0 0)],[(0,some (.box [aC g16.1,iV g16.2.1])),(1,some (.box [bg b_.bR,aV b_.bD,iV b_.aR.bS,bA b_.aR.ay,dz b_.aY,bU b_.cB])),(2,some (.row 6 g1.2.2.2.length (bP wO aZ g1.2.2.2))),(3,some (.box [.eF 4 0 g14.2.2.length false,.eF 5 0 g15.2.2.length false,gG g16.2.2,.sl 0 0 true fF,iV v46.1,.sl 0 0 true fF])),(4,some (.row 3 g14.2.2.length (bP yY cZ g14.2.2))),(5,some (.row 4 g15.2.2.length (bP G9 dG g15.2.2)))],6⟩) (sq hm bZ λ v62 hm=>si hm (λ _ hm=>sq hm Ke λ v63 hm=>le hm) λ _ hm=>le hm) λ g16 hm=>sq hm uh λ v53 hm=>ck [9,11,13,18,19] (ko g1 aj v46 g14 g15 g16 v53) r (λ g18=>⟨[(0,.ptr 0 0 0),(4,.ptr 1 0 0),(7,.eF 2 0 g1.2.2.2.length false),(8,iV v1.1),(9,iV g1.1),(10,.ptr 3 0 0)],[(0,some (.box [aC g18.1,iV g18.2.1])),(1,some (.box [bg b_.bR,aV b_.bD,iV b_.aR.bS,bA b_.aR.ay,dz b_.aY,bU b_.cB])),(2,some (.row 6 g1.2.2.2.length (bP wO aZ g1.2.2.2))),(3,some (.box [.eF 4 0 g14.2.2.length false,.eF 5 0 g15.2.2.length false,gG g16.2.2,aC v53.1,iV v46.1,aC g18.2.2])),(4,some (.row 3 g14.2.2.length (bP yY cZ g14.2.2))),(5,some (.row 4 g15.2.2.length (bP G9 dG g15.2.2)))],6⟩) (sq hm bZ λ v58 hm=>si hm (λ _ hm=>ck [9,11,13,18,19] (kr g1 aj v46 g14 g15 g16 v53) r (λ g19=>⟨[(0,.ptr 0 0 0),(4,.ptr 1 0 0),(7,.eF 2 0 g1.2.2.2.length false),(8,iV v1.1),(9,iV g1.1),(10,.ptr 3 0 0),(11,iV g19.1)],[(0,some (.box [aC g19.2.1,iV g19.2.2])),(1,some (.box [bg b_.bR,aV b_.bD,iV b_.aR.bS,bA b_.aR.ay,dz b_.aY,bU b_.cB])),(2,some (.row 6 g1.2.2.2.length (bP wO aZ g1.2.2.2))),(3,some (.box [.eF 4 0 g14.2.2.length false,.eF 5 0 g15.2.2.length false,gG g16.2.2,aC v53.1,iV v46.1,.sl 0 0 true fF])),(4,some (.row 3 g14.2.2.length (bP yY cZ g14.2.2))),(5,some (.row 4 g15.2.2.length (bP G9 dG g15.2.2)))],6⟩) (sq hm bZ λ v61 hm=>si hm (λ _ hm=>le hm) λ _ hm=>le hm) λ g19 hm=>sq hm uh λ v60 hm=>le hm) λ _ hm=>le hm) λ g18 hm=>s2 hm λ _ _ hm=>lc [(2,some 30)] [] hm) λ _ hm=>si hm (λ _ hm=>sq hm bZ λ v68 hm=>si hm (λ _ hm=>sn hm λ _ hm=>Vo [9,11,13,18,19] hm (λ g20=>⟨[(7,.eF 1 0 g20.2.2.length false),(8,iV v1.1),(12,iV g20.1),(13,iV g20.2.1)],[(0,some (.box [aC v68.2.L,iV v68.2.At])),(1,some (.row 6 g20.2.2.length (bP wO aZ g20.2.2)))],2⟩) [(1,some 2)] [] <|λ agz g20 hm=>si hm (λ _ hm=>s2 hm λ _ _ hm=>s2 hm λ _ _ hm=>s2 hm λ _ _ hm=>le hm) λ _ hm=>Vo [9,11,13,18,19] hm (λ g21=>⟨[(7,.eF 1 0 g21.2.length false),(8,iV v1.1),(126,iV (g20.2.2.length:Int)),(127,iV g21.1)],[(0,some (.box [aC v68.2.L,iV v68.2.At])),(1,some (.row 6 g21.2.length (bP wO aZ g21.2)))],2⟩) [] [] <|λ Z6 g21 hm=>si hm (λ _ hm=>s2 hm λ _ _ hm=>Vo [9,11,13,18,19] hm (λ g24=>⟨[(7,.eF 1 0 g21.2.length false),(8,iV v1.1),(14,iV g21.1),(15,.eF 2 0 g24.2.length false),(16,iV g24.1),(126,iV (g20.2.2.length:Int)),(127,iV g21.1)],[(0,some (.box [aC v68.2.L,iV v68.2.At])),(1,some (.row 6 g21.2.length (bP wO aZ g21.2))),(2,some (.row 1 g24.2.length (bP iV 0 g24.2)))],3⟩) [(2,none)] [] <|λ agy g24 hm=>si hm (λ _ hm=>s2 hm λ _ _ hm=>s2 hm λ _ _ hm=>s2 hm λ _ _ hm=>lc [(2,some 123)] [] hm) λ _ hm=>s2 hm λ _ _ hm=>le hm) λ _ hm=>by cases hm;exact rt [1] []) λ _ hm=>by cases hm;exact rt [2] []) λ c52 hm=>by
 refine ⟨(λ q0=>absurd q0 (vac c52)),?_⟩
 (conv=>whnf)
 refine bf hm λ at5 hm=>?_
 (conv=>whnf)
 have hm:r=(g1.2.2.2,(⟨g1.2.1,g1.2.2.1⟩:dI)):=hm
 subst hm
 refine ⟨[2],[],?_⟩
 (conv=>whnf)
 exact ⟨⟨rfl,trivial,⟨⟨sf,r2,trivial⟩,trivial⟩⟩,sf⟩
end Go.Proofs.YtccjmcmolnbiiaaGreatDoor

/- An abstract machine over the model's code, that it is sound; models of the functions and their proofs. -/
import Derived.Test.YtccjmcmolnbiiaaGreatDoorA7
set_option linter.unusedVariables false
set_option linter.unusedSimpArgs false
namespace Go.Proofs.YtccjmcmolnbiiaaGreatDoor
open Go.Ab
set_option maxRecDepth 100000
set_option maxHeartbeats 20000000
theorem Ko {c_:aH} {r:Bool} (hm:Bn c_ r):S 152 [Gb c_] [] (.bool r) [] :=sp Tryz.func152 rfl<|by cases hm;exact re
theorem tZ {s_:(List aH)} {r:Int} (hm:oC s_ r):S 199 [bn s_,.fn 152 []] [] (iV r) [] :=sp Tryz.func199 rfl<|l0 hm (fun g1=>⟨[(0,bn s_),(1,.fn 152 []),(7,iV (s_.length:Int)),(8,iV g1)],[],0⟩) <|fun aj g1 hm=>si hm (fun _ hm=>sn hm fun _ hm=>sq hm Ko fun v3 hm=>si hm (fun _ hm=>by cases hm;exact re) fun _ hm=>sn hm fun _ hm=>le hm) fun _ hm=>by cases hm;exact re
theorem qG {s_:(List aH)} {r:Bool} (hm:jy s_ r):S 151 [bn s_,.fn 152 []] [] (.bool r) [] :=sp Tryz.func151 rfl<|sq hm tZ fun v1 hm=>by cases hm;exact re
theorem gK {n_:Int} {qE:Int} {sD:Int} {r:Bool} (hm:iE n_ qE sD r):S 202 [iV n_,iV qE,iV sD] [] (.bool r) [] :=sp Tryz.func202 rfl<|by cases hm;exact re
theorem Kq {p_:Int} {l6:Int} {r:Bool} (hm:uz p_ l6 r):S 201 [iV p_,.ro [iV l6]] [] (.bool r) [] :=sp Tryz.func201 rfl<|sn hm fun _ hm=>sq hm gK fun v1 hm=>by cases hm;exact re
theorem zK {s_:(List Int)} {f_:Int} {r:Int} (hm:uS s_ f_ r):S 130 [aD s_,.fn 201 [.ro [iV f_]]] [] (iV r) [] :=sp Tryz.func130 rfl<|l0 hm (fun g1=>⟨[(0,aD s_),(1,.fn 201 [.ro [iV f_]]),(7,iV (s_.length:Int)),(8,iV g1)],[],0⟩) <|fun aj g1 hm=>si hm (fun _ hm=>sn hm fun _ hm=>sq hm Kq fun v3 hm=>si hm (fun _ hm=>by cases hm;exact re) fun _ hm=>sn hm fun _ hm=>le hm) fun _ hm=>by cases hm;exact re
theorem wu {s_:(List Int)} {f_:Int} {r:Bool} (hm:kM s_ f_ r):S 200 [aD s_,.fn 201 [.ro [iV f_]]] [] (.bool r) [] :=sp Tryz.func200 rfl<|sq hm zK fun v1 hm=>by cases hm;exact re
theorem FV {s_:(List Int)} {v_:Int} {r:Int} (hm:slices_Index_int s_ v_ r):S 88 [aD s_,iV v_] [] (iV r) [] :=sp Tryz.func88 rfl<|l0 hm (fun g1=>⟨[(0,aD s_),(1,iV v_),(7,iV (s_.length:Int)),(8,iV g1)],[],0⟩) <|fun aj g1 hm=>si hm (fun _ hm=>sn hm fun _ hm=>si hm (fun _ hm=>by cases hm;exact re) fun _ hm=>sn hm fun _ hm=>le hm) fun _ hm=>by cases hm;exact re
theorem eY {s_:(List Int)} {v_:Int} {r:Bool} (hm:slices_Contains_int s_ v_ r):S 45 [aD s_,iV v_] [] (.bool r) [] :=sp Tryz.func45 rfl<|sq hm FV fun v1 hm=>by cases hm;exact re
theorem kD {l_:(List Int)} {qE:Int} {sD:Int} {r:Bool} (hm:jZ l_ qE sD r):S 203 [aD l_,iV qE,iV sD] [] (.bool r) [] :=sp Tryz.func203 rfl<|l0 hm (fun g1=>⟨[(0,aD l_),(1,iV qE),(2,iV sD),(9,aD l_),(10,iV (l_.length:Int)),(11,iV g1)],[],0⟩) <|fun aj g1 hm=>si hm (fun _ hm=>sn hm fun _ hm=>sq hm gK fun v5 hm=>sn hm fun _ hm=>sb hm fun v6 hv6 hm=>cl (fun q0=>((eY (hv6 q0)).le ⟨(.sl oz (fun _=>rfl) nofun (jI (f:=iV) (d:=0) (by first | omega | exact Nat.min_le_left _ _ | exact Nat.le_trans (Nat.min_le_left _ _) om | (simp; omega)))),.refl _,trivial⟩ trivial))<|si hm (fun _ hm=>by cases hm;exact re) fun _ hm=>sn hm fun _ hm=>le hm) fun _ hm=>by cases hm;exact re
theorem sZ {Xi:(List Int)} {Yv:(List Int)} {r:Bool} (hm:slices_Equal_int Xi Yv r):S 204 [aD Xi,aD Yv] [] (.bool r) [] :=sp Tryz.func204 rfl<|si hm (fun _ hm=>by cases hm;exact re) fun _ hm=>l0 hm (fun g1=>⟨[(0,aD Xi),(1,aD Yv),(12,iV (Xi.length:Int)),(13,iV g1)],[],0⟩) <|fun aj g1 hm=>si hm (fun _ hm=>s2 hm fun _ _ hm=>si hm (fun _ hm=>by cases hm;exact re) fun _ hm=>sn hm fun _ hm=>le hm) fun _ hm=>by cases hm;exact re
theorem MG {c_:aH} {at_:Int} {r:Bool} (hm:Gc c_ at_ r):S 153 [Gb c_,iV at_] [] (.bool r) [] :=sp Tryz.func153 rfl<|sq hm wu fun v1 hm=>sb hm fun v2 hv2 hm=>cl (fun q0=>(gK (hv2 q0)))<|sb hm fun v3 hv3 hm=>cl (fun q0=>(gK (hv3 q0)))<|si hm (fun _ hm=>by cases hm;exact re) fun _ hm=>si hm (fun _ hm=>sn hm fun _ hm=>sb hm fun v4 hv4 hm=>cl (fun q0=>(gK (hv4 q0)))<|by cases hm;exact re) fun _ hm=>si hm (fun _ hm=>si hm (fun _ hm=>sb hm fun v5 hv5 hm=>cl (fun q0=>(kD (hv5 q0)))<|by cases hm;exact re) fun _ hm=>si hm (fun _ hm=>sn hm fun _ hm=>sb hm fun v6 hv6 hm=>cl (fun q0=>(kD (hv6 q0)))<|by cases hm;exact re) fun _ hm=>si hm (fun _ hm=>si hm (fun _ hm=>sb hm fun v7 hv7 hm=>cl (fun q0=>((sZ (hv7 q0)).le ⟨.refl _,(.sl rfl (fun _=>rfl) nofun (fB iV 0 [(0:Int),(1:Int)])),trivial⟩ trivial))<|by cases hm;exact re) fun c7 hm=>by
 refine ⟨.bool false,[],(fun q0=>absurd q0 (Uk c7)),?_⟩
 (conv=>whnf)
 have hm:r=(((c_.aN.length:Int)==(1:Int))&&false):=hm
 subst hm
 refine ⟨[],[],?_⟩
 (conv=>whnf)
 exact ⟨⟨rfl,trivial,trivial⟩,rfl⟩) fun _ hm=>by cases hm;exact re) fun _ hm=>si hm (fun _ hm=>sb hm fun v8 BH hm=>cl (fun q0=>(kD (BH q0)))<|by cases hm;exact re) fun _ hm=>si hm (fun _ hm=>sn hm fun _ hm=>sb hm fun v9 SB hm=>cl (fun q0=>(kD (SB q0)))<|by cases hm;exact re) fun _ hm=>si hm (fun _ hm=>si hm (fun _ hm=>sb hm fun v10 CZ hm=>cl (fun q0=>((sZ (CZ q0)).le ⟨.refl _,(.sl rfl (fun _=>rfl) nofun (fB iV 0 [(0:Int),(1:Int)])),trivial⟩ trivial))<|by cases hm;exact re) fun c11 hm=>by
 refine ⟨.bool false,[],(fun q0=>absurd q0 (Uk c11)),?_⟩
 (conv=>whnf)
 have hm:r=(((c_.aN.length:Int)==(1:Int))&&false):=hm
 subst hm
 refine ⟨[],[],?_⟩
 (conv=>whnf)
 exact ⟨⟨rfl,trivial,trivial⟩,rfl⟩) fun _ hm=>by cases hm;exact re
theorem kU {l_:(List aH)} {r:Int} (hm:ng l_ r):S 105 [bn l_] [] (iV r) [] :=Rl [21] Tryz.func105 rfl<|sb hm fun v1 hv1 hm=>cl (fun q0=>(qG (hv1 q0)))<|si hm (fun _ hm=>by cases hm;exact re) fun _ hm=>Md [21] hm (fun g1=>⟨[(0,bn l_),(18,bn l_),(19,iV (l_.length:Int)),(20,iV g1)],[],0⟩) [] [] <|fun aj g1 hm=>si hm (fun _ hm=>sn hm fun _ hm=>sq hm MG fun v4 hm=>si hm (fun _ hm=>by cases hm;exact re) fun _ hm=>sn hm fun _ hm=>le hm) fun _ hm=>sn hm fun _ hm=>Md [21] hm (fun g2=>⟨[(5,iV g2.1),(6,.osl 0 0 g2.2.2.length false),(33,bn l_),(34,iV (l_.length:Int)),(35,iV g2.2.1)],[(0,some (.row 1 g2.2.2.length (rowG iV 0 g2.2.2)))],1⟩) [(0,some 32)] [] <|fun cO g2 hm=>si hm (fun _ hm=>sn hm fun _ hm=>Md [21] hm (fun g7=>⟨[(5,iV g2.1),(6,.osl 0 0 g7.2.length false),(7,iV g2.2.1),(8,.ptr 1 0 0),(33,bn l_),(34,iV (l_.length:Int)),(35,iV g2.2.1),(41,aD ((l_.getD g2.2.1.toNat aI).aN)),(42,iV ((((l_.getD g2.2.1.toNat aI).aN).length:Nat):Int)),(43,iV g7.1)],[(0,some (.row 1 g7.2.length (rowG iV 0 g7.2))),(1,some (.box [iV ((l_.getD g2.2.1.toNat aI).eU),aD ((l_.getD g2.2.1.toNat aI).aN),aD ((l_.getD g2.2.1.toNat aI).aK),iV ((l_.getD g2.2.1.toNat aI).jw),iV ((l_.getD g2.2.1.toNat aI).eP)]))],2⟩) [(1,some 33)] [] <|fun jU g7 hm=>si hm (fun _ hm=>s2 hm fun _ _ hm=>s2 hm fun _ _ hm=>sn hm fun _ hm=>le hm) fun _ hm=>ck [21] (pq l_ g2 cO) r (fun g8=>⟨[(5,iV g2.1),(6,.osl 0 0 g8.length false),(7,iV g2.2.1),(8,.ptr 1 0 0),(33,bn l_),(34,iV (l_.length:Int)),(35,iV g2.2.1)],[(0,some (.row 1 g8.length (rowG iV 0 g8))),(1,some (.box [iV ((l_.getD g2.2.1.toNat aI).eU),aD ((l_.getD g2.2.1.toNat aI).aN),aD ((l_.getD g2.2.1.toNat aI).aK),iV ((l_.getD g2.2.1.toNat aI).jw),iV ((l_.getD g2.2.1.toNat aI).eP)]))],2⟩) (si hm (fun _ hm=>s2 hm fun _ _ hm=>sn hm fun _ hm=>le hm) fun _ hm=>le hm) fun g8 hm=>s2 hm fun _ _ hm=>si hm (fun _ hm=>by cases hm;exact re) fun _ hm=>sn hm fun _ hm=>le hm) fun _ hm=>by cases hm;exact re
theorem Jf {s_:aG} {r:Bool} (hm:ni s_ r):S 155 [xg s_] [] (.bool r) [] :=sp Tryz.func155 rfl<|by cases hm;exact re
theorem uf {s_:(List aG)} {r:Int} (hm:oD s_ r):S 205 [aT s_,.fn 155 []] [] (iV r) [] :=sp Tryz.func205 rfl<|l0 hm (fun g1=>⟨[(0,aT s_),(1,.fn 155 []),(7,iV (s_.length:Int)),(8,iV g1)],[],0⟩) <|fun aj g1 hm=>si hm (fun _ hm=>sn hm fun _ hm=>sq hm Jf fun v3 hm=>si hm (fun _ hm=>by cases hm;exact re) fun _ hm=>sn hm fun _ hm=>le hm) fun _ hm=>by cases hm;exact re
theorem qH {s_:(List aG)} {r:Bool} (hm:jA s_ r):S 154 [aT s_,.fn 155 []] [] (.bool r) [] :=sp Tryz.func154 rfl<|sq hm uf fun v1 hm=>by cases hm;exact re
theorem fT {n_:Int} {qE:Int} {sD:Int} {r:Bool} (hm:gD n_ qE sD r):S 196 [iV n_,iV qE,iV sD] [] (.bool r) [] :=sp Tryz.func196 rfl<|by cases hm;exact re
theorem Ld {s_:aG} {at_:Int} {r:Bool} (hm:xk s_ at_ r):S 156 [xg s_,iV at_] [] (.bool r) [] :=sp Tryz.func156 rfl<|sn hm fun _ hm=>sq hm fT fun v1 hm=>sb hm fun v2 hv2 hm=>cl (fun q0=>(fT (hv2 q0)))<|sb hm fun v3 hv3 hm=>cl (fun q0=>(fT (hv3 q0)))<|si hm (fun _ hm=>by cases hm;exact re) fun _ hm=>l0 hm (fun g1=>⟨[(2,.ptr 0 0 0),(42,aD s_.bN),(43,iV (s_.bN.length:Int)),(44,iV g1)],[(0,some (.box [iV s_.aQ,aD s_.bN,iV s_.fG,iV s_.gB,.bool s_.fI]))],1⟩) <|fun aj g1 hm=>si hm (fun _ hm=>sn hm fun _ hm=>sq hm fT fun v6 hm=>s2 hm fun _ _ hm=>si hm (fun _ hm=>by cases hm;exact re) fun _ hm=>sn hm fun _ hm=>le hm) fun _ hm=>by cases hm;exact re
theorem mX {l_:(List aG)} {r:Int} (hm:lF l_ r):S 106 [aT l_] [] (iV r) [] :=sp Tryz.func106 rfl<|sb hm fun v1 hv1 hm=>cl (fun q0=>(qH (hv1 q0)))<|si hm (fun _ hm=>by cases hm;exact re) fun _ hm=>l0 hm (fun g1=>⟨[(12,aT l_),(13,iV (l_.length:Int)),(14,iV g1)],[],0⟩) <|fun aj g1 hm=>si hm (fun _ hm=>sn hm fun _ hm=>sq hm Ld fun v4 hm=>si hm (fun _ hm=>by cases hm;exact re) fun _ hm=>sn hm fun _ hm=>le hm) fun _ hm=>by cases hm;exact re
theorem rW {s_:ByteArray} {r:Bool} (hm:nO s_ r):S 146 [.str s_] [] (.bool r) [] :=sp Tryz.func146 rfl<|s2 hm fun _ _ hm=>si hm (fun _ hm=>by cases hm;exact re) fun _ hm=>l0 hm (fun g1=>⟨[(0,.str s_),(3,iV g1)],[],0⟩) <|fun aj g1 hm=>si hm (fun _ hm=>sn hm fun _ hm=>si hm (fun _ hm=>by cases hm;exact re) fun _ hm=>sn hm fun _ hm=>le hm) fun _ hm=>by cases hm;exact re
theorem o8 {s_:(List ByteArray)} {v_:ByteArray} {r:Int} (hm:slices_Index_string s_ v_ r):S 50 [eZ s_,.str v_] [] (iV r) [] :=sp Tryz.func50 rfl<|l0 hm (fun g1=>⟨[(0,eZ s_),(1,.str v_),(7,iV (s_.length:Int)),(8,iV g1)],[],0⟩) <|fun aj g1 hm=>si hm (fun _ hm=>sn hm fun _ hm=>si hm (fun _ hm=>by cases hm;exact re) fun _ hm=>sn hm fun _ hm=>le hm) fun _ hm=>by cases hm;exact re
theorem mY {s_:(List ByteArray)} {v_:ByteArray} {r:Bool} (hm:slices_Contains_string s_ v_ r):S 206 [eZ s_,.str v_] [] (.bool r) [] :=sp Tryz.func206 rfl<|sq hm o8 fun v1 hm=>by cases hm;exact re
theorem Om {yx:Int} {g_:bR} {r:Int} (hm:tH yx g_ r):S 157 [iV yx,kL g_] [] (iV r) [] :=sp Tryz.func157 rfl<|si hm (fun _ hm=>by cases hm;exact re) fun _ hm=>si hm (fun _ hm=>by cases hm;exact re) fun _ hm=>l0 hm (fun g1=>⟨[(0,iV yx),(3,.ptr 0 0 0),(27,aD g_.bG),(28,iV (g_.bG.length:Int)),(29,iV g1)],[(0,some (.box [.str g_.qK,aD g_.bG,eZ g_.ak]))],1⟩) <|fun aj g1 hm=>si hm (fun _ hm=>sn hm fun _ hm=>si hm (fun _ hm=>by cases hm;exact re) fun _ hm=>sn hm fun _ hm=>le hm) fun _ hm=>l0 hm (fun g2=>⟨[(3,.ptr 0 0 0),(7,iV g2)],[(0,some (.box [.str g_.qK,aD g_.bG,eZ g_.ak]))],1⟩) <|fun cO g2 hm=>si hm (fun _ hm=>s2 hm fun _ _ hm=>sn hm fun _ hm=>si hm (fun _ hm=>by cases hm;exact re) fun _ hm=>sn hm fun _ hm=>le hm) fun _ hm=>l0 hm (fun g3=>⟨[(3,.ptr 0 0 0),(61,eZ g_.ak),(62,iV (g_.ak.length:Int)),(63,iV g3)],[(0,some (.box [.str g_.qK,aD g_.bG,eZ g_.ak]))],1⟩) <|fun iy g3 hm=>si hm (fun _ hm=>sn hm fun _ hm=>sq hm rW fun v3 hm=>si hm (fun _ hm=>by cases hm;exact re) fun _ hm=>sn hm fun _ hm=>le hm) fun _ hm=>l0 hm (fun g4=>⟨[(3,.ptr 0 0 0),(72,eZ g_.ak),(73,iV (g_.ak.length:Int)),(74,iV g4)],[(0,some (.box [.str g_.qK,aD g_.bG,eZ g_.ak]))],1⟩) <|fun gL g4 hm=>si hm (fun _ hm=>s2 hm fun _ _ hm=>sb hm fun v6 hv6 hm=>cl ((mY hv6).le ⟨(.sl oz (fun _=>rfl) nofun (jI (f:=AV.str) (d:=ByteArray.empty) (by first | omega | exact Nat.min_le_left _ _ | exact Nat.le_trans (Nat.min_le_left _ _) om | (simp; omega)))),.refl _,trivial⟩ trivial)<|si hm (fun _ hm=>by cases hm;exact re) fun _ hm=>sn hm fun _ hm=>le hm) fun _ hm=>by cases hm;exact re
theorem pK {p_:aX} {r:Int} (hm:lH p_ r):S 107 [jq p_] [] (iV r) [] :=sp Tryz.func107 rfl<|si hm (fun _ hm=>by cases hm;exact re) fun _ hm=>si hm (fun _ hm=>by cases hm;exact re) fun _ hm=>lf hm (fun g1=>⟨[(1,.ptr 0 0 0),(3,.mref 1),(21,bg p_.av),(22,iV (p_.av.length:Int)),(23,iV g1.1)],[(0,some (.box [iV p_.bG,bg p_.av])),(1,some (.map .str [.bool] g1.2))],2⟩) [(1,some 112)] [] <|fun aj g1 hm=>si hm (fun _ hm=>sn hm fun _ hm=>sq hm rW fun v5 hm=>si hm (fun _ hm=>by cases hm;exact re) fun _ hm=>si hm (fun _ hm=>by cases hm;exact re) fun _ hm=>sq hm Om fun v6 hm=>si hm (fun _ hm=>by cases hm;exact re) fun _ hm=>sn hm fun _ hm=>le hm) fun _ hm=>by cases hm;exact re
theorem ug {l_:(List dN)} {r:Int} (hm:kW l_ r):S 108 [bZ l_] [] (iV r) [] :=sp Tryz.func108 rfl<|si hm (fun _ hm=>by cases hm;exact re) fun _ hm=>l0 hm (fun g1=>⟨[(11,bZ l_),(12,iV (l_.length:Int)),(13,iV g1)],[],0⟩) <|fun aj g1 hm=>si hm (fun _ hm=>sn hm fun _ hm=>lf hm (fun g6=>⟨[(3,iV g1),(4,.ptr 0 0 0),(11,bZ l_),(12,iV (l_.length:Int)),(13,iV g1),(19,aD ((l_.getD g1.toNat bV).dK)),(20,iV ((((l_.getD g1.toNat bV).dK).length:Nat):Int)),(21,iV g6)],[(0,some (.box [aD ((l_.getD g1.toNat bV).dK)]))],1⟩) [(0,some 32)] [] <|fun gU g6 hm=>si hm (fun _ hm=>sn hm fun _ hm=>si hm (fun _ hm=>by cases hm;exact re) fun _ hm=>sn hm fun _ hm=>le hm) fun _ hm=>l0 hm (fun g7=>⟨[(4,.ptr 0 0 0),(7,iV g7),(11,bZ l_),(12,iV (l_.length:Int)),(13,iV g1)],[(0,some (.box [aD ((l_.getD g1.toNat bV).dK)]))],1⟩) <|fun jU g7 hm=>si hm (fun _ hm=>s2 hm fun _ _ hm=>sn hm fun _ hm=>si hm (fun _ hm=>by cases hm;exact re) fun _ hm=>sn hm fun _ hm=>le hm) fun _ hm=>sn hm fun _ hm=>le hm) fun _ hm=>by cases hm;exact re
theorem rX {l_:(List dx)} {r:Int} (hm:j4 l_ r):S 109 [bO l_] [] (iV r) [] :=sp Tryz.func109 rfl<|si hm (fun _ hm=>by cases hm;exact re) fun _ hm=>l0 hm (fun g1=>⟨[(8,bO l_),(9,iV (l_.length:Int)),(10,iV g1)],[],0⟩) <|fun aj g1 hm=>si hm (fun _ hm=>sn hm fun _ hm=>si hm (fun _ hm=>by cases hm;exact re) fun _ hm=>sn hm fun _ hm=>le hm) fun _ hm=>by cases hm;exact re
theorem C9 {b_:bf} {r:Int} (hm:nk b_ r):S 53 [gZ b_] [] (iV r) [] :=sp Tryz.func53 rfl<|sq hm kU fun v1 hm=>si hm (fun _ hm=>by cases hm;exact re) fun _ hm=>sq hm mX fun v2 hm=>si hm (fun _ hm=>by cases hm;exact re) fun _ hm=>sq hm pK fun v3 hm=>si hm (fun _ hm=>by cases hm;exact re) fun _ hm=>sq hm ug fun v4 hm=>si hm (fun _ hm=>by cases hm;exact re) fun _ hm=>sq hm rX fun v5 hm=>by cases hm;exact re
theorem Jg {n_:aL} {r:(List bK)} (hm:yC n_ r):S 58 [qM n_] [] (dY r) [] :=sp Tryz.func58 rfl<|by cases hm;exact re
theorem zw {l_:(List aL)} {ah:(List Int)} {r:(List bK)} (hm:sJ l_ ah r):S 57 [dI l_,aD ah,.fn 58 []] [] (dY r) [] :=sp Tryz.func57 rfl<|lf hm (fun g1=>⟨[(0,dI l_),(2,.fn 58 []),(7,.osl 0 0 g1.2.length false),(10,aD ah),(11,iV (ah.length:Int)),(12,iV g1.1)],[(0,some (.row 3 g1.2.length (rowG tC cB g1.2)))],1⟩) [(0,none)] [] <|fun aj g1 hm=>si hm (fun _ hm=>sn hm fun _ hm=>si hm (fun _ hm=>sn hm fun _ hm=>sq hm Jg fun v3 hm=>s2 hm fun _ _ hm=>lc [(0,some 153)] [] hm) fun _ hm=>sn hm fun _ hm=>le hm) fun _ hm=>by cases hm;exact rt [0] []
theorem Lf {l_:(List aL)} {ah:(List Int)} {r:(List bK)} (hm:Dy l_ ah r):S 21 [dI l_,aD ah] [] (dY r) [] :=sp Tryz.func21 rfl<|sq hm zw fun v1 hm=>by cases hm;exact re
theorem Kr {n_:aL} {r:(List bE)} (hm:Br n_ r):S 60 [qM n_] [] (eF r) [] :=sp Tryz.func60 rfl<|by cases hm;exact re
theorem zL {l_:(List aL)} {ah:(List Int)} {r:(List bE)} (hm:uT l_ ah r):S 59 [dI l_,aD ah,.fn 60 []] [] (eF r) [] :=sp Tryz.func59 rfl<|lf hm (fun g1=>⟨[(0,dI l_),(2,.fn 60 []),(7,.osl 0 0 g1.2.length false),(10,aD ah),(11,iV (ah.length:Int)),(12,iV g1.1)],[(0,some (.row 4 g1.2.length (rowG Ca dD g1.2)))],1⟩) [(0,none)] [] <|fun aj g1 hm=>si hm (fun _ hm=>sn hm fun _ hm=>si hm (fun _ hm=>sn hm fun _ hm=>sq hm Kr fun v3 hm=>s2 hm fun _ _ hm=>lc [(0,some 153)] [] hm) fun _ hm=>sn hm fun _ hm=>le hm) fun _ hm=>by cases hm;exact rt [0] []
theorem MH {l_:(List aL)} {ah:(List Int)} {r:(List bE)} (hm:Gd l_ ah r):S 23 [dI l_,aD ah] [] (eF r) [] :=sp Tryz.func23 rfl<|sq hm zL fun v1 hm=>by cases hm;exact re
theorem D9 {n_:aL} {r:(List ByteArray)} (hm:qN n_ r):S 134 [qM n_] [] (eZ r) [] :=sp Tryz.func134 rfl<|by cases hm;exact re
theorem BQ {l_:(List aL)} {ah:(List Int)} {r:(List ByteArray)} (hm:wH l_ ah r):S 133 [dI l_,aD ah,.fn 134 []] [] (eZ r) [] :=sp Tryz.func133 rfl<|lf hm (fun g1=>⟨[(0,dI l_),(2,.fn 134 []),(7,.osl 0 0 g1.2.length false),(10,aD ah),(11,iV (ah.length:Int)),(12,iV g1.1)],[(0,some (.row 1 g1.2.length (rowG AV.str ByteArray.empty g1.2)))],1⟩) [(0,none)] [] <|fun aj g1 hm=>si hm (fun _ hm=>sn hm fun _ hm=>si hm (fun _ hm=>sn hm fun _ hm=>sq hm D9 fun v3 hm=>s2 hm fun _ _ hm=>lc [(0,some 153)] [] hm) fun _ hm=>sn hm fun _ hm=>le hm) fun _ hm=>by cases hm;exact rt [0] []
theorem H8 {l_:(List aL)} {ah:(List Int)} {r:(List ByteArray)} (hm:vI l_ ah r):S 89 [dI l_,aD ah] [] (eZ r) [] :=sp Tryz.func89 rfl<|sq hm BQ fun v1 hm=>by cases hm;exact re
theorem Jh {x_:bK} {l6:(List aH)} {r:Bool} (hm:nu x_ l6 r):S 223 [tC x_,.ro [bn l6]] [] (.bool r) [] :=sp Tryz.func223 rfl<|sn hm fun _ hm=>sq hm gK fun v1 hm=>sb hm fun v2 hv2 hm=>cl (fun q0=>(gK (hv2 q0)))<|sb hm fun v3 hv3 hm=>cl (fun q0=>(gK (hv3 q0)))<|by cases hm;exact re
theorem uh {s_:(List bK)} {f_:(List aH)} {r:Int} (hm:oF s_ f_ r):S 241 [dY s_,.fn 223 [.ro [bn f_]]] [] (iV r) [] :=sp Tryz.func241 rfl<|l0 hm (fun g1=>⟨[(0,dY s_),(1,.fn 223 [.ro [bn f_]]),(7,iV (s_.length:Int)),(8,iV g1)],[],0⟩) <|fun aj g1 hm=>si hm (fun _ hm=>sn hm fun _ hm=>sq hm Jh fun v3 hm=>si hm (fun _ hm=>by cases hm;exact re) fun _ hm=>sn hm fun _ hm=>le hm) fun _ hm=>by cases hm;exact re
theorem qI {s_:(List bK)} {f_:(List aH)} {r:Bool} (hm:jB s_ f_ r):S 222 [dY s_,.fn 223 [.ro [bn f_]]] [] (.bool r) [] :=sp Tryz.func222 rfl<|sq hm uh fun v1 hm=>by cases hm;exact re
theorem AQ {l_:(List aH)} {m_:(List bK)} {r:Bool} (hm:qO l_ m_ r):S 184 [bn l_,dY m_] [] (.bool r) [] :=sp Tryz.func184 rfl<|sq hm kU fun v1 hm=>sb hm fun v2 hv2 hm=>cl (fun q0=>(qI (hv2 q0)))<|by cases hm;exact re
theorem Lg {l_:(List aH)} {m_:(List bK)} {r:Int} (hm:xq l_ m_ r):S 135 [bn l_,dY m_] [] (iV r) [] :=sp Tryz.func135 rfl<|sq hm kU fun v1 hm=>si hm (fun _ hm=>by cases hm;exact re) fun _ hm=>sq hm AQ fun v2 hm=>si hm (fun _ hm=>by cases hm;exact re) fun _ hm=>by cases hm;exact re
theorem Oo {l_:(List aH)} {m_:(List bK)} {r:(List gX)} (hm:DC l_ m_ r):S 185 [bn l_,dY m_] [] (Cb r) [] :=sp Tryz.func185 rfl<|lf hm (fun g1=>⟨[(0,bn l_),(1,dY m_),(5,.osl 0 0 g1.2.length false),(10,dY m_),(11,iV (m_.length:Int)),(12,iV g1.1)],[(0,some (.row 5 g1.2.length (rowG OH w9 g1.2)))],1⟩) [(0,none)] [] <|fun aj g1 hm=>si hm (fun _ hm=>s2 hm fun _ _ hm=>sn hm fun _ hm=>lc [(0,some 137)] [] hm) fun _ hm=>l0 hm (fun g2=>⟨[(1,dY m_),(5,.osl 0 0 g2.2.length false),(29,bn l_),(30,iV (l_.length:Int)),(31,iV g2.1)],[(0,some (.row 5 g2.2.length (rowG OH w9 g2.2)))],1⟩) <|fun cO g2 hm=>si hm (fun _ hm=>sn hm fun _ hm=>si hm (fun _ hm=>s2 hm fun _ _ hm=>sn hm fun _ hm=>lc [(0,some 177)] [] hm) fun _ hm=>sn hm fun _ hm=>le hm) fun _ hm=>by cases hm;exact rt [0] []
theorem qc {l_:(List aH)} {s_:(List Int)} {r:Bool} (hm:mD l_ s_ r):S 224 [bn l_,aD s_] [] (.bool r) [] :=sp Tryz.func224 rfl<|si hm (fun _ hm=>by cases hm;exact re) fun _ hm=>l0 hm (fun g1=>⟨[(0,bn l_),(12,aD s_),(13,iV (s_.length:Int)),(14,iV g1)],[],0⟩) <|fun aj g1 hm=>si hm (fun _ hm=>s2 hm fun _ _ hm=>sn hm fun _ hm=>sq hm gK fun v3 hm=>si hm (fun _ hm=>by cases hm;exact re) fun _ hm=>sn hm fun _ hm=>le hm) fun _ hm=>by cases hm;exact re
theorem AU {l_:(List aH)} {s_:(List Int)} {ig:Int} {r:Int} (hm:qP l_ s_ ig r):S 242 [bn l_,aD s_,iV ig] [] (iV r) [] :=sp Tryz.func242 rfl<|sn hm fun _ hm=>si hm (fun _ hm=>by cases hm;exact re) fun _ hm=>si hm (fun _ hm=>s2 hm fun _ _ hm=>sn hm fun _ hm=>by cases hm;exact re) fun _ hm=>sn hm fun _ hm=>by cases hm;exact re
theorem nX {a_:Int} {b_:Int} {r:Int} (hm:ny a_ b_ r):S 253 [iV a_,iV b_] [] (iV r) [] :=sp Tryz.func253 rfl<|l0 hm (fun g1=>⟨[(0,iV g1.1),(1,iV g1.2)],[],0⟩) <|fun aj g1 hm=>si hm (fun _ hm=>sn hm fun _ hm=>le hm) fun _ hm=>by cases hm;exact re
theorem pO {r_:bH} {r:Bool} (hm:pU r_ r):S 245 [l7 r_] [] (.bool r) [] :=sp Tryz.func245 rfl<|sb hm fun v1 hv1 hm=>cl (fun q0=>(nX (hv1 q0)))<|by cases hm;exact re
theorem MI {I6:Int} {Pf:Int} {l6:Int} {r:(Int×Int)} (hm:zU I6 Pf l6 r):S 252 [.ro [iV I6,iV Pf],.ro [iV l6]] [] (.tup [iV r.1,iV r.2]) [] :=sp Tryz.func252 rfl<|sq hm nX fun v1 hm=>s2 hm fun _ _ hm=>sn hm fun _ hm=>by cases hm;exact re
theorem JX {qQ:Int} {qR:Int} {r:(bH×Int)} (hm:Gg qQ qR r):S 256 [iV qQ,iV qR] [] (.tup [l7 r.1,iV r.2]) [] :=sp Tryz.func256 rfl<|si hm (fun _ hm=>by cases hm;exact re) fun _ hm=>sq hm nX fun v1 hm=>s2 hm fun _ _ hm=>sq hm pO fun v2 hm=>si hm (fun _ hm=>by cases hm;exact re) fun _ hm=>by cases hm;exact re
theorem MJ {r_:bH} {k_:Int} {lI:Int} {lJ:Int} {lK:Int} {r:(bH×Int)} (hm:zV r_ k_ lI lJ lK r):S 251 [l7 r_,iV k_,.fn 252 [.ro [iV lI,iV lJ],.ro [iV lK]]] [] (.tup [l7 r.1,iV r.2]) [] :=sp Tryz.func251 rfl<|sq hm pO fun v1 hm=>si hm (fun _ hm=>by cases hm;exact re) fun _ hm=>si hm (fun _ hm=>by cases hm;exact re) fun _ hm=>sq hm MI fun v2 hm=>sq hm JX fun v3 hm=>by cases hm;exact re
theorem H9 {r_:bH} {k_:Int} {r:(bH×Int)} (hm:Ch r_ k_ r):S 243 [l7 r_,iV k_] [] (.tup [l7 r.1,iV r.2]) [] :=sp Tryz.func243 rfl<|sq hm MJ fun v1 hm=>by cases hm;exact re
theorem Lh {gy:Int} {vK:Int} {pV:Int} {r:(Int×Int)} (hm:xu gy vK pV r):S 254 [.ro [iV gy],.ro [iV vK,iV pV]] [] (.tup [iV r.1,iV r.2]) [] :=sp Tryz.func254 rfl<|sq hm nX fun v1 hm=>s2 hm fun _ _ hm=>si hm (fun _ hm=>by cases hm;exact re) fun _ hm=>s2 hm fun _ _ hm=>sn hm fun _ hm=>by cases hm;exact re
theorem Ji {r_:bH} {k_:Int} {lI:Int} {lJ:Int} {lK:Int} {r:(bH×Int)} (hm:qU r_ k_ lI lJ lK r):S 251 [l7 r_,iV k_,.fn 254 [.ro [iV lI],.ro [iV lJ,iV lK]]] [] (.tup [l7 r.1,iV r.2]) [] :=sp Tryz.func251 rfl<|sq hm pO fun v1 hm=>si hm (fun _ hm=>by cases hm;exact re) fun _ hm=>si hm (fun _ hm=>by cases hm;exact re) fun _ hm=>sq hm Lh fun v2 hm=>sq hm JX fun v3 hm=>by cases hm;exact re
theorem Fy {r_:bH} {k_:Int} {r:(bH×Int)} (hm:yD r_ k_ r):S 244 [l7 r_,iV k_] [] (.tup [l7 r.1,iV r.2]) [] :=sp Tryz.func244 rfl<|sq hm Ji fun v1 hm=>by cases hm;exact re
theorem MK {l_:(List aH)} {dz:(List Int)} {r:(List bH)} (hm:zW l_ dz r):S 225 [bn l_,.osl 0 0 dz.length false] [.row 1 dz.length (rowG iV 0 dz)] (mZ r) [.row 1 dz.length (rowG iV 0 dz)] :=sp Tryz.func225 rfl<|sn hm fun _ hm=>lf hm (fun g1=>⟨[(0,bn l_),(1,.osl 0 0 dz.length false),(5,.osl 1 0 g1.2.length false),(13,bn l_),(14,iV (l_.length:Int)),(15,iV g1.1)],[(0,some (.row 1 dz.length (rowG iV 0 dz))),(1,some (.row 2 g1.2.length (rowG l7 dO g1.2)))],2⟩) [(1,some 25)] [] <|fun aj g1 hm=>si hm (fun _ hm=>s2 hm fun _ _ hm=>sn hm fun _ hm=>sq hm AU fun v7 hm=>si hm (fun _ hm=>s2 hm fun _ _ hm=>le hm) fun _ hm=>sn hm fun _ hm=>si hm (fun _ hm=>s2 hm fun _ _ hm=>le hm) fun _ hm=>si hm (fun _ hm=>sn hm fun _ hm=>sq hm H9 fun v8 hm=>s2 hm fun _ _ hm=>le hm) fun _ hm=>si hm (fun _ hm=>sn hm fun _ hm=>sq hm Fy fun v9 hm=>s2 hm fun _ _ hm=>le hm) fun _ hm=>s2 hm fun _ _ hm=>sn hm fun _ hm=>le hm) fun _ hm=>by cases hm;exact rt [1] []
theorem ML {l_:(List aH)} {dz:(List Int)} {r:((List bH)×Int)} (hm:zX l_ dz r):S 186 [bn l_,.osl 0 0 dz.length false] [.row 1 dz.length (rowG iV 0 dz)] (.tup [mZ r.1,iV r.2]) [.row 1 dz.length (rowG iV 0 dz)] :=sp Tryz.func186 rfl<|sq hm kU fun v1 hm=>si hm (fun _ hm=>by cases hm;exact re) fun _ hm=>sq hm qc fun v2 hm=>si hm (fun _ hm=>by cases hm;exact re) fun _ hm=>sq hm MK fun v3 hm=>by cases hm;exact re
theorem uj {r_:bH} {xw:Int} {kN:Int} {r:Bool} (hm:ql r_ xw kN r):S 226 [l7 r_,iV xw,iV kN] [] (.bool r) [] :=sp Tryz.func226 rfl<|sq hm pO fun v1 hm=>si hm (fun _ hm=>by cases hm;exact re) fun _ hm=>s2 hm fun _ _ hm=>by cases hm;exact re
theorem zM {b_:gX} {r_:bH} {r:Bool} (hm:j5 b_ r_ r):S 187 [OH b_,l7 r_] [] (.bool r) [] :=sp Tryz.func187 rfl<|si hm (fun _ hm=>by cases hm;exact re) fun _ hm=>sq hm uj fun v1 hm=>by cases hm;exact re
theorem FX {dz:(List Int)} {r:(List Int)} (hm:slices_Clone_int dz r):S 47 [.osl 0 0 dz.length false] [.row 1 dz.length (rowG iV 0 dz)] (.osl 1 0 r.length false) [.row 1 dz.length (rowG iV 0 dz),.row 1 r.length (rowG iV 0 r)] :=by
 obtain ⟨h1,hm⟩:=hm
 have hm:r=dz:=hm
 subst hm
 refine kF (ct:=[1]) cfgOK Tryz.func47 rfl rfl (Nat.le_of_ble_eq_true rfl) dk (Nat.le_of_ble_eq_true rfl) ?_
 (conv=>whnf)
 refine J3 (ct:=[]) cfgOK (cfgOK.slice (t:=22) (e:=3) rfl rfl rfl).1 dk dk dk dk dk [(2,.sl 0 0 true nilG),(0,.osl 0 0 r.length false)] [(0,some (.row 1 r.length (rowG iV 0 r)))] 9 rfl rfl ?_ (fun hn=>?_) ?_
 ·exact rfl
 ·(conv=>whnf)
  have hn:r.length=0:=hn
  refine ⟨[],[(1,none)],?_⟩
  (conv=>whnf)
  exact ⟨⟨rfl,trivial,⟨⟨rfl,rfl,fun _ _=>.refl _⟩,hn,trivial⟩⟩,⟨rfl,rfl,rfl,rfl,rfl,hn⟩⟩
 ·(conv=>whnf)
  refine ⟨by rw [Nat.zero_add]; exact h1,?_⟩
  (conv=>whnf)
  refine ⟨[],[(1,some 25)],?_⟩
  (conv=>whnf)
  exact ⟨⟨rfl,trivial,⟨⟨rfl,rfl,fun _ _=>.refl _⟩,⟨rfl,Nat.zero_add _,iC (l:=[]) rfl (fun _ h=>absurd h (Nat.not_lt_zero _)) rfl (fun _ _=>.refl _)⟩,trivial⟩⟩,⟨rfl,rfl,rfl,Nat.zero_add _,nofun⟩⟩
theorem Jj {OI:Int} {dz:(List Int)} {TG:(List Int)} {Vh:Bool} {r:(Bool×(List Int)×Bool)} (hm:qV OI dz TG Vh r):S 137 [.osl 0 0 dz.length false,.int .u64 OI,.ptr 1 0 0,.ptr 2 0 0] [.row 1 dz.length (rowG iV 0 dz),.box [aD TG],.box [.bool Vh]] (.bool r.1) [.row 1 dz.length (rowG iV 0 dz),.box [aD r.2.1],.box [.bool r.2.2]] :=sp Tryz.func137 rfl<|si hm (fun _ hm=>sq hm FX fun v1 hm=>by cases hm;exact rt [35] []) fun _ hm=>by cases hm;exact re
theorem Li {l_:(List aH)} {m_:(List bK)} {dz:(List Int)} {TG:Bool} {r:((List Int)×Bool)} (hm:xA l_ m_ dz TG r):S 136 [bn l_,dY m_,.fn 137 [.ptr 0 0 0,.ptr 1 0 0]] [.box [aD dz],.box [.bool TG]] (.tup []) [.box [aD r.1],.box [.bool r.2]] :=Rl [14] Tryz.func136 rfl<|sq hm Oo fun v1 hm=>sn hm fun _ hm=>Md [14] hm (fun g1=>⟨[(0,bn l_),(2,.fn 137 [.ptr 0 0 0,.ptr 1 0 0]),(6,Cb v1),(7,.osl 2 0 g1.2.2.length false)],[(0,some (.box [aD g1.1])),(1,some (.box [.bool g1.2.1])),(2,some (.row 1 g1.2.2.length (rowG iV 0 g1.2.2)))],3⟩) [(2,some 50)] [] <|fun aj g1 hm=>sq hm ML fun v12 hm=>Md [14] hm (fun g10=>⟨[(0,bn l_),(2,.fn 137 [.ptr 0 0 0,.ptr 1 0 0]),(6,Cb v1),(7,.osl 2 0 g1.2.2.length false),(8,mZ v12.1),(10,.int .u64 g10.1),(26,Cb v1),(27,iV (v1.length:Int)),(28,iV g10.2)],[(0,some (.box [aD g1.1])),(1,some (.box [.bool g1.2.1])),(2,some (.row 1 g1.2.2.length (rowG iV 0 g1.2.2)))],3⟩) [] [] <|fun Sc g10 hm=>si hm (fun _ hm=>s2 hm fun _ _ hm=>sq hm zM fun v15 hm=>si hm (fun _ hm=>s2 hm fun _ _ hm=>le hm) fun _ hm=>sn hm fun _ hm=>le hm) fun _ hm=>sq hm Jj fun v16 hm=>si hm (fun _ hm=>by cases hm;exact re) fun _ hm=>sn hm fun _ hm=>ck [14] (tJ g1 aj v16) r (fun g12=>⟨[(0,bn l_),(2,.fn 137 [.ptr 0 0 0,.ptr 1 0 0]),(6,Cb v1),(7,.osl 2 0 g1.2.2.length false),(13,iV g12)],[(0,some (.box [aD v16.2.1])),(1,some (.box [.bool v16.2.2])),(2,some (.row 1 g1.2.2.length (rowG iV 0 g1.2.2)))],3⟩) (Md [14] hm (fun g13=>⟨[(0,bn l_),(2,.fn 137 [.ptr 0 0 0,.ptr 1 0 0]),(6,Cb v1),(7,.osl 2 0 g1.2.2.length false),(13,iV g13)],[(0,some (.box [aD v16.2.1])),(1,some (.box [.bool v16.2.2])),(2,some (.row 1 g1.2.2.length (rowG iV 0 g1.2.2)))],3⟩) [] [] <|fun UG g13 hm=>s2 hm fun _ _ hm=>sn hm fun _ hm=>si hm (fun _ hm=>sn hm fun _ hm=>le hm) fun _ hm=>le hm) fun g12 hm=>si hm (fun _ hm=>by cases hm;exact re) fun _ hm=>s2 hm fun _ _ hm=>s2 hm fun _ _ hm=>sn hm fun _ hm=>lce [] [] hm ⟨rfl,⟨sr,⟨rfl,r4,r4,trivial⟩,sr,⟨rfl,rfl,rfl,oz,nofun⟩,trivial⟩,⟨⟨sf,trivial⟩,⟨rfl,trivial⟩,⟨rfl,oz,(R9 oz (le_setG (fun _ _=>.refl _) rfl (.refl _)) oz (KL iV 0))⟩,trivial⟩⟩
theorem Lj {l_:(List aH)} {m_:(List bK)} {r:((List Int)×Int)} (hm:xB l_ m_ r):S 90 [bn l_,dY m_] [] (.tup [aD r.1,iV r.2]) [] :=sp Tryz.func90 rfl<|sq hm Lg fun v1 hm=>si hm (fun _ hm=>by cases hm;exact re) fun _ hm=>sb hm fun v2 hv2 hm=>cl ((Li hv2).le ⟨.refl _,.refl _,.refl _,trivial⟩ ⟨⟨(.sl rfl (fun h=>absurd rfl h) nofun (fun _ h=>absurd h (Nat.not_lt_zero _))),trivial⟩,jf _,trivial⟩)<|si hm (fun _ hm=>by cases hm;exact re) fun _ hm=>by cases hm;exact re
theorem Jk {x_:bE} {l6:(List aG)} {r:Bool} (hm:nA x_ l6 r):S 227 [Ca x_,.ro [aT l6]] [] (.bool r) [] :=sp Tryz.func227 rfl<|sn hm fun _ hm=>sq hm fT fun v1 hm=>sb hm fun v2 hv2 hm=>cl (fun q0=>(fT (hv2 q0)))<|sb hm fun v3 hv3 hm=>cl (fun q0=>(fT (hv3 q0)))<|sb hm fun v4 hv4 hm=>cl (fun q0=>(fT (hv4 q0)))<|by cases hm;exact re
theorem vC {s_:(List bE)} {f_:(List aG)} {r:Int} (hm:oP s_ f_ r):S 231 [eF s_,.fn 227 [.ro [aT f_]]] [] (iV r) [] :=sp Tryz.func231 rfl<|l0 hm (fun g1=>⟨[(0,eF s_),(1,.fn 227 [.ro [aT f_]]),(7,iV (s_.length:Int)),(8,iV g1)],[],0⟩) <|fun aj g1 hm=>si hm (fun _ hm=>sn hm fun _ hm=>sq hm Jk fun v3 hm=>si hm (fun _ hm=>by cases hm;exact re) fun _ hm=>sn hm fun _ hm=>le hm) fun _ hm=>by cases hm;exact re
theorem rY {s_:(List bE)} {f_:(List aG)} {r:Bool} (hm:jF s_ f_ r):S 194 [eF s_,.fn 227 [.ro [aT f_]]] [] (.bool r) [] :=sp Tryz.func194 rfl<|sq hm vC fun v1 hm=>by cases hm;exact re
theorem AX {l_:(List aG)} {d_:(List bE)} {r:Bool} (hm:qW l_ d_ r):S 188 [aT l_,eF d_] [] (.bool r) [] :=sp Tryz.func188 rfl<|sq hm mX fun v1 hm=>sb hm fun v2 hv2 hm=>cl (fun q0=>(rY (hv2 q0)))<|by cases hm;exact re
theorem Ll {l_:(List aG)} {d_:(List bE)} {r:Int} (hm:xD l_ d_ r):S 138 [aT l_,eF d_] [] (iV r) [] :=sp Tryz.func138 rfl<|sq hm mX fun v1 hm=>si hm (fun _ hm=>by cases hm;exact re) fun _ hm=>sq hm AX fun v2 hm=>si hm (fun _ hm=>by cases hm;exact re) fun _ hm=>by cases hm;exact re
theorem Ia {x_:Int} {y_:Int} {r:(Int×Int)} (hm:Eo x_ y_ r):S 247 [.int .u64 x_,.int .u64 y_] [] (.tup [.int .u64 r.1,.int .u64 r.2]) [] :=sp Tryz.func247 rfl<|s2 hm fun _ _ hm=>s2 hm fun _ _ hm=>sn hm fun _ hm=>by cases hm;exact re
theorem Kt {x_:Int} {y_:Int} {r:(Int×Int)} (hm:uD x_ y_ r):S 228 [.int .u64 x_,.int .u64 y_] [] (.tup [.int .u64 r.1,.int .u64 r.2]) [] :=sp Tryz.func228 rfl<|sq hm Ia fun v1 hm=>by cases hm;exact re
theorem yj {x_:(List fH)} {DF:Int} {r:(List fH)} (hm:jG x_ DF r):S 189 [KN x_,iV DF] [] (.osl 0 0 r.length false) [.row 3 r.length (rowG uy lD r)] :=Rl [3,6] Tryz.func189 rfl<|ck [3,6] (jY x_ DF) r (fun g1=>⟨[(0,KN x_),(1,iV DF)],[],0⟩) (by
 have c7:=hm.1
 have hm:=hm.2
 refine bcase_of (fun q=>Bool.noConfusion (c7.symm.trans q)) (fun _=>?_)
 (conv=>whnf)
 exact ⟨(),[],[],hm,⟨rfl,⟨sr,r2,trivial⟩,trivial⟩⟩) fun g1 hm=>sq hm Kt fun v1 hm=>ck [3,6] (jX x_ v1) r (fun g2=>⟨[(0,KN x_),(6,.int .u64 v1.2)],[],0⟩) (by
 have c6:=hm.1
 have hm:=hm.2
 refine bcase_of (fun q=>Bool.noConfusion (c6.symm.trans q)) (fun _=>?_)
 (conv=>whnf)
 exact ⟨(),[],[],hm,⟨rfl,⟨sr,r2,trivial⟩,trivial⟩⟩) fun g2 hm=>sn hm fun _ hm=>lfe [3,6] hm (fun g3=>⟨[(7,.osl 0 0 g3.2.length false),(8,iV g3.1)],[(0,some (.row 3 g3.2.length (rowG uy lD g3.2)))],1⟩) [(0,some 16)] [] ⟨rfl,⟨⟨rfl,rfl,rfl,oz,nofun⟩,r2,trivial⟩,⟨⟨rfl,oz,(R9 oz (KL uy lD) oz (jI (f:=uy) (d:=lD) (by first | omega | exact Nat.min_le_left _ _ | exact Nat.le_trans (Nat.min_le_left _ _) om | (simp; omega))))⟩,trivial⟩⟩ <|fun iy g3 hm=>si hm (fun _ hm=>s2 hm fun _ _ hm=>sn hm fun _ hm=>lce [] [] hm ⟨rfl,⟨⟨rfl,rfl,rfl,oz,nofun⟩,r2,trivial⟩,⟨⟨rfl,oz,(R9 rfl (fun _ _=>.refl _) oz (jI (f:=uy) (d:=lD) (by first | omega | exact Nat.min_le_left _ _ | exact Nat.le_trans (Nat.min_le_left _ _) om | (simp; omega))))⟩,trivial⟩⟩) fun _ hm=>by cases hm;exact re
theorem jm {s_:(List aG)} {r:(List aG)} (hm:gF s_ r):S 190 [aT s_] [] (.fn 229 [.ro [aT r]]) [] :=by
 have hm:r=s_:=hm
 subst hm
 exact backward_spec r
theorem um {l_:(List aG)} {d_:(List bE)} {r:(List Bool)} (hm:qm l_ d_ r):S 140 [aT l_,eF d_] [] (aU r) [] :=Rl [11] Tryz.func140 rfl<|sn hm fun _ hm=>Md [11] hm (fun g1=>⟨[(0,aT l_),(5,.ptr 0 0 0),(13,eF d_),(14,iV (d_.length:Int)),(15,iV g1.1)],[(0,some (.box [.osl 1 0 g1.2.length false])),(1,some (.row 1 g1.2.length (rowG AV.bool false g1.2)))],2⟩) [(0,some 32),(1,some 24)] [] <|fun aj g1 hm=>si hm (fun _ hm=>s2 hm fun _ _ hm=>sn hm fun _ hm=>le hm) fun _ hm=>sq hm jm fun v1 hm=>by
 have h11:=hm.1
 have hm:=hm.2
 refine Mi (ct:=[11]) (ct':=[11]) cfgOK dk dk dk dk (back_iter v1 h11) rfl (by intro v hv; simp at hv; exact ⟨_,hv⟩) hm (fun g2=>⟨[(5,.ptr 0 0 0),(25,.fn 229 [.ro [aT v1]])],[(0,some (.box [.osl 1 0 g2.length false])),(1,some (.row 1 g2.length (rowG AV.bool false g2)))],2⟩) (fun k2 g2=>⟨[(5,.ptr 0 0 0),(8,iV ((v1.length - 1 - k2:Nat):Int)),(9,.ptr 2 0 0)],[(0,some (.box [.osl 1 0 g2.length false])),(1,some (.row 1 g2.length (rowG AV.bool false g2))),(2,some (.box [iV ((v1.getD (v1.length - 1 - k2) aC).aQ),aD ((v1.getD (v1.length - 1 - k2) aC).bN),iV ((v1.getD (v1.length - 1 - k2) aC).fG),iV ((v1.getD (v1.length - 1 - k2) aC).gB),.bool ((v1.getD (v1.length - 1 - k2) aC).fI)]))],3⟩) (fun _ _=>r2) [] ⟨rfl,⟨r4,⟨rfl,LeL.refl _,trivial⟩,trivial⟩,⟨⟨⟨rfl,rfl,rfl,rfl,nofun⟩,trivial⟩,⟨rfl,rfl,(fun _ _=>.refl _)⟩,trivial⟩⟩ ?_ ?_ ?_
 ·intro k2 ll g2 hk
  refine ⟨Nat.le_of_ble_eq_true rfl,?_⟩
  (conv=>whnf)
  exact ⟨[(2,some 10)],⟨rfl,⟨r4,r2,r4,trivial⟩,⟨⟨⟨rfl,rfl,rfl,rfl,nofun⟩,trivial⟩,⟨rfl,rfl,(fun _ _=>.refl _)⟩,⟨r2,sr,r2,r2,rfl,trivial⟩,trivial⟩⟩⟩
 ·intro k2 ll cO g2 hk hm
  (conv=>whnf)
  refine O7 (ct:=[11]) cfgOK dk dk (vL v1 cO k2) r (fun g5=>⟨[(5,.ptr 0 0 0),(8,iV ((v1.length - 1 - k2:Nat):Int)),(9,.ptr 2 0 0)],[(0,some (.box [.osl 1 0 g5.length false])),(1,some (.row 1 g5.length (rowG AV.bool false g5))),(2,some (.box [iV ((v1.getD (v1.length - 1 - k2) aC).aQ),aD ((v1.getD (v1.length - 1 - k2) aC).bN),iV ((v1.getD (v1.length - 1 - k2) aC).fG),iV ((v1.getD (v1.length - 1 - k2) aC).gB),.bool ((v1.getD (v1.length - 1 - k2) aC).fI)]))],3⟩) ?_ (fun g5 hm=>?_)
  ·(conv=>whnf)
   refine aZ hm fun h28 hm=>?_
   (conv=>whnf)
   refine aZ hm fun h29 hm=>?_
   (conv=>whnf)
   exact ⟨(g2.set (((v1.length - 1 - k2:Nat):Int).toNat) ((g2.getD (((v1.length - 1 - k2:Nat):Int).toNat) false)||(v1.getD (v1.length - 1 - k2) aC).fI)),[],[],hm,⟨rfl,⟨r4,r2,r4,trivial⟩,⟨⟨⟨rfl,rfl,rfl,oz,nofun⟩,trivial⟩,⟨rfl,oz,(le_setG (fun _ _=>.refl _) rfl (.refl _))⟩,⟨r2,sr,r2,r2,rfl,trivial⟩,trivial⟩⟩⟩
  ·(conv=>whnf)
   refine aZ hm fun h26 hm=>?_
   (conv=>whnf)
   refine gI hm (fun c6 hm=>?_) (fun c6 hm=>?_)
   ·(conv=>whnf)
    refine aZ hm fun h27 hm=>?_
    (conv=>whnf)
    exact ⟨(g5.set (((v1.getD (v1.length - 1 - k2) aC).aQ).toNat) true),[],hm,⟨rfl,⟨r4,⟨rfl,LeL.refl _,trivial⟩,trivial⟩,⟨⟨⟨rfl,rfl,rfl,oz,nofun⟩,trivial⟩,⟨rfl,oz,(le_setG (fun _ _=>.refl _) rfl (.refl _))⟩,trivial⟩⟩⟩
   ·(conv=>whnf)
    exact ⟨g5,[],hm,⟨rfl,⟨r4,⟨rfl,LeL.refl _,trivial⟩,trivial⟩,⟨⟨⟨rfl,rfl,rfl,rfl,nofun⟩,trivial⟩,⟨rfl,rfl,(fun _ _=>.refl _)⟩,trivial⟩⟩⟩
 ·intro g2 hm
  (conv=>whnf)
  have hm:r=g2:=hm
  subst hm
  refine ⟨[1],[],?_⟩
  (conv=>whnf)
  exact ⟨⟨rfl,trivial,trivial⟩,sf⟩
theorem zx {x_:Int} {r:Bool} (hm:cmp_isNaN_int x_ r):S 255 [iV x_] [] (.bool r) [] :=sp Tryz.func255 rfl<|by cases hm;exact re
theorem Lm {x_:Int} {y_:Int} {r:Bool} (hm:cmp_Less_int x_ y_ r):S 248 [iV x_,iV y_] [] (.bool r) [] :=sp Tryz.func248 rfl<|sq hm zx fun v1 hm=>sb hm fun v2 hv2 hm=>cl (fun q0=>(zx (hv2 q0)))<|by cases hm;exact re
theorem tq {x_:Int} {r:Bool} (hm:tK x_ r):S 249 [iV x_] [] (.bool r) [] :=sp Tryz.func249 rfl<|by cases hm;exact re
theorem wz {x_:(List Int)} {jP:Int} {r:(Int×Bool)} (hm:slices_BinarySearch_int x_ jP r):S 230 [aD x_,iV jP] [] (.tup [iV r.1,.bool r.2]) [] :=Rl [8] Tryz.func230 rfl<|ck [8] (jJ x_ jP) r (fun g2=>⟨[(0,aD x_),(1,iV jP),(6,iV (x_.length:Int)),(7,iV g2)],[],0⟩) (Md [8] hm (fun g3=>⟨[(0,aD x_),(1,iV jP),(6,iV (x_.length:Int)),(7,iV g3.1),(8,iV g3.2)],[],0⟩) [] [] <|fun iy g3 hm=>si hm (fun _ hm=>s2 hm fun _ _ hm=>sn hm fun _ hm=>sq hm Lm fun v8 hm=>si hm (fun _ hm=>sn hm fun _ hm=>le hm) fun _ hm=>le hm) fun _ hm=>le hm) fun g2 hm=>s2 hm fun _ _ hm=>sb hm fun v4 hv4 hm=>cl (fun q0 q1=>(tq (hv4 q0 q1)))<|sb hm fun v5 hv5 hm=>cl (fun q0 q1 q2=>(tq (hv5 q0 q1 q2)))<|by cases hm;exact re
theorem Lp {s_:aG} {KO:Int} {r:(Int×Bool)} (hm:DJ s_ KO r):S 191 [xg s_,iV KO] [] (.tup [iV r.1,.bool r.2]) [] :=sp Tryz.func191 rfl<|sq hm wz fun v1 hm=>by cases hm;exact re
theorem Jl {l_:(List aG)} {d_:(List bE)} {r:((List fH)×(List Int)×Int)} (hm:qX l_ d_ r):S 139 [aT l_,eF d_] [] (.tup [KN r.1,aD r.2.1,iV r.2.2]) [] :=sp Tryz.func139 rfl<|sb hm fun v1 hv1 hm=>cl ((yj hv1).le ⟨(.sl rfl (fun _=>rfl) nofun (fB uy lD [(⟨(0:Int),(-1:Int),(-1:Int)⟩:fH)])),.refl _,trivial⟩ trivial)<|sn hm fun _ hm=>lf hm (fun g1=>⟨[(0,aT l_),(1,eF d_),(4,.ptr 0 0 0),(5,.ptr 1 0 0),(6,.ptr 2 0 0),(23,eF d_),(24,iV (d_.length:Int)),(25,iV g1.1)],[(0,some (.box [.osl 3 0 g1.2.1.length false])),(1,some (.box [.osl 4 0 g1.2.2.length false])),(2,some (.box [iV (0:Int)])),(3,some (.row 3 g1.2.1.length (rowG uy lD g1.2.1))),(4,some (.row 1 g1.2.2.length (rowG iV 0 g1.2.2)))],5⟩) [(1,some 8),(2,some 16),(3,some 56),(4,some 80)] [] <|fun aj g1 hm=>si hm (fun _ hm=>s2 hm fun _ _ hm=>si hm (fun _ hm=>s2 hm fun _ _ hm=>le hm) fun _ hm=>sn hm fun _ hm=>le hm) fun _ hm=>sq hm um fun v2 hm=>sq hm jm fun v3 hm=>by
 have h17:=hm.1
 have hm:=hm.2
 refine Mi (ct:=[]) (ct':=[]) cfgOK dk dk dk dk (back_iter v3 h17) rfl (by intro v hv; simp at hv; exact ⟨_,hv⟩) hm (fun g2=>⟨[(4,.ptr 0 0 0),(5,.ptr 1 0 0),(6,.ptr 2 0 0),(9,.ptr 3 0 0),(52,.fn 229 [.ro [aT v3]])],[(0,some (.box [.osl 4 0 g2.1.length false])),(1,some (.box [.osl 5 0 g2.2.length false])),(2,some (.box [iV (0:Int)])),(3,some (.box [aU v2])),(4,some (.row 3 g2.1.length (rowG uy lD g2.1))),(5,some (.row 1 g2.2.length (rowG iV 0 g2.2)))],6⟩) (fun k2 g2=>⟨[(4,.ptr 0 0 0),(5,.ptr 1 0 0),(6,.ptr 2 0 0),(9,.ptr 3 0 0),(10,iV ((v3.length - 1 - k2:Nat):Int)),(11,.ptr 6 0 0)],[(0,some (.box [.osl 4 0 g2.1.length false])),(1,some (.box [.osl 5 0 g2.2.length false])),(2,some (.box [iV (0:Int)])),(3,some (.box [aU v2])),(4,some (.row 3 g2.1.length (rowG uy lD g2.1))),(5,some (.row 1 g2.2.length (rowG iV 0 g2.2))),(6,some (.box [iV ((v3.getD (v3.length - 1 - k2) aC).aQ),aD ((v3.getD (v3.length - 1 - k2) aC).bN),iV ((v3.getD (v3.length - 1 - k2) aC).fG),iV ((v3.getD (v3.length - 1 - k2) aC).gB),.bool ((v3.getD (v3.length - 1 - k2) aC).fI)]))],7⟩) (fun _ _=>r2) [(3,some 37),(4,some 3),(5,some 4)] ⟨rfl,⟨r4,r4,r4,r4,⟨rfl,LeL.refl _,trivial⟩,trivial⟩,⟨⟨⟨rfl,rfl,rfl,rfl,nofun⟩,trivial⟩,⟨⟨rfl,rfl,rfl,rfl,nofun⟩,trivial⟩,⟨r2,trivial⟩,⟨sr,trivial⟩,⟨rfl,rfl,(fun _ _=>.refl _)⟩,⟨rfl,rfl,(fun _ _=>.refl _)⟩,trivial⟩⟩ ?_ ?_ ?_
 ·intro k2 ll g2 hk
  refine ⟨Nat.le_of_ble_eq_true rfl,?_⟩
  (conv=>whnf)
  exact ⟨[(6,some 14)],⟨rfl,⟨r4,r4,r4,r4,r2,r4,trivial⟩,⟨⟨⟨rfl,rfl,rfl,rfl,nofun⟩,trivial⟩,⟨⟨rfl,rfl,rfl,rfl,nofun⟩,trivial⟩,⟨r2,trivial⟩,⟨sr,trivial⟩,⟨rfl,rfl,(fun _ _=>.refl _)⟩,⟨rfl,rfl,(fun _ _=>.refl _)⟩,⟨r2,sr,r2,r2,rfl,trivial⟩,trivial⟩⟩⟩
 ·intro k2 ll cO g2 hk hm
  (conv=>whnf)
  refine aZ hm fun h32 hm=>?_
  (conv=>whnf)
  refine gI hm (fun c13 hm=>?_) (fun c13 hm=>?_)
  ·(conv=>whnf)
   exact ⟨(g2.1,g2.2),[],hm,⟨rfl,⟨r4,r4,r4,r4,⟨rfl,LeL.refl _,trivial⟩,trivial⟩,⟨⟨⟨rfl,rfl,rfl,rfl,nofun⟩,trivial⟩,⟨⟨rfl,rfl,rfl,rfl,nofun⟩,trivial⟩,⟨r2,trivial⟩,⟨sr,trivial⟩,⟨rfl,rfl,(fun _ _=>.refl _)⟩,⟨rfl,rfl,(fun _ _=>.refl _)⟩,trivial⟩⟩⟩
  ·(conv=>whnf)
   refine aZ hm fun h33 hm=>?_
   (conv=>whnf)
   refine fV hm fun v6 hv6 hm=>?_
   refine ⟨_,_,(Lp hv6),?_⟩
   (conv=>whnf)
   refine gI hm (fun c14 hm=>?_) (fun c14 hm=>?_)
   ·(conv=>whnf)
    have hm:r=(g2.1,g2.2,((v3.length - 1 - k2:Nat):Int)):=hm
    subst hm
    refine ⟨[4,5],[],?_⟩
    (conv=>whnf)
    exact ⟨⟨rfl,trivial,trivial⟩,(by (conv=>whnf); exact ⟨(by (conv=>whnf); exact sf),(by (conv=>whnf); exact ⟨(by (conv=>whnf); exact sf),(by (conv=>whnf); exact ⟨(by first | ((conv=>whnf); exact r2) | exact r2),trivial⟩)⟩)⟩)⟩
   ·(conv=>whnf)
    refine aZ hm fun h34 hm=>?_
    (conv=>whnf)
    refine aZ hm fun h35 hm=>?_
    (conv=>whnf)
    refine aZ hm fun h36 hm=>?_
    (conv=>whnf)
    refine aZ hm fun h37 hm=>?_
    (conv=>whnf)
    refine gI hm (fun c15 hm=>?_) (fun c15 hm=>?_)
    ·(conv=>whnf)
     refine aZ hm fun h38 hm=>?_
     (conv=>whnf)
     exact ⟨((g2.1.set (((v3.getD (v3.length - 1 - k2) aC).aQ).toNat) (⟨((((v3.getD (v3.length - 1 - k2) aC).bN).getD v6.1.toNat 0)+(v3.getD (v3.length - 1 - k2) aC).fG),(-1:Int),((v3.length - 1 - k2:Nat):Int)⟩:fH)),(g2.2.set (((v3.length - 1 - k2:Nat):Int).toNat) v6.1)),[],hm,⟨rfl,⟨r4,r4,r4,r4,⟨rfl,LeL.refl _,trivial⟩,trivial⟩,⟨⟨⟨rfl,rfl,rfl,oz,nofun⟩,trivial⟩,⟨⟨rfl,rfl,rfl,oz,nofun⟩,trivial⟩,⟨r2,trivial⟩,⟨sr,trivial⟩,⟨rfl,oz,(le_setG (fun _ _=>.refl _) rfl (.refl _))⟩,⟨rfl,oz,(le_setG (fun _ _=>.refl _) rfl (.refl _))⟩,trivial⟩⟩⟩
    ·(conv=>whnf)
     exact ⟨(g2.1,(g2.2.set (((v3.length - 1 - k2:Nat):Int).toNat) v6.1)),[],hm,⟨rfl,⟨r4,r4,r4,r4,⟨rfl,LeL.refl _,trivial⟩,trivial⟩,⟨⟨⟨rfl,rfl,rfl,rfl,nofun⟩,trivial⟩,⟨⟨rfl,rfl,rfl,oz,nofun⟩,trivial⟩,⟨r2,trivial⟩,⟨sr,trivial⟩,⟨rfl,rfl,(fun _ _=>.refl _)⟩,⟨rfl,oz,(le_setG (fun _ _=>.refl _) rfl (.refl _))⟩,trivial⟩⟩⟩
 ·intro g2 hm
  (conv=>whnf)
  have hm:r=(g2.1,g2.2,(-1:Int)):=hm
  subst hm
  refine ⟨[4,5],[],?_⟩
  (conv=>whnf)
  exact ⟨⟨rfl,trivial,trivial⟩,(by (conv=>whnf); exact ⟨(by (conv=>whnf); exact sf),(by (conv=>whnf); exact ⟨(by (conv=>whnf); exact sf),(by (conv=>whnf); exact ⟨(by first | ((conv=>whnf); exact r2) | exact r2),trivial⟩)⟩)⟩)⟩
theorem Lr {l_:(List aG)} {r_:dB} {r:Bool} (hm:xE l_ r_ r):S 192 [aT l_,Bl r_] [] (.bool r) [] :=sp Tryz.func192 rfl<|sq hm mX fun v1 hm=>si hm (fun _ hm=>by cases hm;exact re) fun _ hm=>l0 hm (fun g1=>⟨[(0,aT l_),(27,aD r_.dQ),(28,iV (r_.dQ.length:Int)),(29,iV g1)],[],0⟩) <|fun aj g1 hm=>si hm (fun _ hm=>s2 hm fun _ _ hm=>sn hm fun _ hm=>sq hm fT fun v4 hm=>si hm (fun _ hm=>by cases hm;exact re) fun _ hm=>sn hm fun _ hm=>le hm) fun _ hm=>by cases hm;exact re
theorem Ls {l_:(List aG)} {d_:(List bE)} {r:(List Int)} (hm:xG l_ d_ r):S 193 [aT l_,eF d_] [] (aD r) [] :=sp Tryz.func193 rfl<|sn hm fun _ hm=>lf hm (fun g1=>⟨[(0,aT l_),(5,.ptr 0 0 0),(13,eF d_),(14,iV (d_.length:Int)),(15,iV g1.1)],[(0,some (.box [.osl 1 0 g1.2.length false])),(1,some (.row 1 g1.2.length (rowG iV 0 g1.2)))],2⟩) [(0,some 32),(1,some 24)] [] <|fun aj g1 hm=>si hm (fun _ hm=>s2 hm fun _ _ hm=>s2 hm fun _ _ hm=>sn hm fun _ hm=>le hm) fun _ hm=>sq hm jm fun v1 hm=>by
 have h17:=hm.1
 have hm:=hm.2
 refine Mi (ct:=[]) (ct':=[]) cfgOK dk dk dk dk (back_iter v1 h17) rfl (by intro v hv; simp at hv; exact ⟨_,hv⟩) hm (fun g2=>⟨[(5,.ptr 0 0 0),(30,.fn 229 [.ro [aT v1]])],[(0,some (.box [.osl 1 0 g2.length false])),(1,some (.row 1 g2.length (rowG iV 0 g2)))],2⟩) (fun k2 g2=>⟨[(5,.ptr 0 0 0),(8,iV ((v1.length - 1 - k2:Nat):Int)),(9,.ptr 2 0 0)],[(0,some (.box [.osl 1 0 g2.length false])),(1,some (.row 1 g2.length (rowG iV 0 g2))),(2,some (.box [iV ((v1.getD (v1.length - 1 - k2) aC).aQ),aD ((v1.getD (v1.length - 1 - k2) aC).bN),iV ((v1.getD (v1.length - 1 - k2) aC).fG),iV ((v1.getD (v1.length - 1 - k2) aC).gB),.bool ((v1.getD (v1.length - 1 - k2) aC).fI)]))],3⟩) (fun _ _=>r2) [] ⟨rfl,⟨r4,⟨rfl,LeL.refl _,trivial⟩,trivial⟩,⟨⟨⟨rfl,rfl,rfl,rfl,nofun⟩,trivial⟩,⟨rfl,rfl,(fun _ _=>.refl _)⟩,trivial⟩⟩ ?_ ?_ ?_
 ·intro k2 ll g2 hk
  refine ⟨Nat.le_of_ble_eq_true rfl,?_⟩
  (conv=>whnf)
  exact ⟨[(2,some 10)],⟨rfl,⟨r4,r2,r4,trivial⟩,⟨⟨⟨rfl,rfl,rfl,rfl,nofun⟩,trivial⟩,⟨rfl,rfl,(fun _ _=>.refl _)⟩,⟨r2,sr,r2,r2,rfl,trivial⟩,trivial⟩⟩⟩
 ·intro k2 ll cO g2 hk hm
  (conv=>whnf)
  refine gI hm (fun c6 hm=>?_) (fun c6 hm=>?_)
  ·(conv=>whnf)
   refine aZ hm fun h26 hm=>?_
   (conv=>whnf)
   refine aZ hm fun h27 hm=>?_
   (conv=>whnf)
   refine aZ hm fun h28 hm=>?_
   (conv=>whnf)
   refine aZ hm fun h29 hm=>?_
   (conv=>whnf)
   exact ⟨(g2.set (((v1.getD (v1.length - 1 - k2) aC).aQ).toNat) ((g2.getD (((v1.getD (v1.length - 1 - k2) aC).aQ).toNat) 0)+(g2.getD (((v1.length - 1 - k2:Nat):Int).toNat) 0))),[],hm,⟨rfl,⟨r4,⟨rfl,LeL.refl _,trivial⟩,trivial⟩,⟨⟨⟨rfl,rfl,rfl,oz,nofun⟩,trivial⟩,⟨rfl,oz,(le_setG (fun _ _=>.refl _) rfl (.refl _))⟩,trivial⟩⟩⟩
  ·(conv=>whnf)
   exact ⟨g2,[],hm,⟨rfl,⟨r4,⟨rfl,LeL.refl _,trivial⟩,trivial⟩,⟨⟨⟨rfl,rfl,rfl,rfl,nofun⟩,trivial⟩,⟨rfl,rfl,(fun _ _=>.refl _)⟩,trivial⟩⟩⟩
 ·intro g2 hm
  (conv=>whnf)
  have hm:r=g2:=hm
  subst hm
  refine ⟨[1],[],?_⟩
  (conv=>whnf)
  exact ⟨⟨rfl,trivial,trivial⟩,sf⟩
theorem Jm {x_:bE} {l6:(List aG)} {VR:(List Bool)} {Mk:(List Int)} {r:Bool} (hm:nD x_ l6 VR Mk r):S 195 [Ca x_,.ro [aT l6],.ro [aU VR,aD Mk]] [] (.bool r) [] :=sp Tryz.func195 rfl<|s2 hm fun _ _ hm=>sn hm fun _ hm=>sq hm fT fun v1 hm=>by cases hm;exact re
theorem rZ {s_:(List bE)} {vM:(List aG)} {wI:(List Bool)} {wJ:(List Int)} {r:Int} (hm:mM s_ vM wI wJ r):S 231 [eF s_,.fn 195 [.ro [aT vM],.ro [aU wI,aD wJ]]] [] (iV r) [] :=sp Tryz.func231 rfl<|l0 hm (fun g1=>⟨[(0,eF s_),(1,.fn 195 [.ro [aT vM],.ro [aU wI,aD wJ]]),(7,iV (s_.length:Int)),(8,iV g1)],[],0⟩) <|fun aj g1 hm=>si hm (fun _ hm=>sn hm fun _ hm=>sq hm Jm fun v3 hm=>si hm (fun _ hm=>by cases hm;exact re) fun _ hm=>sn hm fun _ hm=>le hm) fun _ hm=>by cases hm;exact re
theorem o9 {s_:(List bE)} {vM:(List aG)} {wI:(List Bool)} {wJ:(List Int)} {r:Bool} (hm:iT s_ vM wI wJ r):S 194 [eF s_,.fn 195 [.ro [aT vM],.ro [aU wI,aD wJ]]] [] (.bool r) [] :=sp Tryz.func194 rfl<|sq hm rZ fun v1 hm=>by cases hm;exact re
theorem AY {l_:(List aG)} {r_:dB} {d_:(List bE)} {r:Bool} (hm:qY l_ r_ d_ r):S 141 [aT l_,Bl r_,eF d_] [] (.bool r) [] :=sp Tryz.func141 rfl<|sq hm Lr fun v1 hm=>sb hm fun v2 hv2 hm=>cl (fun q0=>(AX (hv2 q0)))<|si hm (fun _ hm=>by cases hm;exact re) fun _ hm=>sq hm um fun v3 hm=>sq hm Ls fun v4 hm=>lf hm (fun g1=>⟨[(2,eF d_),(3,.ptr 0 0 0),(4,.ptr 1 0 0),(7,aU v3),(8,aD v4),(28,aT l_),(29,iV (l_.length:Int)),(30,iV g1)],[(0,some (.box [aT l_])),(1,some (.box [aU r_.On,aD r_.dQ]))],2⟩) [(1,some 8)] [] <|fun aj g1 hm=>si hm (fun _ hm=>s2 hm fun _ _ hm=>si hm (fun _ hm=>sn hm fun _ hm=>si hm (fun _ hm=>by cases hm;exact re) fun _ hm=>sn hm fun _ hm=>le hm) fun _ hm=>s2 hm fun _ _ hm=>s2 hm fun _ _ hm=>s2 hm fun _ _ hm=>s2 hm fun _ _ hm=>si hm (fun _ hm=>by cases hm;exact re) fun _ hm=>sn hm fun _ hm=>le hm) fun _ hm=>sq hm o9 fun v5 hm=>by cases hm;exact re
theorem Lu {l_:(List aG)} {d_:(List bE)} {r:(dB×Int)} (hm:xH l_ d_ r):S 91 [aT l_,eF d_] [] (.tup [Bl r.1,iV r.2]) [] :=sp Tryz.func91 rfl<|sq hm Ll fun v1 hm=>si hm (fun _ hm=>by cases hm;exact re) fun _ hm=>sq hm Jl fun v2 hm=>sq hm um fun v3 hm=>sb hm fun v4 hv4 hm=>cl (fun q0=>(AY (hv4 q0)))<|si hm (fun _ hm=>by cases hm;exact re) fun _ hm=>by cases hm;exact re
theorem Ku {n_:aL} {r:(List Int)} (hm:Bt n_ r):S 94 [qM n_] [] (aD r) [] :=sp Tryz.func94 rfl<|by cases hm;exact re
theorem FY {l_:(List aL)} {ah:(List Int)} {r:(List Int)} (hm:tN l_ ah r):S 93 [dI l_,aD ah,.fn 94 []] [] (aD r) [] :=sp Tryz.func93 rfl<|lf hm (fun g1=>⟨[(0,dI l_),(2,.fn 94 []),(7,.osl 0 0 g1.2.length false),(10,aD ah),(11,iV (ah.length:Int)),(12,iV g1.1)],[(0,some (.row 1 g1.2.length (rowG iV 0 g1.2)))],1⟩) [(0,none)] [] <|fun aj g1 hm=>si hm (fun _ hm=>sn hm fun _ hm=>si hm (fun _ hm=>sn hm fun _ hm=>sq hm Ku fun v3 hm=>s2 hm fun _ _ hm=>lc [(0,some 153)] [] hm) fun _ hm=>sn hm fun _ hm=>le hm) fun _ hm=>by cases hm;exact rt [0] []
theorem Lv {l_:(List dN)} {eO:(List Int)} {r:(List Bool)} (hm:xI l_ eO r):S 142 [bZ l_,aD eO] [] (aU r) [] :=sp Tryz.func142 rfl<|sn hm fun _ hm=>lf hm (fun g1=>⟨[(0,bZ l_),(5,.osl 0 0 g1.2.length false),(14,aD eO),(15,iV (eO.length:Int)),(16,iV g1.1)],[(0,some (.row 1 g1.2.length (rowG AV.bool false g1.2)))],1⟩) [(0,some 24)] [] <|fun aj g1 hm=>si hm (fun _ hm=>s2 hm fun _ _ hm=>sn hm fun _ hm=>le hm) fun _ hm=>sn hm fun _ hm=>l0 hm (fun g2=>⟨[(0,bZ l_),(5,.osl 0 0 g2.2.length false),(8,iV g2.1)],[(0,some (.row 1 g2.2.length (rowG AV.bool false g2.2)))],1⟩) <|fun cO g2 hm=>si hm (fun _ hm=>sn hm fun _ hm=>l0 hm (fun g5=>⟨[(0,bZ l_),(5,.osl 0 0 g5.2.length false),(8,iV g2.1),(35,aD ((l_.getD g2.1.toNat bV).dK)),(36,iV ((((l_.getD g2.1.toNat bV).dK).length:Nat):Int)),(37,iV g5.1)],[(0,some (.row 1 g5.2.length (rowG AV.bool false g5.2)))],1⟩) <|fun iF g5 hm=>si hm (fun _ hm=>s2 hm fun _ _ hm=>s2 hm fun _ _ hm=>sn hm fun _ hm=>le hm) fun _ hm=>sn hm fun _ hm=>le hm) fun _ hm=>by cases hm;exact rt [0] []
theorem Lx {l_:(List dN)} {eO:(List Int)} {r:((List Bool)×Int)} (hm:xJ l_ eO r):S 92 [bZ l_,aD eO] [] (.tup [aU r.1,iV r.2]) [] :=sp Tryz.func92 rfl<|sq hm ug fun v1 hm=>si hm (fun _ hm=>by cases hm;exact re) fun _ hm=>l0 hm (fun g1=>⟨[(0,bZ l_),(1,aD eO),(11,aD eO),(12,iV (eO.length:Int)),(13,iV g1)],[],0⟩) <|fun aj g1 hm=>si hm (fun _ hm=>sn hm fun _ hm=>si hm (fun _ hm=>by cases hm;exact re) fun _ hm=>sn hm fun _ hm=>le hm) fun _ hm=>sq hm Lv fun v2 hm=>by cases hm;exact re
theorem Kv {n_:aL} {r:(List Int)} (hm:Bu n_ r):S 96 [qM n_] [] (aD r) [] :=sp Tryz.func96 rfl<|si hm (fun _ hm=>by cases hm;exact re) fun _ hm=>by cases hm;exact rt [56] []
theorem BR {l_:(List aL)} {ah:(List Int)} {r:(List Int)} (hm:oJ l_ ah r):S 93 [dI l_,aD ah,.fn 96 []] [] (aD r) [] :=sp Tryz.func93 rfl<|lf hm (fun g1=>⟨[(0,dI l_),(2,.fn 96 []),(7,.osl 0 0 g1.2.length false),(10,aD ah),(11,iV (ah.length:Int)),(12,iV g1.1)],[(0,some (.row 1 g1.2.length (rowG iV 0 g1.2)))],1⟩) [(0,none)] [] <|fun aj g1 hm=>si hm (fun _ hm=>sn hm fun _ hm=>si hm (fun _ hm=>sn hm fun _ hm=>sq hm Kv fun v3 hm=>s2 hm fun _ _ hm=>lc [(0,some 153)] [] hm) fun _ hm=>sn hm fun _ hm=>le hm) fun _ hm=>by cases hm;exact rt [0] []
theorem Jo {l_:(List dx)} {dX:(List Int)} {r:Int} (hm:qZ l_ dX r):S 143 [bO l_,aD dX] [] (iV r) [] :=sp Tryz.func143 rfl<|sq hm rX fun v1 hm=>si hm (fun _ hm=>by cases hm;exact re) fun _ hm=>l0 hm (fun g1=>⟨[(0,bO l_),(10,aD dX),(11,iV (dX.length:Int)),(12,iV g1)],[],0⟩) <|fun aj g1 hm=>si hm (fun _ hm=>sn hm fun _ hm=>si hm (fun _ hm=>by cases hm;exact re) fun _ hm=>sn hm fun _ hm=>le hm) fun _ hm=>by cases hm;exact re
theorem Qj {l_:(List dx)} {dX:(List Int)} {r:((List Bool)×Int)} (hm:Iz l_ dX r):S 95 [bO l_,aD dX] [] (.tup [aU r.1,iV r.2]) [] :=Rl [9] Tryz.func95 rfl<|sq hm Jo fun v1 hm=>si hm (fun _ hm=>by cases hm;exact re) fun _ hm=>s2 hm fun _ _ hm=>Md [9] hm (fun g1=>⟨[(0,bO l_),(1,aD dX),(7,.osl 0 0 g1.2.length false),(8,iV g1.1)],[(0,some (.row 1 g1.2.length (rowG AV.bool false g1.2)))],1⟩) [(0,some 80)] [] <|fun aj g1 hm=>si hm (fun _ hm=>ck [9] (DL l_ g1 aj) r (fun g4=>⟨[(0,bO l_),(1,aD dX),(7,.osl 0 0 g4.length false),(8,iV g1.1)],[(0,some (.row 1 g4.length (rowG AV.bool false g4)))],1⟩) (s2 hm fun _ _ hm=>sb hm fun v7 hv7 hm=>cl (fun q0=>(eY (hv7 q0)))<|sn hm fun _ hm=>le hm) fun g4 hm=>s2 hm fun _ _ hm=>si hm (fun _ hm=>s2 hm fun _ _ hm=>sn hm fun _ hm=>le hm) fun _ hm=>sn hm fun _ hm=>le hm) fun _ hm=>by cases hm;exact rt [0] []
theorem uo {b_:bf} {l_:(List aL)} {ah:(List Int)} {gG:(List aS)} {r:((List Int)×(List Bool)×(List Int)×(List Bool)×(List Bool)×Int×Int×(List aS))} (hm:qo b_ l_ ah gG r):S 46 [gZ b_,dI l_,aD ah,dG gG] [] (.tup [.agg [aD r.1,aU r.2.1,aD r.2.2.1,.osl 0 0 r.2.2.2.2.2.2.2.length false,aU r.2.2.2.1,aU r.2.2.2.2.1],iV r.2.2.2.2.2.1,iV r.2.2.2.2.2.2.1]) [.row 3 r.2.2.2.2.2.2.2.length (rowG mK bA r.2.2.2.2.2.2.2)] :=sp Tryz.func46 rfl<|sq hm Lf fun v1 hm=>sq hm MH fun v2 hm=>si hm (fun _ hm=>sq hm H8 fun v3 hm=>si hm (fun _ hm=>by cases hm;exact rt [] [(0,none)]) fun _ hm=>sq hm Lj fun v4 hm=>si hm (fun _ hm=>by cases hm;exact rt [] [(0,none)]) fun _ hm=>sq hm Lu fun v5 hm=>si hm (fun _ hm=>by cases hm;exact rt [] [(0,none)]) fun _ hm=>lf hm (fun g1=>⟨[(1,dI l_),(2,aD ah),(4,.ptr 0 0 0),(8,.ptr 1 0 0),(16,.ptr 2 0 0),(64,dG gG),(65,iV (gG.length:Int)),(66,iV g1.1)],[(0,some (.box [bn b_.bQ,aT b_.bI,iV b_.aP.bG,bg b_.aP.av,bZ b_.aY,bO b_.dh])),(1,some (.box [.sl 0 0 true nilG,.sl 0 0 true nilG,.sl 0 0 true nilG,.sl 0 0 true nilG,.sl 0 0 true nilG,.sl 0 0 true nilG])),(2,some (.box [aD v4.1,aU v5.1.On,aD v5.1.dQ,.osl 3 0 g1.2.length false,.sl 0 0 true nilG,.sl 0 0 true nilG])),(3,some (.row 3 g1.2.length (rowG mK bA g1.2)))],4⟩) [(1,some 8),(2,some 424),(3,none)] [] <|fun aj g1 hm=>si hm (fun _ hm=>sn hm fun _ hm=>sq hm eY fun v8 hm=>si hm (fun _ hm=>s2 hm fun _ _ hm=>lc [(3,some 108)] [] hm) fun _ hm=>sn hm fun _ hm=>le hm) fun _ hm=>sq hm FY fun v9 hm=>sq hm Lx fun v10 hm=>sq hm BR fun v11 hm=>sq hm Qj fun v12 hm=>by cases hm;exact rt [] [(0,some 3)]) fun c1 hm=>by
 refine ⟨(fun q0=>absurd q0 (Uk c1)),?_⟩
 (conv=>whnf)
 refine ⟨(fun q0=>absurd q0 (Uk c1)),?_⟩
 (conv=>whnf)
 refine aZ hm fun h13 hm=>?_
 (conv=>whnf)
 have hm:r=(([]:List Int),([]:List Bool),([]:List Int),([]:List Bool),([]:List Bool),(4:Int),(45:Int),([]:List aS)):=hm
 subst hm
 refine ⟨[],[(0,none)],?_⟩
 (conv=>whnf)
 exact ⟨⟨rfl,trivial,⟨rfl,trivial⟩⟩,⟨⟨⟨rfl,(fun h=>absurd rfl h),nofun,(fun _ h=>absurd h (Nat.not_lt_zero _))⟩,⟨rfl,(fun h=>absurd rfl h),nofun,(fun _ h=>absurd h (Nat.not_lt_zero _))⟩,⟨rfl,(fun h=>absurd rfl h),nofun,(fun _ h=>absurd h (Nat.not_lt_zero _))⟩,⟨rfl,rfl,rfl,rfl,rfl,rfl⟩,⟨rfl,(fun h=>absurd rfl h),nofun,(fun _ h=>absurd h (Nat.not_lt_zero _))⟩,⟨rfl,(fun h=>absurd rfl h),nofun,(fun _ h=>absurd h (Nat.not_lt_zero _))⟩,trivial⟩,r2,r2,trivial⟩⟩
theorem Oq {b_:bf} {r:(bM×Int)} (hm:Ph b_ r):S 18 [gZ b_] [] (.tup [jW r.1,iV r.2]) [] :=sp Tryz.func18 rfl<|sq hm C9 fun v1 hm=>si hm (fun _ hm=>by cases hm;exact re) fun _ hm=>sb hm fun v2 hv2 hm=>cl ((uo hv2).le ⟨.refl _,(.sl rfl (fun h=>absurd rfl h) nofun (fun _ h=>absurd h (Nat.not_lt_zero _))),(.sl rfl (fun h=>absurd rfl h) nofun (fun _ h=>absurd h (Nat.not_lt_zero _))),(.sl rfl (fun h=>absurd rfl h) nofun (fun _ h=>absurd h (Nat.not_lt_zero _))),trivial⟩ trivial)<|by cases hm;exact rt [72] []
theorem iY {x_:Int} {xw:Int} {kN:Int} {r:Bool} (hm:l8 x_ xw kN r):S 207 [iV x_,iV xw,iV kN] [] (.bool r) [] :=sp Tryz.func207 rfl<|by cases hm;exact re
theorem Ot {b_:bf} {n_:aL} {fM:Int} {r:Int} (hm:tO b_ n_ fM r):S 158 [gZ b_,qM n_,iV fM] [] (iV r) [] :=sp Tryz.func158 rfl<|si hm (fun _ hm=>by cases hm;exact re) fun _ hm=>lf hm (fun g1=>⟨[(2,iV fM),(3,.ptr 0 0 0),(4,.ptr 1 0 0),(35,dY n_.bP),(36,iV (n_.bP.length:Int)),(37,iV g1)],[(0,some (.box [bn b_.bQ,aT b_.bI,iV b_.aP.bG,bg b_.aP.av,bZ b_.aY,bO b_.dh])),(1,some (.box [dY n_.bP,eF n_.d9,eZ n_.ak,aD n_.aY,iV n_.fq,aD n_.aW]))],2⟩) [(1,some 8)] [] <|fun aj g1 hm=>si hm (fun _ hm=>s2 hm fun _ _ hm=>sq hm iY fun v3 hm=>si hm (fun _ hm=>by cases hm;exact re) fun _ hm=>sn hm fun _ hm=>le hm) fun _ hm=>l0 hm (fun g2=>⟨[(2,iV fM),(3,.ptr 0 0 0),(4,.ptr 1 0 0),(68,eF n_.d9),(69,iV (n_.d9.length:Int)),(70,iV g2)],[(0,some (.box [bn b_.bQ,aT b_.bI,iV b_.aP.bG,bg b_.aP.av,bZ b_.aY,bO b_.dh])),(1,some (.box [dY n_.bP,eF n_.d9,eZ n_.ak,aD n_.aY,iV n_.fq,aD n_.aW]))],2⟩) <|fun cO g2 hm=>si hm (fun _ hm=>s2 hm fun _ _ hm=>sq hm iY fun v8 hm=>sb hm fun v9 SB hm=>cl (fun q0=>(iY (SB q0)))<|si hm (fun _ hm=>by cases hm;exact re) fun _ hm=>sn hm fun _ hm=>le hm) fun _ hm=>l0 hm (fun g3=>⟨[(2,iV fM),(3,.ptr 0 0 0),(4,.ptr 1 0 0),(107,eZ n_.ak),(108,iV (n_.ak.length:Int)),(109,iV g3)],[(0,some (.box [bn b_.bQ,aT b_.bI,iV b_.aP.bG,bg b_.aP.av,bZ b_.aY,bO b_.dh])),(1,some (.box [dY n_.bP,eF n_.d9,eZ n_.ak,aD n_.aY,iV n_.fq,aD n_.aW]))],2⟩) <|fun iy g3 hm=>si hm (fun _ hm=>sn hm fun _ hm=>sq hm rW fun v12 hm=>si hm (fun _ hm=>by cases hm;exact re) fun _ hm=>sn hm fun _ hm=>le hm) fun _ hm=>l0 hm (fun g4=>⟨[(2,iV fM),(3,.ptr 0 0 0),(4,.ptr 1 0 0),(118,aD n_.aY),(119,iV (n_.aY.length:Int)),(120,iV g4)],[(0,some (.box [bn b_.bQ,aT b_.bI,iV b_.aP.bG,bg b_.aP.av,bZ b_.aY,bO b_.dh])),(1,some (.box [dY n_.bP,eF n_.d9,eZ n_.ak,aD n_.aY,iV n_.fq,aD n_.aW]))],2⟩) <|fun gL g4 hm=>si hm (fun _ hm=>s2 hm fun _ _ hm=>sq hm iY fun v15 hm=>si hm (fun _ hm=>by cases hm;exact re) fun _ hm=>sn hm fun _ hm=>le hm) fun _ hm=>sn hm fun _ hm=>sq hm iY fun v16 hm=>si hm (fun _ hm=>by cases hm;exact re) fun _ hm=>lf hm (fun g5=>⟨[(2,iV fM),(4,.ptr 0 0 0),(141,aD n_.aW),(142,iV (n_.aW.length:Int)),(143,iV g5)],[(0,some (.box [dY n_.bP,eF n_.d9,eZ n_.ak,aD n_.aY,iV n_.fq,aD n_.aW]))],1⟩) [(0,some 1)] [] <|fun iF g5 hm=>si hm (fun _ hm=>s2 hm fun _ _ hm=>sq hm iY fun v19 hm=>si hm (fun _ hm=>by cases hm;exact re) fun _ hm=>sn hm fun _ hm=>le hm) fun _ hm=>l0 hm (fun g6=>⟨[(4,.ptr 0 0 0),(17,iV g6)],[(0,some (.box [dY n_.bP,eF n_.d9,eZ n_.ak,aD n_.aY,iV n_.fq,aD n_.aW]))],1⟩) <|fun gU g6 hm=>si hm (fun _ hm=>s2 hm fun _ _ hm=>sn hm fun _ hm=>si hm (fun _ hm=>by cases hm;exact re) fun _ hm=>sn hm fun _ hm=>le hm) fun _ hm=>by cases hm;exact re
theorem Fz {b_:bf} {l_:(List aL)} {r:Int} (hm:pW b_ l_ r):S 110 [gZ b_,dI l_] [] (iV r) [] :=sp Tryz.func110 rfl<|sq hm C9 fun v1 hm=>si hm (fun _ hm=>by cases hm;exact re) fun _ hm=>si hm (fun _ hm=>by cases hm;exact re) fun _ hm=>l0 hm (fun g1=>⟨[(1,dI l_),(2,.ptr 0 0 0),(17,dI l_),(18,iV (l_.length:Int)),(19,iV g1)],[(0,some (.box [bn b_.bQ,aT b_.bI,iV b_.aP.bG,bg b_.aP.av,bZ b_.aY,bO b_.dh]))],1⟩) <|fun aj g1 hm=>si hm (fun _ hm=>sn hm fun _ hm=>sq hm Ot fun v4 hm=>si hm (fun _ hm=>by cases hm;exact re) fun _ hm=>sn hm fun _ hm=>le hm) fun _ hm=>by cases hm;exact re
theorem MN {b_:bf} {l_:(List aL)} {ah:(List Int)} {r:Int} (hm:z8 b_ l_ ah r):S 61 [gZ b_,dI l_,aD ah] [] (iV r) [] :=sp Tryz.func61 rfl<|sq hm Fz fun v1 hm=>si hm (fun _ hm=>by cases hm;exact re) fun _ hm=>l0 hm (fun g1=>⟨[(1,dI l_),(2,aD ah),(16,aD ah),(17,iV (ah.length:Int)),(18,iV g1)],[],0⟩) <|fun aj g1 hm=>si hm (fun _ hm=>s2 hm fun _ _ hm=>sb hm fun v4 hv4 hm=>cl (fun q0=>((eY (hv4 q0)).le ⟨(.sl oz (fun _=>rfl) nofun (jI (f:=iV) (d:=0) (by first | omega | exact Nat.min_le_left _ _ | exact Nat.le_trans (Nat.min_le_left _ _) om | (simp; omega)))),.refl _,trivial⟩ trivial))<|si hm (fun _ hm=>by cases hm;exact re) fun _ hm=>sn hm fun _ hm=>le hm) fun _ hm=>by cases hm;exact re
theorem Ib {l_:(List aL)} {ah:(List Int)} {r:Bool} (hm:pz l_ ah r):S 210 [dI l_,aD ah] [] (.bool r) [] :=sp Tryz.func210 rfl<|l0 hm (fun g1=>⟨[(0,dI l_),(1,aD ah),(7,aD ah),(8,iV (ah.length:Int)),(9,iV g1)],[],0⟩) <|fun aj g1 hm=>si hm (fun _ hm=>s2 hm fun _ _ hm=>sq hm iY fun v5 hm=>sn hm fun _ hm=>sb hm fun v6 hv6 hm=>cl (fun q0=>((eY (hv6 q0)).le ⟨(.sl oz (fun _=>rfl) nofun (jI (f:=iV) (d:=0) (by first | omega | exact Nat.min_le_left _ _ | exact Nat.le_trans (Nat.min_le_left _ _) om | (simp; omega)))),.refl _,trivial⟩ trivial))<|si hm (fun _ hm=>by cases hm;exact re) fun _ hm=>sn hm fun _ hm=>le hm) fun _ hm=>by cases hm;exact re
theorem Ea {s_:fO} {r:Bool} (hm:mO s_ r):S 167 [Dw s_] [] (.bool r) [] :=sp Tryz.func167 rfl<|sq hm Ib fun v1 hm=>si hm (fun _ hm=>by cases hm;exact re) fun _ hm=>lf hm (fun g1=>⟨[(1,.ptr 0 0 0),(4,.ptr 1 0 0),(67,bn s_.bD.bQ),(68,iV (s_.bD.bQ.length:Int)),(69,iV g1)],[(0,some (.box [bn s_.bD.bQ,aT s_.bD.bI,iV s_.bD.aP.bG,bg s_.bD.aP.av,bZ s_.bD.aY,bO s_.bD.dh,dI s_.cZ,aD s_.aO,aD s_.aV.dF,aU s_.aV.eD.On,aD s_.aV.eD.dQ,dG s_.aV.bX,aU s_.aV.dV,aU s_.aV.eG,.bool s_.iD])),(1,some (.box [aD s_.aV.dF,aU s_.aV.eD.On,aD s_.aV.eD.dQ,dG s_.aV.bX,aU s_.aV.dV,aU s_.aV.eG]))],2⟩) [(1,some 56)] [] <|fun aj g1 hm=>si hm (fun _ hm=>s2 hm fun _ _ hm=>sn hm fun _ hm=>sq hm iY fun v4 hm=>si hm (fun _ hm=>by cases hm;exact re) fun _ hm=>sn hm fun _ hm=>le hm) fun _ hm=>l0 hm (fun g2=>⟨[(1,.ptr 0 0 0),(87,dG s_.aV.bX),(88,iV (s_.aV.bX.length:Int)),(89,iV g2)],[(0,some (.box [bn s_.bD.bQ,aT s_.bD.bI,iV s_.bD.aP.bG,bg s_.bD.aP.av,bZ s_.bD.aY,bO s_.bD.dh,dI s_.cZ,aD s_.aO,aD s_.aV.dF,aU s_.aV.eD.On,aD s_.aV.eD.dQ,dG s_.aV.bX,aU s_.aV.dV,aU s_.aV.eG,.bool s_.iD]))],1⟩) <|fun cO g2 hm=>si hm (fun _ hm=>s2 hm fun _ _ hm=>sq hm iY fun v7 hm=>si hm (fun _ hm=>by cases hm;exact re) fun _ hm=>sn hm fun _ hm=>le hm) fun _ hm=>by cases hm;exact re
theorem wX {l_:(List aH)} {s_:(List Int)} {r:(List bH)} (hm:nE l_ s_ r):S 225 [bn l_,aD s_] [] (mZ r) [] :=sp Tryz.func225 rfl<|sn hm fun _ hm=>lf hm (fun g1=>⟨[(0,bn l_),(1,aD s_),(5,.osl 0 0 g1.2.length false),(13,bn l_),(14,iV (l_.length:Int)),(15,iV g1.1)],[(0,some (.row 2 g1.2.length (rowG l7 dO g1.2)))],1⟩) [(0,some 24)] [] <|fun aj g1 hm=>si hm (fun _ hm=>s2 hm fun _ _ hm=>sn hm fun _ hm=>sq hm AU fun v7 hm=>si hm (fun _ hm=>s2 hm fun _ _ hm=>le hm) fun _ hm=>sn hm fun _ hm=>si hm (fun _ hm=>s2 hm fun _ _ hm=>le hm) fun _ hm=>si hm (fun _ hm=>sn hm fun _ hm=>sq hm H9 fun v8 hm=>s2 hm fun _ _ hm=>le hm) fun _ hm=>si hm (fun _ hm=>sn hm fun _ hm=>sq hm Fy fun v9 hm=>s2 hm fun _ _ hm=>le hm) fun _ hm=>s2 hm fun _ _ hm=>sn hm fun _ hm=>le hm) fun _ hm=>by cases hm;exact rt [0] []
theorem Kw {x_:bK} {l6:(List bH)} {r:Bool} (hm:oQ x_ l6 r):S 234 [tC x_,.ro [mZ l6]] [] (.bool r) [] :=sp Tryz.func234 rfl<|s2 hm fun _ _ hm=>sb hm fun v1 hv1 hm=>cl (fun q0=>(uj (hv1 q0)))<|by cases hm;exact re
theorem qJ {s_:(List bK)} {f_:(List bH)} {r:Int} (hm:l9 s_ f_ r):S 241 [dY s_,.fn 234 [.ro [mZ f_]]] [] (iV r) [] :=sp Tryz.func241 rfl<|l0 hm (fun g1=>⟨[(0,dY s_),(1,.fn 234 [.ro [mZ f_]]),(7,iV (s_.length:Int)),(8,iV g1)],[],0⟩) <|fun aj g1 hm=>si hm (fun _ hm=>sn hm fun _ hm=>sq hm Kw fun v3 hm=>si hm (fun _ hm=>by cases hm;exact re) fun _ hm=>sn hm fun _ hm=>le hm) fun _ hm=>by cases hm;exact re
theorem oN {s_:(List bK)} {f_:(List bH)} {r:Bool} (hm:iK s_ f_ r):S 222 [dY s_,.fn 234 [.ro [mZ f_]]] [] (.bool r) [] :=sp Tryz.func222 rfl<|sq hm qJ fun v1 hm=>by cases hm;exact re
theorem MO {l_:(List aH)} {s_:(List Int)} {m_:(List bK)} {r:Bool} (hm:Ac l_ s_ m_ r):S 211 [bn l_,aD s_,dY m_] [] (.bool r) [] :=sp Tryz.func211 rfl<|sq hm AQ fun v1 hm=>sb hm fun v2 hv2 hm=>cl (fun q0=>(qc (hv2 q0)))<|si hm (fun _ hm=>by cases hm;exact re) fun _ hm=>sq hm wX fun v3 hm=>lf hm (fun g1=>⟨[(2,dY m_),(7,.ptr 0 0 0),(23,bn l_),(24,iV (l_.length:Int)),(25,iV g1)],[(0,some (.box [mZ v3]))],1⟩) [(0,some 112)] [] <|fun aj g1 hm=>si hm (fun _ hm=>s2 hm fun _ _ hm=>sn hm fun _ hm=>sb hm fun v6 hv6 hm=>cl (fun q0=>(uj (hv6 q0)))<|si hm (fun _ hm=>by cases hm;exact re) fun _ hm=>sn hm fun _ hm=>le hm) fun _ hm=>sq hm oN fun v7 hm=>by cases hm;exact re
theorem Da {s_:fO} {r:Bool} (hm:lM s_ r):S 168 [Dw s_] [] (.bool r) [] :=sp Tryz.func168 rfl<|sb hm fun v1 hv1 hm=>cl ((MO hv1).le ⟨.refl _,.refl _,(.sl rfl (fun h=>absurd rfl h) nofun (fun _ h=>absurd h (Nat.not_lt_zero _))),trivial⟩ trivial)<|by cases hm;exact re
theorem Jp {l_:(List aH)} {s_:(List Int)} {r:((List bH)×Int)} (hm:ru l_ s_ r):S 186 [bn l_,aD s_] [] (.tup [mZ r.1,iV r.2]) [] :=sp Tryz.func186 rfl<|sq hm kU fun v1 hm=>si hm (fun _ hm=>by cases hm;exact re) fun _ hm=>sq hm qc fun v2 hm=>si hm (fun _ hm=>by cases hm;exact re) fun _ hm=>sq hm wX fun v3 hm=>by cases hm;exact re
theorem Db {s_:fO} {r:Bool} (hm:lN s_ r):S 169 [Dw s_] [] (.bool r) [] :=sp Tryz.func169 rfl<|sq hm Jp fun v1 hm=>si hm (fun _ hm=>by cases hm;exact re) fun _ hm=>l0 hm (fun g1=>⟨[(1,.ptr 0 0 0),(3,mZ v1.1),(23,aD s_.aO),(24,iV (s_.aO.length:Int)),(25,iV g1)],[(0,some (.box [bn s_.bD.bQ,aT s_.bD.bI,iV s_.bD.aP.bG,bg s_.bD.aP.av,bZ s_.bD.aY,bO s_.bD.dh,dI s_.cZ,aD s_.aO,aD s_.aV.dF,aU s_.aV.eD.On,aD s_.aV.eD.dQ,dG s_.aV.bX,aU s_.aV.dV,aU s_.aV.eG,.bool s_.iD]))],1⟩) <|fun aj g1 hm=>si hm (fun _ hm=>s2 hm fun _ _ hm=>l0 hm (fun g4=>⟨[(1,.ptr 0 0 0),(3,mZ v1.1),(23,aD s_.aO),(24,iV (s_.aO.length:Int)),(25,iV g1),(34,dY ((s_.cZ.getD ((s_.aO.getD g1.toNat 0).toNat) bB).bP)),(35,iV ((((s_.cZ.getD ((s_.aO.getD g1.toNat 0).toNat) bB).bP).length:Nat):Int)),(36,iV g4)],[(0,some (.box [bn s_.bD.bQ,aT s_.bD.bI,iV s_.bD.aP.bG,bg s_.bD.aP.av,bZ s_.bD.aY,bO s_.bD.dh,dI s_.cZ,aD s_.aO,aD s_.aV.dF,aU s_.aV.eD.On,aD s_.aV.eD.dQ,dG s_.aV.bX,aU s_.aV.dV,aU s_.aV.eG,.bool s_.iD]))],1⟩) <|fun gL g4 hm=>si hm (fun _ hm=>s2 hm fun _ _ hm=>s2 hm fun _ _ hm=>si hm (fun _ hm=>by cases hm;exact re) fun _ hm=>sn hm fun _ hm=>le hm) fun _ hm=>sn hm fun _ hm=>le hm) fun _ hm=>by cases hm;exact re
theorem lZ {s_:(List Bool)} {r:(List Bool)} (hm:jr s_ r):S 103 [aU s_] [] (.osl 0 0 r.length false) [.row 1 r.length (rowG AV.bool false r)] :=by
 obtain ⟨h1,hm⟩:=hm
 have hm:r=s_:=hm
 subst hm
 refine kF (ct:=[1]) cfgOK Tryz.func103 rfl rfl (Nat.le_of_ble_eq_true rfl) dk (Nat.le_of_ble_eq_true rfl) ?_
 (conv=>whnf)
 refine Pb (ct:=[]) cfgOK (cfgOK.slice (t:=36) (e:=4) rfl rfl rfl).1 dk dk dk dk dk [(2,.sl 0 0 true nilG),(0,aU r)] [] 8 rfl ?_ (fun hn=>?_) ?_
 ·exact rfl
 ·(conv=>whnf)
  have hn:r.length=0:=hn
  refine ⟨[],[(0,none)],?_⟩
  (conv=>whnf)
  exact ⟨⟨rfl,trivial,⟨hn,trivial⟩⟩,⟨rfl,rfl,rfl,rfl,rfl,hn⟩⟩
 ·(conv=>whnf)
  refine ⟨by rw [Nat.zero_add]; exact h1,?_⟩
  (conv=>whnf)
  refine ⟨[],[(0,some 24)],?_⟩
  (conv=>whnf)
  exact ⟨⟨rfl,trivial,⟨⟨rfl,Nat.zero_add _,iC (l:=[]) rfl (fun _ h=>absurd h (Nat.not_lt_zero _)) rfl (fun _ _=>.refl _)⟩,trivial⟩⟩,⟨rfl,rfl,rfl,Nat.zero_add _,nofun⟩⟩
theorem kH {s_:(List Int)} {r:(List Int)} (hm:iI s_ r):S 47 [aD s_] [] (.osl 0 0 r.length false) [.row 1 r.length (rowG iV 0 r)] :=by
 obtain ⟨h1,hm⟩:=hm
 have hm:r=s_:=hm
 subst hm
 refine kF (ct:=[1]) cfgOK Tryz.func47 rfl rfl (Nat.le_of_ble_eq_true rfl) dk (Nat.le_of_ble_eq_true rfl) ?_
 (conv=>whnf)
 refine Pb (ct:=[]) cfgOK (cfgOK.slice (t:=22) (e:=3) rfl rfl rfl).1 dk dk dk dk dk [(2,.sl 0 0 true nilG),(0,aD r)] [] 8 rfl ?_ (fun hn=>?_) ?_
 ·exact rfl
 ·(conv=>whnf)
  have hn:r.length=0:=hn
  refine ⟨[],[(0,none)],?_⟩
  (conv=>whnf)
  exact ⟨⟨rfl,trivial,⟨hn,trivial⟩⟩,⟨rfl,rfl,rfl,rfl,rfl,hn⟩⟩
 ·(conv=>whnf)
  refine ⟨by rw [Nat.zero_add]; exact h1,?_⟩
  (conv=>whnf)
  refine ⟨[],[(0,some 24)],?_⟩
  (conv=>whnf)
  exact ⟨⟨rfl,trivial,⟨⟨rfl,Nat.zero_add _,iC (l:=[]) rfl (fun _ h=>absurd h (Nat.not_lt_zero _)) rfl (fun _ _=>.refl _)⟩,trivial⟩⟩,⟨rfl,rfl,rfl,Nat.zero_add _,nofun⟩⟩
theorem Ic {r_:dB} {r:dB} (hm:Cn r_ r):S 101 [Bl r_] [] (Bl r) [] :=sp Tryz.func101 rfl<|sq hm lZ fun v1 hm=>sq hm kH fun v2 hm=>by cases hm;exact rt [32,56] []
theorem zN {s_:fO} {r:Bool} (hm:j6 s_ r):S 170 [Dw s_] [] (.bool r) [] :=sp Tryz.func170 rfl<|lf hm (fun g1=>⟨[(1,.ptr 0 0 0),(3,.osl 1 0 g1.2.length false),(7,aD s_.aO),(8,iV (s_.aO.length:Int)),(9,iV g1.1)],[(0,some (.box [bn s_.bD.bQ,aT s_.bD.bI,iV s_.bD.aP.bG,bg s_.bD.aP.av,bZ s_.bD.aY,bO s_.bD.dh,dI s_.cZ,aD s_.aO,aD s_.aV.dF,aU s_.aV.eD.On,aD s_.aV.eD.dQ,dG s_.aV.bX,aU s_.aV.dV,aU s_.aV.eG,.bool s_.iD])),(1,some (.row 4 g1.2.length (rowG Ca dD g1.2)))],2⟩) [(1,none)] [] <|fun aj g1 hm=>si hm (fun _ hm=>s2 hm fun _ _ hm=>s2 hm fun _ _ hm=>lc [(1,some 90)] [] hm) fun _ hm=>sq hm Ic fun v1 hm=>sq hm AY fun v2 hm=>by cases hm;exact re
theorem MP {p_:aX} {l_:(List jH)} {r:((Nat→Int)×Int)} (hm:Ad p_ l_ r):S 235 [jq p_,Jw l_] [] (.tup [Yu r.1,iV r.2]) [] :=sp Tryz.func235 rfl<|lf hm (fun g1=>⟨[(1,Jw l_),(2,.ptr 0 0 0),(4,.ptr 1 0 0),(6,.ptr 2 0 0),(13,iV g1.1)],[(0,some (.box [iV p_.bG,bg p_.av])),(1,some (.row 1 64 (FJ iV g1.2.1))),(2,some (.row 1 64 (FJ iV g1.2.2)))],3⟩) [(1,some 8),(2,some 24)] [] <|fun aj g1 hm=>si hm (fun _ hm=>s2 hm fun _ _ hm=>le hm) fun _ hm=>sq hm pK fun v1 hm=>si hm (fun _ hm=>by cases hm;exact re) fun _ hm=>sn hm fun _ hm=>lf hm (fun g2=>⟨[(2,.ptr 0 0 0),(4,.ptr 1 0 0),(6,.ptr 2 0 0),(8,.osl 3 0 g2.2.2.length false),(27,Jw l_),(28,iV (l_.length:Int)),(29,iV g2.1)],[(0,some (.box [iV p_.bG,bg p_.av])),(1,some (.row 1 64 (FJ iV g1.2.1))),(2,some (.row 1 64 (FJ iV g2.2.1))),(3,some (.row 1 g2.2.2.length (rowG AV.bool false g2.2.2)))],4⟩) [(3,some 59)] [] <|fun cO g2 hm=>si hm (fun _ hm=>s2 hm fun _ _ hm=>si hm (fun _ hm=>by cases hm;exact re) fun _ hm=>sn hm fun _ hm=>si hm (fun _ hm=>by cases hm;exact re) fun _ hm=>s2 hm fun _ _ hm=>lf hm (fun g5=>⟨[(2,.ptr 0 0 0),(4,.ptr 1 0 0),(6,.ptr 2 0 0),(8,.osl 3 0 g5.2.2.length false),(10,.ptr 4 0 0),(27,Jw l_),(28,iV (l_.length:Int)),(29,iV g2.1),(79,aD ((p_.av.getD (((l_.getD g2.1.toNat eT).bU).toNat) ay).bG)),(80,iV ((((p_.av.getD (((l_.getD g2.1.toNat eT).bU).toNat) ay).bG).length:Nat):Int)),(81,iV g5.1)],[(0,some (.box [iV p_.bG,bg p_.av])),(1,some (.row 1 64 (FJ iV g1.2.1))),(2,some (.row 1 64 (FJ iV g5.2.1))),(3,some (.row 1 g5.2.2.length (rowG AV.bool false g5.2.2))),(4,some (.box [iV ((l_.getD g2.1.toNat eT).bU),iV ((l_.getD g2.1.toNat eT).fJ)]))],5⟩) [(4,some 28)] [] <|fun iF g5 hm=>si hm (fun _ hm=>s2 hm fun _ _ hm=>si hm (fun _ hm=>by cases hm;exact re) fun _ hm=>s2 hm fun _ _ hm=>le hm) fun _ hm=>sn hm fun _ hm=>le hm) fun _ hm=>by cases hm;exact re
theorem BS {s_:Nat} {dz:(List Int)} {r:(List Int)} (hm:kJ s_ dz r):S 47 [.osl 0 0 s_ false] [.row 1 dz.length (rowG iV 0 dz)] (.osl 1 0 r.length false) [.row 1 dz.length (rowG iV 0 dz),.row 1 r.length (rowG iV 0 r)] :=by
 obtain ⟨⟨h0,h1⟩,hm⟩:=hm
 have hm:r=dz.take s_:=hm
 have hl:r.length=s_:=by rw [hm,List.length_take]; omega
 refine kF (ct:=[1]) cfgOK Tryz.func47 rfl rfl (Nat.le_of_ble_eq_true rfl) dk (Nat.le_of_ble_eq_true rfl) ?_
 (conv=>whnf)
 refine J3 (ct:=[]) cfgOK (cfgOK.slice (t:=22) (e:=3) rfl rfl rfl).1 dk dk dk dk dk [(2,.sl 0 0 true nilG),(0,.osl 0 0 s_ false)] [(0,some (.row 1 dz.length (rowG iV 0 dz)))] 9 rfl rfl ?_ (fun hn=>?_) ?_
 ·exact rfl
 ·(conv=>whnf)
  have hn:r.length=0:=hl.trans hn
  refine ⟨[],[(1,none)],?_⟩
  (conv=>whnf)
  exact ⟨⟨rfl,trivial,⟨⟨rfl,rfl,fun _ _=>.refl _⟩,hn,trivial⟩⟩,⟨rfl,rfl,rfl,rfl,rfl,hn⟩⟩
 ·(conv=>whnf)
  refine ⟨by rw [Nat.zero_add]; exact h1,?_⟩
  (conv=>whnf)
  refine ⟨[],[(1,some 25)],?_⟩
  (conv=>whnf)
  subst hm
  exact ⟨⟨rfl,trivial,⟨⟨rfl,rfl,fun _ _=>.refl _⟩,⟨rfl,(Nat.zero_add _).trans hl.symm,iC (l:=[]) rfl (fun _ h=>absurd h (Nat.not_lt_zero _)) hl.symm (jI (f:=iV) (d:=0) h0)⟩,trivial⟩⟩,⟨rfl,rfl,rfl,(Nat.zero_add _).trans hl.symm,nofun⟩⟩
theorem MQ {p_:aX} {l_:(List jH)} {r:((List Int)×Int)} (hm:Ae p_ l_ r):S 212 [jq p_,Jw l_] [] (.tup [aD r.1,iV r.2]) [] :=Rl [4,6] Tryz.func212 rfl<|sq hm MP fun v1 hm=>ck [4,6] (yM p_) r (fun g1=>⟨[(2,.ptr 0 0 0),(6,.ptr 1 0 0)],[(0,some (.box [iV p_.bG,bg p_.av])),(1,some (.row 1 64 (FJ iV g1)))],2⟩) (si hm (fun _ hm=>by cases hm;exact re) fun _ hm=>lce [(1,some 72)] [] hm ⟨rfl,⟨r4,r4,trivial⟩,⟨⟨r2,sr,trivial⟩,⟨rfl,rfl,(RP (f:=iV) (X:=v1.1) (n:=64) (fun _=>rfl))⟩,trivial⟩⟩) fun g1 hm=>sn hm fun _ hm=>sb hm fun v2 hv2 hm=>cl ((BS hv2).le ⟨.refl _,trivial⟩ ⟨⟨rfl,oz,(Yt (f:=iV) (X:=g1))⟩,trivial⟩)<|by cases hm;exact rt [26] []
theorem FZ {s_:fO} {r:Bool} (hm:nP s_ r):S 171 [Dw s_] [] (.bool r) [] :=sp Tryz.func171 rfl<|lf hm (fun g1=>⟨[(1,.ptr 0 0 0),(3,.osl 1 0 g1.2.length false),(10,dG s_.aV.bX),(11,iV (s_.aV.bX.length:Int)),(12,iV g1.1)],[(0,some (.box [bn s_.bD.bQ,aT s_.bD.bI,iV s_.bD.aP.bG,bg s_.bD.aP.av,bZ s_.bD.aY,bO s_.bD.dh,dI s_.cZ,aD s_.aO,aD s_.aV.dF,aU s_.aV.eD.On,aD s_.aV.eD.dQ,dG s_.aV.bX,aU s_.aV.dV,aU s_.aV.eG,.bool s_.iD])),(1,some (.row 2 g1.2.length (rowG Xh eT g1.2)))],2⟩) [(1,none)] [] <|fun aj g1 hm=>si hm (fun _ hm=>s2 hm fun _ _ hm=>sn hm fun _ hm=>lc [(1,some 74)] [] hm) fun _ hm=>sq hm MQ fun v1 hm=>by cases hm;exact re
theorem zy {s_:fO} {r:Bool} (hm:jQ s_ r):S 172 [Dw s_] [] (.bool r) [] :=sp Tryz.func172 rfl<|l0 hm (fun g1=>⟨[(1,.ptr 0 0 0),(11,aD s_.aO),(12,iV (s_.aO.length:Int)),(13,iV g1)],[(0,some (.box [bn s_.bD.bQ,aT s_.bD.bI,iV s_.bD.aP.bG,bg s_.bD.aP.av,bZ s_.bD.aY,bO s_.bD.dh,dI s_.cZ,aD s_.aO,aD s_.aV.dF,aU s_.aV.eD.On,aD s_.aV.eD.dQ,dG s_.aV.bX,aU s_.aV.dV,aU s_.aV.eG,.bool s_.iD]))],1⟩) <|fun aj g1 hm=>si hm (fun _ hm=>sn hm fun _ hm=>lf hm (fun g6=>⟨[(1,.ptr 0 0 0),(4,iV (s_.aO.getD g1.toNat 0)),(5,.mref 1),(11,aD s_.aO),(12,iV (s_.aO.length:Int)),(13,iV g1),(20,dG s_.aV.bX),(21,iV (s_.aV.bX.length:Int)),(22,iV g6.1)],[(0,some (.box [bn s_.bD.bQ,aT s_.bD.bI,iV s_.bD.aP.bG,bg s_.bD.aP.av,bZ s_.bD.aY,bO s_.bD.dh,dI s_.cZ,aD s_.aO,aD s_.aV.dF,aU s_.aV.eD.On,aD s_.aV.eD.dQ,dG s_.aV.bX,aU s_.aV.dV,aU s_.aV.eG,.bool s_.iD])),(1,some (.map .str [(.int .i64)] g6.2))],2⟩) [(1,some 33)] [] <|fun gU g6 hm=>si hm (fun _ hm=>sn hm fun _ hm=>si hm (fun _ hm=>s2 hm fun _ _ hm=>s2 hm fun _ _ hm=>le hm) fun _ hm=>sn hm fun _ hm=>le hm) fun _ hm=>sn hm fun _ hm=>l0 hm (fun g7=>⟨[(1,.ptr 0 0 0),(5,.mref 1),(11,aD s_.aO),(12,iV (s_.aO.length:Int)),(13,iV g1),(54,eZ ((s_.cZ.getD ((s_.aO.getD g1.toNat 0).toNat) bB).ak)),(55,iV ((((s_.cZ.getD ((s_.aO.getD g1.toNat 0).toNat) bB).ak).length:Nat):Int)),(56,iV g7.1)],[(0,some (.box [bn s_.bD.bQ,aT s_.bD.bI,iV s_.bD.aP.bG,bg s_.bD.aP.av,bZ s_.bD.aY,bO s_.bD.dh,dI s_.cZ,aD s_.aO,aD s_.aV.dF,aU s_.aV.eD.On,aD s_.aV.eD.dQ,dG s_.aV.bX,aU s_.aV.dV,aU s_.aV.eG,.bool s_.iD])),(1,some (.map .str [(.int .i64)] g7.2))],2⟩) <|fun jU g7 hm=>si hm (fun _ hm=>s2 hm fun _ _ hm=>si hm (fun _ hm=>by cases hm;exact re) fun _ hm=>sn hm fun _ hm=>le hm) fun _ hm=>sn hm fun _ hm=>le hm) fun _ hm=>by cases hm;exact re
theorem LA {l_:(List dN)} {dA:(List Bool)} {r:Bool} (hm:xK l_ dA r):S 236 [bZ l_,aU dA] [] (.bool r) [] :=sp Tryz.func236 rfl<|si hm (fun _ hm=>by cases hm;exact re) fun _ hm=>l0 hm (fun g1=>⟨[(1,aU dA),(14,bZ l_),(15,iV (l_.length:Int)),(16,iV g1)],[],0⟩) <|fun aj g1 hm=>si hm (fun _ hm=>sn hm fun _ hm=>l0 hm (fun g4=>⟨[(1,aU dA),(5,iV g1),(14,bZ l_),(15,iV (l_.length:Int)),(16,iV g1),(22,aD ((l_.getD g1.toNat bV).dK)),(23,iV ((((l_.getD g1.toNat bV).dK).length:Nat):Int)),(24,iV g4)],[],0⟩) <|fun gL g4 hm=>si hm (fun _ hm=>s2 hm fun _ _ hm=>sn hm fun _ hm=>si hm (fun _ hm=>by cases hm;exact re) fun _ hm=>sn hm fun _ hm=>le hm) fun _ hm=>sn hm fun _ hm=>le hm) fun _ hm=>by cases hm;exact re
theorem LB {l_:(List dN)} {dA:(List Bool)} {r:Bool} (hm:xL l_ dA r):S 213 [bZ l_,aU dA] [] (.bool r) [] :=sp Tryz.func213 rfl<|sq hm ug fun v1 hm=>sb hm fun v2 hv2 hm=>cl (fun q0=>(LA (hv2 q0)))<|by cases hm;exact re
theorem zO {Gn:Int} {vK:(List aH)} {pV:(List aG)} {Pj:Int} {Pk:(List bR)} {Pm:(List dN)} {Pn:(List dx)} {Bz:(List aL)} {Po:(List Int)} {Pp:(List Int)} {Pq:(List Bool)} {Gp:(List Int)} {Gq:(List aS)} {yN:(List Bool)} {yO:(List Bool)} {Gr:Bool} {r:Bool} (hm:jg Gn vK pV Pj Pk Pm Pn Bz Po Pp Pq Gp Gq yN yO Gr r):S 214 [iV Gn,.ro [bn vK,aT pV,iV Pj,bg Pk,bZ Pm,bO Pn,dI Bz,aD Po,aD Pp,aU Pq,aD Gp,dG Gq,aU yN,aU yO,.bool Gr]] [] (.bool r) [] :=sp Tryz.func214 rfl<|sn hm fun _ hm=>by cases hm;exact re
theorem wB {s_:(List Int)} {vM:(List aH)} {wI:(List aG)} {wJ:Int} {J5:(List bR)} {J6:(List dN)} {J7:(List dx)} {FK:(List aL)} {J8:(List Int)} {J9:(List Int)} {Ka:(List Bool)} {pX:(List Int)} {pY:(List aS)} {nQ:(List Bool)} {nR:(List Bool)} {p8:Bool} {r:Int} (hm:qw s_ vM wI wJ J5 J6 J7 FK J8 J9 Ka pX pY nQ nR p8 r):S 130 [aD s_,.fn 214 [.ro [bn vM,aT wI,iV wJ,bg J5,bZ J6,bO J7,dI FK,aD J8,aD J9,aU Ka,aD pX,dG pY,aU nQ,aU nR,.bool p8]]] [] (iV r) [] :=sp Tryz.func130 rfl<|l0 hm (fun g1=>⟨[(0,aD s_),(1,.fn 214 [.ro [bn vM,aT wI,iV wJ,bg J5,bZ J6,bO J7,dI FK,aD J8,aD J9,aU Ka,aD pX,dG pY,aU nQ,aU nR,.bool p8]]),(7,iV (s_.length:Int)),(8,iV g1)],[],0⟩) <|fun aj g1 hm=>si hm (fun _ hm=>sn hm fun _ hm=>sq hm zO fun v3 hm=>si hm (fun _ hm=>by cases hm;exact re) fun _ hm=>sn hm fun _ hm=>le hm) fun _ hm=>by cases hm;exact re
theorem sG {s_:(List Int)} {vM:(List aH)} {wI:(List aG)} {wJ:Int} {J5:(List bR)} {J6:(List dN)} {J7:(List dx)} {FK:(List aL)} {J8:(List Int)} {J9:(List Int)} {Ka:(List Bool)} {pX:(List Int)} {pY:(List aS)} {nQ:(List Bool)} {nR:(List Bool)} {p8:Bool} {r:Bool} (hm:jK s_ vM wI wJ J5 J6 J7 FK J8 J9 Ka pX pY nQ nR p8 r):S 200 [aD s_,.fn 214 [.ro [bn vM,aT wI,iV wJ,bg J5,bZ J6,bO J7,dI FK,aD J8,aD J9,aU Ka,aD pX,dG pY,aU nQ,aU nR,.bool p8]]] [] (.bool r) [] :=sp Tryz.func200 rfl<|sq hm wB fun v1 hm=>by cases hm;exact re
theorem Dc {s_:fO} {r:Bool} (hm:lQ s_ r):S 173 [Dw s_] [] (.bool r) [] :=sp Tryz.func173 rfl<|sq hm LB fun v1 hm=>si hm (fun _ hm=>by cases hm;exact re) fun _ hm=>l0 hm (fun g1=>⟨[(1,.ptr 0 0 0),(14,aD s_.aO),(15,iV (s_.aO.length:Int)),(16,iV g1)],[(0,some (.box [bn s_.bD.bQ,aT s_.bD.bI,iV s_.bD.aP.bG,bg s_.bD.aP.av,bZ s_.bD.aY,bO s_.bD.dh,dI s_.cZ,aD s_.aO,aD s_.aV.dF,aU s_.aV.eD.On,aD s_.aV.eD.dQ,dG s_.aV.bX,aU s_.aV.dV,aU s_.aV.eG,.bool s_.iD]))],1⟩) <|fun aj g1 hm=>si hm (fun _ hm=>s2 hm fun _ _ hm=>sq hm sG fun v4 hm=>si hm (fun _ hm=>by cases hm;exact re) fun _ hm=>sn hm fun _ hm=>le hm) fun _ hm=>by cases hm;exact re
theorem LC {l_:(List dx)} {mP:(List Bool)} {r:Bool} (hm:xM l_ mP r):S 237 [bO l_,aU mP] [] (.bool r) [] :=sp Tryz.func237 rfl<|si hm (fun _ hm=>by cases hm;exact re) fun _ hm=>l0 hm (fun g1=>⟨[(1,aU mP),(12,bO l_),(13,iV (l_.length:Int)),(14,iV g1)],[],0⟩) <|fun aj g1 hm=>si hm (fun _ hm=>s2 hm fun _ _ hm=>s2 hm fun _ _ hm=>si hm (fun _ hm=>by cases hm;exact re) fun _ hm=>sn hm fun _ hm=>le hm) fun _ hm=>by cases hm;exact re
theorem LD {l_:(List dx)} {mP:(List Bool)} {r:Bool} (hm:xO l_ mP r):S 215 [bO l_,aU mP] [] (.bool r) [] :=sp Tryz.func215 rfl<|sq hm rX fun v1 hm=>sb hm fun v2 hv2 hm=>cl (fun q0=>(LC (hv2 q0)))<|by cases hm;exact re
theorem zA {m_:Int} {vK:(List aH)} {pV:(List aG)} {Pj:Int} {Pk:(List bR)} {Pm:(List dN)} {Pn:(List dx)} {Bz:(List aL)} {Po:(List Int)} {Pp:(List Int)} {Pq:(List Bool)} {Gp:(List Int)} {Gq:(List aS)} {yN:(List Bool)} {yO:(List Bool)} {Gr:Bool} {r:Bool} (hm:iM m_ vK pV Pj Pk Pm Pn Bz Po Pp Pq Gp Gq yN yO Gr r):S 216 [iV m_,.ro [bn vK,aT pV,iV Pj,bg Pk,bZ Pm,bO Pn,dI Bz,aD Po,aD Pp,aU Pq,aD Gp,dG Gq,aU yN,aU yO,.bool Gr]] [] (.bool r) [] :=sp Tryz.func216 rfl<|s2 hm fun _ _ hm=>by cases hm;exact re
theorem wC {s_:(List Int)} {vM:(List aH)} {wI:(List aG)} {wJ:Int} {J5:(List bR)} {J6:(List dN)} {J7:(List dx)} {FK:(List aL)} {J8:(List Int)} {J9:(List Int)} {Ka:(List Bool)} {pX:(List Int)} {pY:(List aS)} {nQ:(List Bool)} {nR:(List Bool)} {p8:Bool} {r:Int} (hm:qx s_ vM wI wJ J5 J6 J7 FK J8 J9 Ka pX pY nQ nR p8 r):S 130 [aD s_,.fn 216 [.ro [bn vM,aT wI,iV wJ,bg J5,bZ J6,bO J7,dI FK,aD J8,aD J9,aU Ka,aD pX,dG pY,aU nQ,aU nR,.bool p8]]] [] (iV r) [] :=sp Tryz.func130 rfl<|l0 hm (fun g1=>⟨[(0,aD s_),(1,.fn 216 [.ro [bn vM,aT wI,iV wJ,bg J5,bZ J6,bO J7,dI FK,aD J8,aD J9,aU Ka,aD pX,dG pY,aU nQ,aU nR,.bool p8]]),(7,iV (s_.length:Int)),(8,iV g1)],[],0⟩) <|fun aj g1 hm=>si hm (fun _ hm=>sn hm fun _ hm=>sq hm zA fun v3 hm=>si hm (fun _ hm=>by cases hm;exact re) fun _ hm=>sn hm fun _ hm=>le hm) fun _ hm=>by cases hm;exact re
theorem sH {s_:(List Int)} {vM:(List aH)} {wI:(List aG)} {wJ:Int} {J5:(List bR)} {J6:(List dN)} {J7:(List dx)} {FK:(List aL)} {J8:(List Int)} {J9:(List Int)} {Ka:(List Bool)} {pX:(List Int)} {pY:(List aS)} {nQ:(List Bool)} {nR:(List Bool)} {p8:Bool} {r:Bool} (hm:jL s_ vM wI wJ J5 J6 J7 FK J8 J9 Ka pX pY nQ nR p8 r):S 200 [aD s_,.fn 216 [.ro [bn vM,aT wI,iV wJ,bg J5,bZ J6,bO J7,dI FK,aD J8,aD J9,aU Ka,aD pX,dG pY,aU nQ,aU nR,.bool p8]]] [] (.bool r) [] :=sp Tryz.func200 rfl<|sq hm wC fun v1 hm=>by cases hm;exact re
theorem BU {s_:fO} {r:Bool} (hm:kK s_ r):S 174 [Dw s_] [] (.bool r) [] :=sp Tryz.func174 rfl<|sq hm LD fun v1 hm=>si hm (fun _ hm=>by cases hm;exact re) fun _ hm=>sq hm sH fun v2 hm=>by cases hm;exact re
theorem Df {s_:fO} {r:Int} (hm:lS s_ r):S 120 [Dw s_] [] (iV r) [] :=sp Tryz.func120 rfl<|by
 refine TF 9 ?_
 refine lC (ct:=[]) cfgOK dk ?_
 (conv=>whnf)
 refine aZ hm fun h1 hm=>?_
 (conv=>whnf)
 refine fV hm fun v1 hv1 hm=>?_
 refine ⟨_,_,(Ea hv1),?_⟩
 (conv=>whnf)
 refine gI hm (fun c1 hm=>?_) (fun c1 hm=>?_)
 ·(conv=>whnf)
  refine aZ hm fun h2 hm=>?_
  (conv=>whnf)
  have hm:r=((0:Int)+(1:Int)):=hm
  subst hm
  refine ⟨[],[],?_⟩
  (conv=>whnf)
  exact ⟨⟨rfl,trivial,trivial⟩,r2⟩
 ·(conv=>whnf)
  refine aZ hm fun h3 hm=>?_
  (conv=>whnf)
  refine lC (ct:=[]) cfgOK dk ?_
  (conv=>whnf)
  refine aZ hm fun h4 hm=>?_
  (conv=>whnf)
  refine fV hm fun v2 hv2 hm=>?_
  refine ⟨_,_,(Da hv2),?_⟩
  (conv=>whnf)
  refine gI hm (fun c2 hm=>?_) (fun c2 hm=>?_)
  ·(conv=>whnf)
   refine aZ hm fun h5 hm=>?_
   (conv=>whnf)
   have hm:r=(((0:Int)+(1:Int))+(1:Int)):=hm
   subst hm
   refine ⟨[],[],?_⟩
   (conv=>whnf)
   exact ⟨⟨rfl,trivial,trivial⟩,r2⟩
  ·(conv=>whnf)
   refine aZ hm fun h6 hm=>?_
   (conv=>whnf)
   refine lC (ct:=[]) cfgOK dk ?_
   (conv=>whnf)
   refine aZ hm fun h7 hm=>?_
   (conv=>whnf)
   refine fV hm fun v3 hv3 hm=>?_
   refine ⟨_,_,(Db hv3),?_⟩
   (conv=>whnf)
   refine gI hm (fun c3 hm=>?_) (fun c3 hm=>?_)
   ·(conv=>whnf)
    refine aZ hm fun h8 hm=>?_
    (conv=>whnf)
    have hm:r=((((0:Int)+(1:Int))+(1:Int))+(1:Int)):=hm
    subst hm
    refine ⟨[],[],?_⟩
    (conv=>whnf)
    exact ⟨⟨rfl,trivial,trivial⟩,r2⟩
   ·(conv=>whnf)
    refine aZ hm fun h9 hm=>?_
    (conv=>whnf)
    refine lC (ct:=[]) cfgOK dk ?_
    (conv=>whnf)
    refine aZ hm fun h10 hm=>?_
    (conv=>whnf)
    refine fV hm fun v4 hv4 hm=>?_
    refine ⟨_,_,(zN hv4),?_⟩
    (conv=>whnf)
    refine gI hm (fun c4 hm=>?_) (fun c4 hm=>?_)
    ·(conv=>whnf)
     refine aZ hm fun h11 hm=>?_
     (conv=>whnf)
     have hm:r=(((((0:Int)+(1:Int))+(1:Int))+(1:Int))+(1:Int)):=hm
     subst hm
     refine ⟨[],[],?_⟩
     (conv=>whnf)
     exact ⟨⟨rfl,trivial,trivial⟩,r2⟩
    ·(conv=>whnf)
     refine aZ hm fun h12 hm=>?_
     (conv=>whnf)
     refine lC (ct:=[]) cfgOK dk ?_
     (conv=>whnf)
     refine aZ hm fun h13 hm=>?_
     (conv=>whnf)
     refine fV hm fun v5 hv5 hm=>?_
     refine ⟨_,_,(FZ hv5),?_⟩
     (conv=>whnf)
     refine gI hm (fun c5 hm=>?_) (fun c5 hm=>?_)
     ·(conv=>whnf)
      refine aZ hm fun h14 hm=>?_
      (conv=>whnf)
      have hm:r=((((((0:Int)+(1:Int))+(1:Int))+(1:Int))+(1:Int))+(1:Int)):=hm
      subst hm
      refine ⟨[],[],?_⟩
      (conv=>whnf)
      exact ⟨⟨rfl,trivial,trivial⟩,r2⟩
     ·(conv=>whnf)
      refine aZ hm fun h15 hm=>?_
      (conv=>whnf)
      refine lC (ct:=[]) cfgOK dk ?_
      (conv=>whnf)
      refine aZ hm fun h16 hm=>?_
      (conv=>whnf)
      refine fV hm fun v6 hv6 hm=>?_
      refine ⟨_,_,(zy hv6),?_⟩
      (conv=>whnf)
      refine gI hm (fun c6 hm=>?_) (fun c6 hm=>?_)
      ·(conv=>whnf)
       refine aZ hm fun h17 hm=>?_
       (conv=>whnf)
       have hm:r=(((((((0:Int)+(1:Int))+(1:Int))+(1:Int))+(1:Int))+(1:Int))+(1:Int)):=hm
       subst hm
       refine ⟨[],[],?_⟩
       (conv=>whnf)
       exact ⟨⟨rfl,trivial,trivial⟩,r2⟩
      ·(conv=>whnf)
       refine aZ hm fun h18 hm=>?_
       (conv=>whnf)
       refine lC (ct:=[]) cfgOK dk ?_
       (conv=>whnf)
       refine aZ hm fun h19 hm=>?_
       (conv=>whnf)
       refine fV hm fun v7 hv7 hm=>?_
       refine ⟨_,_,(Dc hv7),?_⟩
       (conv=>whnf)
       refine gI hm (fun c7 hm=>?_) (fun c7 hm=>?_)
       ·(conv=>whnf)
        refine aZ hm fun h20 hm=>?_
        (conv=>whnf)
        have hm:r=((((((((0:Int)+(1:Int))+(1:Int))+(1:Int))+(1:Int))+(1:Int))+(1:Int))+(1:Int)):=hm
        subst hm
        refine ⟨[],[],?_⟩
        (conv=>whnf)
        exact ⟨⟨rfl,trivial,trivial⟩,r2⟩
       ·(conv=>whnf)
        refine aZ hm fun h21 hm=>?_
        (conv=>whnf)
        refine lC (ct:=[]) cfgOK dk ?_
        (conv=>whnf)
        refine aZ hm fun h22 hm=>?_
        (conv=>whnf)
        refine fV hm fun v8 BH hm=>?_
        refine ⟨_,_,(BU BH),?_⟩
        (conv=>whnf)
        refine gI hm (fun c8 hm=>?_) (fun c8 hm=>?_)
        ·(conv=>whnf)
         refine aZ hm fun h23 hm=>?_
         (conv=>whnf)
         have hm:r=(((((((((0:Int)+(1:Int))+(1:Int))+(1:Int))+(1:Int))+(1:Int))+(1:Int))+(1:Int))+(1:Int)):=hm
         subst hm
         refine ⟨[],[],?_⟩
         (conv=>whnf)
         exact ⟨⟨rfl,trivial,trivial⟩,r2⟩
        ·(conv=>whnf)
         refine aZ hm fun h24 hm=>?_
         (conv=>whnf)
         refine lC (ct:=[]) cfgOK dk ?_
         (conv=>whnf)
         have hm:r=(0:Int):=hm
         subst hm
         refine ⟨[],[],?_⟩
         (conv=>whnf)
         exact ⟨⟨rfl,trivial,trivial⟩,r2⟩
theorem LG {b_:bf} {l_:(List aL)} {ah:(List Int)} {g_:bM} {fD:Bool} {r:Int} (hm:xP b_ l_ ah g_ fD r):S 68 [gZ b_,dI l_,aD ah,jW g_,.bool fD] [] (iV r) [] :=sp Tryz.func68 rfl<|sq hm Fz fun v1 hm=>si hm (fun _ hm=>by cases hm;exact re) fun _ hm=>sq hm Df fun v2 hm=>by cases hm;exact re
theorem Dg {b_:bf} {l_:(List aL)} {ah:(List Int)} {g_:bM} {r:Bool} (hm:uW b_ l_ ah g_ r):S 28 [gZ b_,dI l_,aD ah,jW g_] [] (.bool r) [] :=sp Tryz.func28 rfl<|sq hm LG fun v1 hm=>by cases hm;exact re
theorem AZ {b_:bf} {l_:(List aL)} {ah:(List Int)} {g_:bM} {aR:Int} {r:Int} (hm:rz b_ l_ ah g_ aR r):S 44 [gZ b_,dI l_,aD ah,jW g_,iV aR] [] (iV r) [] :=sp Tryz.func44 rfl<|sq hm MN fun v1 hm=>si hm (fun _ hm=>by cases hm;exact re) fun _ hm=>sq hm Dg fun v2 hm=>si hm (fun _ hm=>by cases hm;exact re) fun _ hm=>si hm (fun _ hm=>by cases hm;exact re) fun _ hm=>by cases hm;exact re
theorem MR {b_:bf} {gG:(List aS)} {EG:(List ByteArray)} {r:((List ByteArray)×(List Int))} (hm:Af b_ gG EG r):S 48 [gZ b_,dG gG,eZ EG] [] (.tup [eZ r.1,aD r.2]) [] :=sp Tryz.func48 rfl<|lf hm (fun g1=>⟨[(2,eZ EG),(3,.ptr 0 0 0),(6,.osl 1 0 g1.2.1.length false),(7,.osl 2 0 g1.2.2.length false),(10,dG gG),(11,iV (gG.length:Int)),(12,iV g1.1)],[(0,some (.box [bn b_.bQ,aT b_.bI,iV b_.aP.bG,bg b_.aP.av,bZ b_.aY,bO b_.dh])),(1,some (.row 1 g1.2.1.length (rowG AV.str ByteArray.empty g1.2.1))),(2,some (.row 1 g1.2.2.length (rowG iV 0 g1.2.2)))],3⟩) [(1,none),(2,none)] [] <|fun aj g1 hm=>si hm (fun _ hm=>s2 hm fun _ _ hm=>s2 hm fun _ _ hm=>s2 hm fun _ _ hm=>lc [(1,some 171),(2,some 227)] [] hm) fun _ hm=>sn hm fun _ hm=>by cases hm;exact rt [27,2] []
theorem Ie {f_:ByteArray} {r:Bool} (hm:EH f_ r):S 145 [.str f_] [] (.bool r) [] :=sp Tryz.func145 rfl<|sq hm rW fun v1 hm=>by cases hm;exact re
theorem wD {s_:(List ByteArray)} {r:Int} (hm:kP s_ r):S 197 [eZ s_,.fn 145 []] [] (iV r) [] :=sp Tryz.func197 rfl<|l0 hm (fun g1=>⟨[(0,eZ s_),(1,.fn 145 []),(7,iV (s_.length:Int)),(8,iV g1)],[],0⟩) <|fun aj g1 hm=>si hm (fun _ hm=>sn hm fun _ hm=>sq hm Ie fun v3 hm=>si hm (fun _ hm=>by cases hm;exact re) fun _ hm=>sn hm fun _ hm=>le hm) fun _ hm=>by cases hm;exact re
theorem sI {s_:(List ByteArray)} {r:Bool} (hm:jM s_ r):S 144 [eZ s_,.fn 145 []] [] (.bool r) [] :=sp Tryz.func144 rfl<|sq hm wD fun v1 hm=>by cases hm;exact re
theorem MS {p_:aX} {dU:ByteArray} {r:(List Int)} (hm:Ag p_ dU r):S 198 [jq p_,.str dU] [] (aD r) [] :=sp Tryz.func198 rfl<|sq hm pK fun v1 hm=>si hm (fun _ hm=>by cases hm;exact re) fun _ hm=>lf hm (fun g1=>⟨[(1,.str dU),(5,.osl 0 0 g1.2.length false),(12,bg p_.av),(13,iV (p_.av.length:Int)),(14,iV g1.1)],[(0,some (.row 1 g1.2.length (rowG iV 0 g1.2)))],1⟩) [(0,none)] [] <|fun aj g1 hm=>si hm (fun _ hm=>sn hm fun _ hm=>sq hm mY fun v4 hm=>si hm (fun _ hm=>s2 hm fun _ _ hm=>lc [(0,some 113)] [] hm) fun _ hm=>sn hm fun _ hm=>le hm) fun _ hm=>by cases hm;exact rt [0] []
theorem Ig {p_:aX} {dU:ByteArray} {r:(List Int)} (hm:EI p_ dU r):S 147 [jq p_,.str dU] [] (aD r) [] :=sp Tryz.func147 rfl<|sq hm MS fun v1 hm=>by cases hm;exact re
theorem Ky {p_:aX} {l_:(List ByteArray)} {dZ:(List Int)} {r:(dJ×Int)} (hm:uE p_ l_ dZ r):S 97 [jq p_,eZ l_,aD dZ] [] (.tup [Pd r.1,iV r.2]) [] :=sp Tryz.func97 rfl<|sq hm pK fun v1 hm=>sb hm fun v2 hv2 hm=>cl (fun q0=>(sI (hv2 q0)))<|si hm (fun _ hm=>by cases hm;exact re) fun _ hm=>lf hm (fun g1=>⟨[(1,eZ l_),(2,aD dZ),(3,.ptr 0 0 0),(6,.ptr 1 0 0),(8,.ptr 2 0 0),(31,eZ l_),(32,iV (l_.length:Int)),(33,iV g1.1)],[(0,some (.box [iV p_.bG,bg p_.av])),(1,some (.box [.sl 0 0 true nilG,.sl 0 0 true nilG,.sl 0 0 true nilG,.int .u64 (0:Int)])),(2,some (.box [.osl 3 0 g1.2.length false,.sl 0 0 true nilG,.sl 0 0 true nilG,.int .u64 (0:Int)])),(3,some (.row 1 g1.2.length (rowG aD [] g1.2)))],4⟩) [(1,some 8),(2,some 120),(3,none)] [] <|fun aj g1 hm=>si hm (fun _ hm=>sn hm fun _ hm=>sq hm Ig fun v5 hm=>s2 hm fun _ _ hm=>lc [(3,some 84)] [] hm) fun _ hm=>lf hm (fun g2=>⟨[(1,eZ l_),(2,aD dZ),(6,.ptr 0 0 0),(8,.ptr 1 0 0),(47,bg p_.av),(48,iV (p_.av.length:Int)),(49,iV g2.1)],[(0,some (.box [.sl 0 0 true nilG,.sl 0 0 true nilG,.sl 0 0 true nilG,.int .u64 (0:Int)])),(1,some (.box [.osl 2 0 g1.2.length false,.osl 3 0 g2.2.length false,.sl 0 0 true nilG,.int .u64 (0:Int)])),(2,some (.row 1 g1.2.length (rowG aD [] g1.2))),(3,some (.row 1 g2.2.length (rowG (AV.int .u64) 0 g2.2)))],4⟩) [(0,some 1),(1,some 2),(2,some 3),(3,none)] [] <|fun cO g2 hm=>si hm (fun _ hm=>sn hm fun _ hm=>l0 hm (fun g5=>⟨[(1,eZ l_),(2,aD dZ),(6,.ptr 0 0 0),(8,.ptr 1 0 0),(13,.int .u64 g5.1),(47,bg p_.av),(48,iV (p_.av.length:Int)),(49,iV g2.1),(54,aD ((p_.av.getD g2.1.toNat ay).bG)),(55,iV ((((p_.av.getD g2.1.toNat ay).bG).length:Nat):Int)),(56,iV g5.2)],[(0,some (.box [.sl 0 0 true nilG,.sl 0 0 true nilG,.sl 0 0 true nilG,.int .u64 (0:Int)])),(1,some (.box [.osl 2 0 g1.2.length false,.osl 3 0 g2.2.length false,.sl 0 0 true nilG,.int .u64 (0:Int)])),(2,some (.row 1 g1.2.length (rowG aD [] g1.2))),(3,some (.row 1 g2.2.length (rowG (AV.int .u64) 0 g2.2)))],4⟩) <|fun iF g5 hm=>si hm (fun _ hm=>s2 hm fun _ _ hm=>sn hm fun _ hm=>le hm) fun _ hm=>s2 hm fun _ _ hm=>lc [(3,some 44)] [] hm) fun _ hm=>si hm (fun _ hm=>by cases hm;exact re) fun _ hm=>l0 hm (fun g6=>⟨[(2,aD dZ),(6,.ptr 0 0 0),(8,.ptr 1 0 0),(78,aD dZ),(79,iV (dZ.length:Int)),(80,iV g6.1)],[(0,some (.box [.sl 0 0 true nilG,.sl 0 0 true nilG,.sl 0 0 true nilG,.int .u64 (0:Int)])),(1,some (.box [.osl 2 0 g1.2.length false,.osl 3 0 g2.2.length false,.sl 0 0 true nilG,.int .u64 g6.2])),(2,some (.row 1 g1.2.length (rowG aD [] g1.2))),(3,some (.row 1 g2.2.length (rowG (AV.int .u64) 0 g2.2)))],4⟩) <|fun gU g6 hm=>si hm (fun _ hm=>s2 hm fun _ _ hm=>sq hm eY fun v8 hm=>sn hm fun _ hm=>si hm (fun _ hm=>by cases hm;exact re) fun _ hm=>s2 hm fun _ _ hm=>le hm) fun _ hm=>by cases hm;exact rt [2,3] []
theorem zP {x_:dJ} {r:(List Int)} (hm:kg x_ r):S 99 [Pd x_] [] (aD r) [] :=sp Tryz.func99 rfl<|lf hm (fun g1=>⟨[(1,.ptr 0 0 0),(3,.osl 1 0 g1.2.length false),(4,iV g1.1)],[(0,some (.box [tF x_.eu,Nv x_.oI,aD x_.jV,.int .u64 x_.tu])),(1,some (.row 1 g1.2.length (rowG iV 0 g1.2)))],2⟩) [(1,none)] [] <|fun aj g1 hm=>si hm (fun _ hm=>s2 hm fun _ _ hm=>lc [(1,some 66)] [] hm) fun _ hm=>by cases hm;exact rt [1] []
theorem zB:∀(n:Nat) (gy:(Int×(List Int)×dJ×(List Int))) (r:(Bool×Nat×(List Int)×dJ×(List Int))),Wj fZ n gy r→S 148 [.int .u64 gy.1,.ptr 0 0 0,.ptr 1 0 0,.ptr 2 0 0,.ptr 3 0 0] [.box [.osl 4 0 gy.2.2.2.length false],.box [aD gy.2.1],.box [tF gy.2.2.1.eu,Nv gy.2.2.1.oI,aD gy.2.2.1.jV,.int .u64 gy.2.2.1.tu],.box [.fn 148 [.ptr 0 0 0,.ptr 1 0 0,.ptr 2 0 0,.ptr 3 0 0]],.row 1 gy.2.2.2.length (rowG iV 0 gy.2.2.2)] (.bool r.1) [.box [.osl 5 0 r.2.1 false],.box [aD r.2.2.1],.box [tF r.2.2.2.1.eu,Nv r.2.2.2.1.oI,aD r.2.2.2.1.jV,.int .u64 r.2.2.2.1.tu],.box [.fn 148 [.ptr 0 0 0,.ptr 1 0 0,.ptr 2 0 0,.ptr 3 0 0]],YV,.row 1 r.2.2.2.2.length (rowG iV 0 r.2.2.2.2)] :=by
 intro n
 induction n with
 | zero=>intro gy r hm; exact hm.elim
 | succ n ih=>
   intro gy r hm
   have hm:fZ (Wj fZ n) gy r:=hm
   generalize Wj fZ n=vN at hm ih
   refine kF (ct:=[8]) cfgOK Tryz.func148 rfl rfl (Nat.le_of_ble_eq_true rfl) dk (Nat.le_of_ble_eq_true rfl) ?_
   (conv=>whnf)
   refine gI hm (fun c1 hm=>?_) (fun c1 hm=>?_)
   · (conv=>whnf)
     have hm:r=(true,gy.2.2.2.length,gy.2.1,gy.2.2.1,gy.2.2.2):=hm
     subst hm
     refine ⟨[],[(5,some 4)],?_⟩
     (conv=>whnf)
     exact ⟨⟨rfl,trivial,⟨⟨⟨rfl,rfl,rfl,rfl,nofun⟩,trivial⟩,⟨sf,trivial⟩,⟨sf,sf,sf,r2,trivial⟩,⟨⟨rfl,r4,r4,r4,r4,trivial⟩,trivial⟩,⟨rfl,rfl,(fun _ _=>.refl _)⟩,trivial⟩⟩,rfl⟩
   · (conv=>whnf)
     refine aZ hm fun h1 hm=>?_
     (conv=>whnf)
     refine aZ hm fun h2 hm=>?_
     (conv=>whnf)
     refine qh (ct:=[8]) cfgOK dk hm (fun g1=>⟨[(0,.int .u64 gy.1),(1,.ptr 0 0 0),(3,.ptr 2 0 0),(4,.ptr 3 0 0),(22,aD (gy.2.2.1.eu.getD ((gy.2.1.getD ((gy.2.2.2.length:Int).toNat) 0).toNat) [])),(23,iV (((gy.2.2.1.eu.getD ((gy.2.1.getD ((gy.2.2.2.length:Int).toNat) 0).toNat) []).length:Nat):Int)),(24,iV g1.1)],[(0,some (.box [.osl 5 0 g1.2.1 false])),(1,some (.box [aD g1.2.2.1])),(2,some (.box [tF g1.2.2.2.1,Nv g1.2.2.2.2.1,aD g1.2.2.2.2.2.1,.int .u64 g1.2.2.2.2.2.2.1])),(3,some (.box [.fn 148 [.ptr 0 0 0,.ptr 1 0 0,.ptr 2 0 0,.ptr 3 0 0]])),(5,some (.row 1 g1.2.2.2.2.2.2.2.length (rowG iV 0 g1.2.2.2.2.2.2.2)))],6⟩) [(5,some 4)] [] ⟨rfl,⟨r2,r4,r4,r4,sr,r2,r2,trivial⟩,⟨⟨⟨rfl,rfl,rfl,rfl,nofun⟩,trivial⟩,⟨sf,trivial⟩,⟨sf,sf,sf,r2,trivial⟩,⟨⟨rfl,r4,r4,r4,r4,trivial⟩,trivial⟩,⟨rfl,rfl,(fun _ _=>.refl _)⟩,trivial⟩⟩ ?_
     intro aj g1 hm
     (conv=>whnf)
     have h33:=hm.1
     have hm:=hm.2
     refine gI hm (fun c8 hm=>?_) (fun c8 hm=>?_)
     · (conv=>whnf)
       refine aZ hm fun h23 hm=>?_
       (conv=>whnf)
       refine aZ hm fun h24 hm=>?_
       (conv=>whnf)
       refine gI hm (fun c9 hm=>?_) (fun c9 hm=>?_)
       · (conv=>whnf)
         refine aZ hm fun h25 hm=>?_
         (conv=>whnf)
         exact ⟨((g1.1+(1:Int)),g1.2.1,g1.2.2.1,g1.2.2.2.1,g1.2.2.2.2.1,g1.2.2.2.2.2.1,g1.2.2.2.2.2.2.1,g1.2.2.2.2.2.2.2),[],[],hm,⟨rfl,⟨r2,r4,r4,r4,sr,r2,r2,trivial⟩,⟨⟨⟨rfl,rfl,rfl,rfl,nofun⟩,trivial⟩,⟨sf,trivial⟩,⟨sf,sf,sf,r2,trivial⟩,⟨⟨rfl,r4,r4,r4,r4,trivial⟩,trivial⟩,⟨rfl,rfl,(fun _ _=>.refl _)⟩,trivial⟩⟩⟩
       · (conv=>whnf)
         refine O7 (ct:=[8]) cfgOK dk dk (jN vN gy g1 aj) r (fun g4=>⟨[(0,.int .u64 gy.1),(1,.ptr 0 0 0),(3,.ptr 2 0 0),(4,.ptr 3 0 0),(8,iV ((gy.2.2.1.eu.getD ((gy.2.1.getD ((gy.2.2.2.length:Int).toNat) 0).toNat) []).getD g1.1.toNat 0)),(22,aD (gy.2.2.1.eu.getD ((gy.2.1.getD ((gy.2.2.2.length:Int).toNat) 0).toNat) [])),(23,iV (((gy.2.2.1.eu.getD ((gy.2.1.getD ((gy.2.2.2.length:Int).toNat) 0).toNat) []).length:Nat):Int)),(24,iV g1.1)],[(0,some (.box [.osl 5 0 g4.length false])),(1,some (.box [aD g1.2.2.1])),(2,some (.box [tF g1.2.2.2.1,Nv g1.2.2.2.2.1,aD g1.2.2.2.2.2.1,.int .u64 g1.2.2.2.2.2.2.1])),(3,some (.box [.fn 148 [.ptr 0 0 0,.ptr 1 0 0,.ptr 2 0 0,.ptr 3 0 0]])),(5,some (.row 1 g4.length (rowG iV 0 g4)))],6⟩) ?_ (fun g4 hm=>?_)
         · (conv=>whnf)
           refine aZ hm fun h32 hm=>?_
           (conv=>whnf)
           exact ⟨((g1.2.2.2.2.2.2.2.take (g1.2.1))++([((gy.2.2.1.eu.getD ((gy.2.1.getD ((gy.2.2.2.length:Int).toNat) 0).toNat) []).getD g1.1.toNat 0)]:List Int)),[(5,some 126)],[],hm,⟨rfl,⟨r2,r4,r4,r4,r2,sr,r2,r2,trivial⟩,⟨⟨⟨rfl,rfl,rfl,oz,nofun⟩,trivial⟩,⟨sr,trivial⟩,⟨sr,sr,sr,r2,trivial⟩,⟨⟨rfl,r4,r4,r4,r4,trivial⟩,trivial⟩,⟨rfl,oz,(iC oz (jI (f:=iV) (d:=0) (by first | omega | exact Nat.min_le_left _ _ | exact Nat.le_trans (Nat.min_le_left _ _) om | (simp; omega))) rfl (fB iV 0 [((gy.2.2.1.eu.getD ((gy.2.1.getD ((gy.2.2.2.length:Int).toNat) 0).toNat) []).getD g1.1.toNat 0)]))⟩,trivial⟩⟩⟩
         · (conv=>whnf)
           refine aZ hm fun h27 hm=>?_
           (conv=>whnf)
           refine fV hm fun v3 hv3 hm=>?_
           refine ⟨_,_,(ih _ _ hv3),?_⟩
           (conv=>whnf)
           have h28:=hm.1
           have hm:=hm.2
           refine gI hm (fun c10 hm=>?_) (fun c10 hm=>?_)
           · (conv=>whnf)
             have hm:r=(true,v3.2.1,v3.2.2.1,v3.2.2.2.1,v3.2.2.2.2):=hm
             subst hm
             refine ⟨[],[(5,some 70)],?_⟩
             (conv=>whnf)
             exact ⟨⟨rfl,trivial,⟨⟨⟨rfl,rfl,rfl,rfl,nofun⟩,trivial⟩,⟨sf,trivial⟩,⟨sf,sf,sf,r2,trivial⟩,⟨⟨rfl,r4,r4,r4,r4,trivial⟩,trivial⟩,⟨rfl,rfl,(fun _ _=>.refl _)⟩,trivial⟩⟩,rfl⟩
           · (conv=>whnf)
             refine aZ hm fun h29 hm=>?_
             (conv=>whnf)
             refine aZ hm fun h30 hm=>?_
             (conv=>whnf)
             refine aZ hm fun h31 hm=>?_
             (conv=>whnf)
             exact ⟨((g1.1+(1:Int)),(((v3.2.1:Nat):Int) - (1:Int)).toNat,v3.2.2.1,v3.2.2.2.1.eu,v3.2.2.2.1.oI,v3.2.2.2.1.jV,v3.2.2.2.1.tu,v3.2.2.2.2),[(5,some 70)],[],hm,⟨rfl,⟨r2,r4,r4,r4,sr,r2,r2,trivial⟩,⟨⟨⟨rfl,rfl,rfl,rfl,nofun⟩,trivial⟩,⟨sf,trivial⟩,⟨sf,sf,sf,r2,trivial⟩,⟨⟨rfl,r4,r4,r4,r4,trivial⟩,trivial⟩,⟨rfl,rfl,(fun _ _=>.refl _)⟩,trivial⟩⟩⟩
     · (conv=>whnf)
       have hm:r=(false,g1.2.1,g1.2.2.1,(⟨g1.2.2.2.1,g1.2.2.2.2.1,g1.2.2.2.2.2.1,g1.2.2.2.2.2.2.1⟩:dJ),g1.2.2.2.2.2.2.2):=hm
       subst hm
       refine ⟨[],[],?_⟩
       (conv=>whnf)
       exact ⟨⟨rfl,trivial,⟨⟨⟨rfl,rfl,rfl,rfl,nofun⟩,trivial⟩,⟨sf,trivial⟩,⟨sf,sf,sf,r2,trivial⟩,⟨⟨rfl,r4,r4,r4,r4,trivial⟩,trivial⟩,⟨rfl,rfl,(fun _ _=>.refl _)⟩,trivial⟩⟩,rfl⟩
theorem wE {Pt:Int} {TG:(List Int)} {Vh:dJ} {Zv:(List Int)} {r:(Bool×Nat×(List Int)×dJ×(List Int))} (hm:jv Pt TG Vh Zv r):S 148 [.int .u64 Pt,.ptr 0 0 0,.ptr 1 0 0,.ptr 2 0 0,.ptr 3 0 0] [.box [.osl 4 0 Zv.length false],.box [aD TG],.box [tF Vh.eu,Nv Vh.oI,aD Vh.jV,.int .u64 Vh.tu],.box [.fn 148 [.ptr 0 0 0,.ptr 1 0 0,.ptr 2 0 0,.ptr 3 0 0]],.row 1 Zv.length (rowG iV 0 Zv)] (.bool r.1) [.box [.osl 5 0 r.2.1 false],.box [aD r.2.2.1],.box [tF r.2.2.2.1.eu,Nv r.2.2.2.1.oI,aD r.2.2.2.1.jV,.int .u64 r.2.2.2.1.tu],.box [.fn 148 [.ptr 0 0 0,.ptr 1 0 0,.ptr 2 0 0,.ptr 3 0 0]],YV,.row 1 r.2.2.2.2.length (rowG iV 0 r.2.2.2.2)] :=by
 obtain ⟨n,hm⟩:=hm
 exact zB n (Pt,TG,Vh,Zv) r hm
theorem zC {x_:dJ} {IB:(List Int)} {r:((List Int)×Bool)} (hm:jR x_ IB r):S 98 [Pd x_,aD IB] [] (.tup [aD r.1,.bool r.2]) [] :=sp Tryz.func98 rfl<|sn hm fun _ hm=>sb hm fun v1 hv1 hm=>cl ((wE hv1).le ⟨.refl _,.refl _,.refl _,.refl _,.refl _,trivial⟩ ⟨jf _,jf _,jf _,jf _,⟨rfl,rfl,(fun _ h=>absurd h (Nat.not_lt_zero _))⟩,trivial⟩)<|by
 have h2:=hm.1
 have hm:=hm.2
 have hm:r=((v1.2.2.2.2.take (v1.2.1)),v1.1):=hm
 subst hm
 refine ⟨[120],[],?_⟩
 (conv=>whnf)
 exact ⟨⟨rfl,trivial,trivial⟩,(by (conv=>whnf); exact ⟨(by (conv=>whnf); exact ⟨oz,(fun _=>rfl),nofun,(jI (f:=iV) (d:=0) (by first | omega | exact Nat.min_le_left _ _ | exact Nat.le_trans (Nat.min_le_left _ _) om | (simp; omega)))⟩),(by (conv=>whnf); exact ⟨(by first | ((conv=>whnf); exact rfl) | exact rfl),trivial⟩)⟩)⟩
theorem Dh {n_:Int} {r:(Nat×(List Int))} (hm:lT n_ r):S 149 [.sl 0 0 true nilG,iV n_] [] (.osl 0 0 r.1 false) [.row 1 r.2.length (rowG iV 0 r.2)] :=Rl [3] Tryz.func149 rfl<|ck [3] (mI n_) r (fun g1=>⟨[(0,.sl 0 0 true nilG),(1,iV n_)],[],0⟩) (by
 have c3:=hm.1
 have hm:=hm.2
 refine bcase_of (fun q=>Bool.noConfusion (c3.symm.trans q)) (fun _=>?_)
 (conv=>whnf)
 exact ⟨(),[],[],hm,⟨rfl,⟨sr,r2,trivial⟩,trivial⟩⟩) fun g1 hm=>s2 hm fun _ _ hm=>si hm (fun _ hm=>s2 hm fun _ _ hm=>sn hm fun _ hm=>by cases hm;exact rt [] [(0,some 120)]) fun _ hm=>by cases hm;exact rt [] [(0,none)]
theorem Eb {gY:(List (List Int))} {r:(List Int)} (hm:mQ gY r):S 100 [tF gY] [] (aD r) [] :=sp Tryz.func100 rfl<|l0 hm (fun g1=>⟨[(0,tF gY),(3,iV g1.1),(9,tF gY),(10,iV (gY.length:Int)),(11,iV g1.2)],[],0⟩) <|fun aj g1 hm=>si hm (fun _ hm=>s2 hm fun _ _ hm=>by
 have c6:=hm.1
 have hm:=hm.2
 refine bcase_of (fun q=>Bool.noConfusion (c6.symm.trans q)) (fun _=>?_)
 (conv=>whnf)
 refine aZ hm fun h9 hm=>?_
 (conv=>whnf)
 exact ⟨((g1.1+(((gY.getD g1.2.toNat []).length:Nat):Int)),(g1.2+(1:Int))),[],[],hm,⟨rfl,⟨sr,r2,sr,r2,r2,trivial⟩,trivial⟩⟩) fun _ hm=>sq hm Dh fun v1 hm=>by
 have h10:=hm.1
 have hm:=hm.2
 refine qh (ct:=[]) cfgOK dk hm (fun g2=>⟨[(6,.osl 0 0 g2.1 false),(25,tF gY),(26,iV (gY.length:Int)),(27,iV g2.2.1)],[(0,some (.row 1 g2.2.2.length (rowG iV 0 g2.2.2)))],1⟩) [(0,some 16)] [] ⟨rfl,⟨⟨rfl,rfl,rfl,rfl,nofun⟩,sr,r2,r2,trivial⟩,⟨⟨rfl,rfl,(fun _ _=>.refl _)⟩,trivial⟩⟩ ?_
 intro cO g2 hm
 (conv=>whnf)
 have h20:=hm.1
 have hm:=hm.2
 refine gI hm (fun c9 hm=>?_) (fun c9 hm=>?_)
 ·(conv=>whnf)
  refine aZ hm fun h17 hm=>?_
  (conv=>whnf)
  refine aZ hm fun h18 hm=>?_
  (conv=>whnf)
  refine aZ hm fun h19 hm=>?_
  (conv=>whnf)
  exact ⟨((g2.1+(gY.getD g2.2.1.toNat []).length),(g2.2.1+(1:Int)),((g2.2.2.take (g2.1))++(gY.getD g2.2.1.toNat []))),[(0,some 49)],[],hm,⟨rfl,⟨⟨rfl,rfl,rfl,rfl,nofun⟩,sr,r2,r2,trivial⟩,⟨⟨rfl,oz,(iC oz (jI (f:=iV) (d:=0) (by first | omega | exact Nat.min_le_left _ _ | exact Nat.le_trans (Nat.min_le_left _ _) om | (simp; omega))) rfl (fun _ _=>.refl _))⟩,trivial⟩⟩⟩
 ·(conv=>whnf)
  have hm:r=(g2.2.2.take (g2.1)):=hm
  subst hm
  refine ⟨[0],[],?_⟩
  (conv=>whnf)
  exact ⟨⟨rfl,trivial,trivial⟩,⟨oz,(fun _=>rfl),nofun,(jI (f:=iV) (d:=0) (by first | omega | exact Nat.min_le_left _ _ | exact Nat.le_trans (Nat.min_le_left _ _) om | (simp; omega)))⟩⟩
theorem Jq {p_:aX} {l_:(List ByteArray)} {dZ:(List Int)} {r:((List Int)×Int)} (hm:rA p_ l_ dZ r):S 49 [jq p_,eZ l_,aD dZ] [] (.tup [aD r.1,iV r.2]) [] :=sp Tryz.func49 rfl<|sq hm Ky fun v1 hm=>si hm (fun _ hm=>by cases hm;exact re) fun _ hm=>sq hm zP fun v2 hm=>sq hm zC fun v3 hm=>si hm (fun _ hm=>by cases hm;exact re) fun _ hm=>sb hm fun v4 hv4 hm=>cl ((Eb hv4).le ⟨(.sl rfl (fun _=>rfl) nofun (fB aD [] [dZ,v3.1])),trivial⟩ trivial)<|by cases hm;exact re
theorem zD {s_:(List aS)} {r:(List aS)} (hm:jS s_ r):S 102 [dG s_] [] (.osl 0 0 r.length false) [.row 3 r.length (rowG mK bA r)] :=by
 obtain ⟨h1,hm⟩:=hm
 have hm:r=s_:=hm
 subst hm
 refine kF (ct:=[1]) cfgOK Tryz.func102 rfl rfl (Nat.le_of_ble_eq_true rfl) dk (Nat.le_of_ble_eq_true rfl) ?_
 (conv=>whnf)
 refine Pb (ct:=[]) cfgOK (cfgOK.slice (t:=39) (e:=57) rfl rfl rfl).1 dk dk dk dk dk [(2,.sl 0 0 true nilG),(0,dG r)] [] 8 rfl ?_ (fun hn=>?_) ?_
 ·exact rfl
 ·(conv=>whnf)
  have hn:r.length=0:=hn
  refine ⟨[],[(0,none)],?_⟩
  (conv=>whnf)
  exact ⟨⟨rfl,trivial,⟨hn,trivial⟩⟩,⟨rfl,rfl,rfl,rfl,rfl,hn⟩⟩
 ·(conv=>whnf)
  refine ⟨by rw [Nat.zero_add]; exact h1,?_⟩
  (conv=>whnf)
  refine ⟨[],[(0,some 24)],?_⟩
  (conv=>whnf)
  exact ⟨⟨rfl,trivial,⟨⟨rfl,Nat.zero_add _,iC (l:=[]) rfl (fun _ h=>absurd h (Nat.not_lt_zero _)) rfl (fun _ _=>.refl _)⟩,trivial⟩⟩,⟨rfl,rfl,rfl,Nat.zero_add _,nofun⟩⟩
theorem Qk {g_:bM} {r:bM} (hm:IC g_ r):S 51 [jW g_] [] (jW r) [] :=sp Tryz.func51 rfl<|sq hm kH fun v1 hm=>sq hm Ic fun v2 hm=>sq hm zD fun v3 hm=>sq hm lZ fun v4 hm=>sq hm lZ fun v5 hm=>by cases hm;exact rt [32,80,104,128] []
theorem A8 {b_:bf} {l_:(List aL)} {ah:(List Int)} {g_:bM} {aR:Int} {r:(bM×Int×Int)} (hm:rC b_ l_ ah g_ aR r):S 13 [gZ b_,dI l_,aD ah,jW g_,iV aR] [] (.tup [jW r.1,iV r.2.1,iV r.2.2]) [] :=Rl [13] Tryz.func13 rfl<|sq hm AZ fun v1 hm=>si hm (fun _ hm=>by cases hm;exact re) fun _ hm=>sq hm eY fun v2 hm=>si hm (fun _ hm=>by cases hm;exact re) fun _ hm=>ck [13] (tQ b_ l_ ah aR) r (fun g2=>⟨[(1,dI l_),(2,aD ah),(4,iV aR),(5,.ptr 0 0 0),(10,.ptr 1 0 0),(14,dG g2)],[(0,some (.box [bn b_.bQ,aT b_.bI,iV b_.aP.bG,bg b_.aP.av,bZ b_.aY,bO b_.dh])),(1,some (.box [.sl 0 0 true nilG,.sl 0 0 true nilG,.sl 0 0 true nilG,.sl 0 0 true nilG,.sl 0 0 true nilG,.sl 0 0 true nilG]))],2⟩) (Md [13] hm (fun g4=>⟨[(1,dI l_),(2,aD ah),(4,iV aR),(5,.ptr 0 0 0),(10,.ptr 1 0 0),(14,.osl 2 0 g4.2.length false),(41,dG g_.bX),(42,iV (g_.bX.length:Int)),(43,iV g4.1)],[(0,some (.box [bn b_.bQ,aT b_.bI,iV b_.aP.bG,bg b_.aP.av,bZ b_.aY,bO b_.dh])),(1,some (.box [.sl 0 0 true nilG,.sl 0 0 true nilG,.sl 0 0 true nilG,.sl 0 0 true nilG,.sl 0 0 true nilG,.sl 0 0 true nilG])),(2,some (.row 3 g4.2.length (rowG mK bA g4.2)))],3⟩) [(1,some 16),(2,none)] [] <|fun gL g4 hm=>si hm (fun _ hm=>sn hm fun _ hm=>sq hm eY fun v16 hm=>si hm (fun _ hm=>s2 hm fun _ _ hm=>lc [(2,some 99)] [] hm) fun _ hm=>sn hm fun _ hm=>le hm) fun _ hm=>lc [] [2] hm) fun g2 hm=>sq hm kH fun v6 hm=>sn hm fun _ hm=>sb hm fun v7 hv7 hm=>cl ((uo hv7).le ⟨.refl _,.refl _,(.sl oz (fun _=>rfl) nofun (iC rfl (fun _ _=>.refl _) rfl (fB iV 0 [aR]))),.refl _,trivial⟩ trivial)<|si hm (fun _ hm=>by cases hm;exact re) fun _ hm=>sn hm fun _ hm=>sq hm MR fun v8 hm=>sq hm Jq fun v9 hm=>si hm (fun _ hm=>by cases hm;exact re) fun _ hm=>sn hm fun _ hm=>lfe [13] hm (fun g3=>⟨[(4,iV aR),(5,.ptr 0 0 0),(10,.ptr 1 0 0),(17,.ptr 2 0 0),(20,eZ v8.1),(21,aD v8.2),(99,aD g3.1),(100,iV (((v9.1.length - (v8.2.length:Int).toNat):Nat):Int)),(101,iV g3.2.1)],[(0,some (.box [bn b_.bQ,aT b_.bI,iV b_.aP.bG,bg b_.aP.av,bZ b_.aY,bO b_.dh])),(1,some (.box [.sl 0 0 true nilG,.sl 0 0 true nilG,.sl 0 0 true nilG,.sl 0 0 true nilG,.sl 0 0 true nilG,.sl 0 0 true nilG])),(2,some (.box [aD v7.1,aU v7.2.1,aD v7.2.2.1,.osl 3 0 g3.2.2.length false,aU v7.2.2.2.1,aU v7.2.2.2.2.1])),(3,some (.row 3 g3.2.2.length (rowG mK bA g3.2.2)))],4⟩) [(2,some 106),(3,some 66)] [] ⟨rfl,⟨r2,r4,r4,r4,sr,sr,⟨oz,(fun _=>rfl),nofun,(Mh (a:=(v8.2.length:Int).toNat) (N:=v9.1.length) (fun _ _=>.refl _) (by first | omega | (simp; omega)))⟩,r2,r2,trivial⟩,⟨⟨sr,sr,r2,sr,sr,sr,trivial⟩,⟨sr,sr,sr,sr,sr,sr,trivial⟩,⟨sr,sr,sr,⟨rfl,rfl,rfl,rfl,nofun⟩,sr,sr,trivial⟩,⟨rfl,rfl,(fun _ _=>.refl _)⟩,trivial⟩⟩ <|fun iy g3 hm=>si hm (fun _ hm=>s2 hm fun _ _ hm=>s2 hm fun _ _ hm=>sq hm o8 fun v12 hm=>s2 hm fun _ _ hm=>lc [(3,some 244)] [] hm) fun _ hm=>sq hm Qk fun v13 hm=>by cases hm;exact re
theorem BX {dz:(List Int)} {r:(List Int)} (hm:wL dz r):S 47 [.osl 0 0 dz.length true] [.row 1 dz.length (rowG iV 0 dz)] (.osl 1 0 r.length false) [.row 1 dz.length (rowG iV 0 dz),.row 1 r.length (rowG iV 0 r)] :=by
 obtain ⟨h1,hm⟩:=hm
 have hm:r=dz:=hm
 subst hm
 refine kF (ct:=[1]) cfgOK Tryz.func47 rfl rfl (Nat.le_of_ble_eq_true rfl) dk (Nat.le_of_ble_eq_true rfl) ?_
 (conv=>whnf)
 refine J3 (ct:=[]) cfgOK (cfgOK.slice (t:=22) (e:=3) rfl rfl rfl).1 dk dk dk dk dk [(2,.sl 0 0 true nilG),(0,.osl 0 0 r.length true)] [(0,some (.row 1 r.length (rowG iV 0 r)))] 9 rfl rfl ?_ (fun hn=>?_) ?_
 ·exact rfl
 ·(conv=>whnf)
  have hn:r.length=0:=hn
  refine ⟨[],[(1,none)],?_⟩
  (conv=>whnf)
  exact ⟨⟨rfl,trivial,⟨⟨rfl,rfl,fun _ _=>.refl _⟩,hn,trivial⟩⟩,⟨rfl,rfl,rfl,rfl,rfl,hn⟩⟩
 ·(conv=>whnf)
  refine ⟨by rw [Nat.zero_add]; exact h1,?_⟩
  (conv=>whnf)
  refine ⟨[],[(1,some 25)],?_⟩
  (conv=>whnf)
  exact ⟨⟨rfl,trivial,⟨⟨rfl,rfl,fun _ _=>.refl _⟩,⟨rfl,Nat.zero_add _,iC (l:=[]) rfl (fun _ h=>absurd h (Nat.not_lt_zero _)) rfl (fun _ _=>.refl _)⟩,trivial⟩⟩,⟨rfl,rfl,rfl,Nat.zero_add _,nofun⟩⟩
theorem wY {m_:Int} {l6:Int} {r:Bool} (hm:yR m_ l6 r):S 76 [iV m_,.ro [iV l6]] [] (.bool r) [] :=sp Tryz.func76 rfl<|by cases hm;exact re
theorem wF {s_:(List Int)} {f_:Int} {r:Int} (hm:qz s_ f_ r):S 130 [aD s_,.fn 76 [.ro [iV f_]]] [] (iV r) [] :=sp Tryz.func130 rfl<|l0 hm (fun g1=>⟨[(0,aD s_),(1,.fn 76 [.ro [iV f_]]),(7,iV (s_.length:Int)),(8,iV g1)],[],0⟩) <|fun aj g1 hm=>si hm (fun _ hm=>sn hm fun _ hm=>sq hm wY fun v3 hm=>si hm (fun _ hm=>by cases hm;exact re) fun _ hm=>sn hm fun _ hm=>le hm) fun _ hm=>by cases hm;exact re
theorem zF {TH:Int} {dz:(List Int)} {r:(Nat×(List Int))} (hm:sQ TH dz r):S 75 [.osl 0 0 dz.length false,.fn 76 [.ro [iV TH]]] [.row 1 dz.length (rowG iV 0 dz)] (.osl 0 0 r.1 false) [.row 1 r.2.length (rowG iV 0 r.2)] :=sp Tryz.func75 rfl<|sq hm wF fun v1 hm=>si hm (fun _ hm=>by cases hm;exact re) fun _ hm=>sn hm fun _ hm=>l0 hm (fun g1=>⟨[(0,.osl 0 0 g1.2.2.length false),(1,.fn 76 [.ro [iV TH]]),(5,iV g1.1),(6,iV g1.2.1)],[(0,some (.row 1 g1.2.2.length (rowG iV 0 g1.2.2)))],1⟩) <|fun aj g1 hm=>si hm (fun _ hm=>sn hm fun _ hm=>sq hm wY fun v4 hm=>si hm (fun _ hm=>s2 hm fun _ _ hm=>sn hm fun _ hm=>le hm) fun _ hm=>sn hm fun _ hm=>le hm) fun _ hm=>s2 hm fun _ _ hm=>by cases hm;exact rt [] [] (by (conv=>whnf);exact ⟨⟨rfl,trivial,⟨⟨rfl,oz,(R9 rfl (fun _ _=>.refl _) oz (KL iV 0))⟩,trivial⟩⟩,⟨rfl,rfl,rfl,rfl,nofun⟩⟩)
theorem LH {b_:bf} {l_:(List aL)} {g_:bM} {aR:Int} {dz:(List Int)} {r:(bM×Int)} (hm:KQ b_ l_ g_ aR dz r):S 32 [gZ b_,dI l_,.osl 0 0 dz.length true,jW g_,iV aR] [.row 1 dz.length (rowG iV 0 dz)] (.tup [jW r.1,iV r.2]) [.row 1 dz.length (rowG iV 0 dz)] :=sp Tryz.func32 rfl<|sb hm fun v1 hv1 hm=>cl ((AZ hv1).le ⟨.refl _,.refl _,(.sl rfl (fun _=>rfl) nofun (fun _ _=>.refl _)),.refl _,.refl _,trivial⟩ trivial)<|si hm (fun _ hm=>by cases hm;exact re) fun _ hm=>sb hm fun v2 hv2 hm=>cl ((eY hv2).le ⟨(.sl rfl (fun _=>rfl) nofun (fun _ _=>.refl _)),.refl _,trivial⟩ trivial)<|si hm (fun _ hm=>by cases hm;exact re) fun _ hm=>sq hm BX fun v3 hm=>sq hm zF fun v4 hm=>by
 have h1:=hm.1
 have hm:=hm.2
 refine fV hm fun v5 hv5 hm=>?_
 refine ⟨_,_,((uo hv5).le ⟨.refl _,.refl _,(.sl oz (fun _=>rfl) nofun (jI (f:=iV) (d:=0) (by first | omega | exact Nat.min_le_left _ _ | exact Nat.le_trans (Nat.min_le_left _ _) om | (simp; omega)))),.refl _,trivial⟩ trivial),?_⟩
 (conv=>whnf)
 have hm:r=((⟨v5.1,(⟨v5.2.1,v5.2.2.1⟩:dB),v5.2.2.2.2.2.2.2,v5.2.2.2.1,v5.2.2.2.2.1⟩:bM),v5.2.2.2.2.2.2.1):=hm
 subst hm
 refine ⟨[225],[],?_⟩
 (conv=>whnf)
 exact ⟨⟨rfl,trivial,⟨⟨rfl,rfl,(fun _ _=>.refl _)⟩,trivial⟩⟩,(by (conv=>whnf); exact ⟨(by (conv=>whnf); exact ⟨(by (conv=>whnf); exact sf),(by (conv=>whnf); exact ⟨(by (conv=>whnf); exact sf),(by (conv=>whnf); exact ⟨(by (conv=>whnf); exact sf),(by (conv=>whnf); exact ⟨(by (conv=>whnf); exact sf),(by (conv=>whnf); exact ⟨(by (conv=>whnf); exact sf),(by (conv=>whnf); exact ⟨(by (conv=>whnf); exact sf),trivial⟩)⟩)⟩)⟩)⟩)⟩),(by (conv=>whnf); exact ⟨(by first | ((conv=>whnf); exact r2) | exact r2),trivial⟩)⟩)⟩
theorem j3  {r:Bool} (hm:lU r):S 9 [] [] (.bool r) [] :=sp Tryz.func9 rfl<|sb hm fun v1 hv1 hm=>cl ((Oq hv1).le ⟨(Le.aggL ⟨(.sl rfl (fun h=>absurd rfl h) nofun (fun _ h=>absurd h (Nat.not_lt_zero _))),(.sl rfl (fun h=>absurd rfl h) nofun (fun _ h=>absurd h (Nat.not_lt_zero _))),(.refl _),(.sl rfl (fun h=>absurd rfl h) nofun (fun _ h=>absurd h (Nat.not_lt_zero _))),(.sl rfl (fun h=>absurd rfl h) nofun (fun _ h=>absurd h (Nat.not_lt_zero _))),(.sl rfl (fun h=>absurd rfl h) nofun (fun _ h=>absurd h (Nat.not_lt_zero _))),trivial⟩),trivial⟩ trivial)<|sb hm fun v2 hv2 hm=>cl ((A8 hv2).le ⟨(Le.aggL ⟨(.sl rfl (fun h=>absurd rfl h) nofun (fun _ h=>absurd h (Nat.not_lt_zero _))),(.sl rfl (fun h=>absurd rfl h) nofun (fun _ h=>absurd h (Nat.not_lt_zero _))),(.refl _),(.sl rfl (fun h=>absurd rfl h) nofun (fun _ h=>absurd h (Nat.not_lt_zero _))),(.sl rfl (fun h=>absurd rfl h) nofun (fun _ h=>absurd h (Nat.not_lt_zero _))),(.sl rfl (fun h=>absurd rfl h) nofun (fun _ h=>absurd h (Nat.not_lt_zero _))),trivial⟩),(.sl rfl (fun _=>rfl) nofun (qL (Le.aggL ⟨(.sl rfl (fun h=>absurd rfl h) nofun (fun _ h=>absurd h (Nat.not_lt_zero _))),(.sl rfl (fun h=>absurd rfl h) nofun (fun _ h=>absurd h (Nat.not_lt_zero _))),(.sl rfl (fun h=>absurd rfl h) nofun (fun _ h=>absurd h (Nat.not_lt_zero _))),(.sl rfl (fun h=>absurd rfl h) nofun (fun _ h=>absurd h (Nat.not_lt_zero _))),(.refl _),(.sl rfl (fun h=>absurd rfl h) nofun (fun _ h=>absurd h (Nat.not_lt_zero _))),trivial⟩) (fun _ h=>absurd h (Nat.not_lt_zero _)))),(.sl rfl (fun h=>absurd rfl h) nofun (fun _ h=>absurd h (Nat.not_lt_zero _))),.refl _,.refl _,trivial⟩ trivial)<|sb hm fun v3 hv3 hm=>cl ((LH hv3).le ⟨(Le.aggL ⟨(.sl rfl (fun h=>absurd rfl h) nofun (fun _ h=>absurd h (Nat.not_lt_zero _))),(.sl rfl (fun h=>absurd rfl h) nofun (fun _ h=>absurd h (Nat.not_lt_zero _))),(.refl _),(.sl rfl (fun h=>absurd rfl h) nofun (fun _ h=>absurd h (Nat.not_lt_zero _))),(.sl rfl (fun h=>absurd rfl h) nofun (fun _ h=>absurd h (Nat.not_lt_zero _))),(.sl rfl (fun h=>absurd rfl h) nofun (fun _ h=>absurd h (Nat.not_lt_zero _))),trivial⟩),(.sl rfl (fun _=>rfl) nofun (qL (Le.aggL ⟨(.sl rfl (fun h=>absurd rfl h) nofun (fun _ h=>absurd h (Nat.not_lt_zero _))),(.sl rfl (fun h=>absurd rfl h) nofun (fun _ h=>absurd h (Nat.not_lt_zero _))),(.sl rfl (fun h=>absurd rfl h) nofun (fun _ h=>absurd h (Nat.not_lt_zero _))),(.sl rfl (fun h=>absurd rfl h) nofun (fun _ h=>absurd h (Nat.not_lt_zero _))),(.refl _),(.sl rfl (fun h=>absurd rfl h) nofun (fun _ h=>absurd h (Nat.not_lt_zero _))),trivial⟩) (fun _ h=>absurd h (Nat.not_lt_zero _)))),.refl _,.refl _,.refl _,trivial⟩ ⟨⟨rfl,rfl,(fB iV 0 [(0:Int)])⟩,trivial⟩)<|si hm (fun _ hm=>si hm (fun _ hm=>sb hm fun v4 hv4 hm=>cl (fun q0=>((Dg (hv4 q0)).le ⟨(Le.aggL ⟨(.sl rfl (fun h=>absurd rfl h) nofun (fun _ h=>absurd h (Nat.not_lt_zero _))),(.sl rfl (fun h=>absurd rfl h) nofun (fun _ h=>absurd h (Nat.not_lt_zero _))),(.refl _),(.sl rfl (fun h=>absurd rfl h) nofun (fun _ h=>absurd h (Nat.not_lt_zero _))),(.sl rfl (fun h=>absurd rfl h) nofun (fun _ h=>absurd h (Nat.not_lt_zero _))),(.sl rfl (fun h=>absurd rfl h) nofun (fun _ h=>absurd h (Nat.not_lt_zero _))),trivial⟩),(.sl rfl (fun _=>rfl) nofun (qL (Le.aggL ⟨(.sl rfl (fun h=>absurd rfl h) nofun (fun _ h=>absurd h (Nat.not_lt_zero _))),(.sl rfl (fun h=>absurd rfl h) nofun (fun _ h=>absurd h (Nat.not_lt_zero _))),(.sl rfl (fun h=>absurd rfl h) nofun (fun _ h=>absurd h (Nat.not_lt_zero _))),(.sl rfl (fun h=>absurd rfl h) nofun (fun _ h=>absurd h (Nat.not_lt_zero _))),(.refl _),(.sl rfl (fun h=>absurd rfl h) nofun (fun _ h=>absurd h (Nat.not_lt_zero _))),trivial⟩) (fun _ h=>absurd h (Nat.not_lt_zero _)))),(.sl rfl (fun _=>rfl) nofun (fB iV 0 [(0:Int)])),.refl _,trivial⟩ trivial))<|by cases hm;exact re) fun c2 hm=>by
 refine ⟨.bool false,[],(fun q0=>absurd q0 (Uk c2)),?_⟩
 (conv=>whnf)
 have hm:r=(((((v1.2==(0:Int))&&(v2.2.2==(0:Int)))&&(v2.2.1==(0:Int)))&&(v3.2==(0:Int)))&&false):=hm
 subst hm
 refine ⟨[],[],?_⟩
 (conv=>whnf)
 exact ⟨⟨rfl,trivial,trivial⟩,rfl⟩) fun c1 hm=>si hm (fun _ hm=>by
 refine ⟨.bool false,[],(fun q0=>absurd q0 (Uk c1)),?_⟩
 (conv=>whnf)
 have hm:r=(((((v1.2==(0:Int))&&(v2.2.2==(0:Int)))&&(v2.2.1==(0:Int)))&&(v3.2==(0:Int)))&&false):=hm
 subst hm
 refine ⟨[],[],?_⟩
 (conv=>whnf)
 exact ⟨⟨rfl,trivial,trivial⟩,rfl⟩) fun _ hm=>by
 refine ⟨.bool false,[],(fun q0=>absurd q0 (Uk c1)),?_⟩
 (conv=>whnf)
 have hm:r=(((((v1.2==(0:Int))&&(v2.2.2==(0:Int)))&&(v2.2.1==(0:Int)))&&(v3.2==(0:Int)))&&false):=hm
 subst hm
 refine ⟨[],[],?_⟩
 (conv=>whnf)
 exact ⟨⟨rfl,trivial,trivial⟩,rfl⟩
theorem Ql {l_:(List Int)} {r:((List Int)×Int)} (hm:IE l_ r):S 10 [aD l_] [] (.ptr 0 0 0) [.box [aD r.1,iV r.2]] :=sp Tryz.func10 rfl<|sn hm fun _ hm=>by cases hm;exact rt [] [(0,some 56)]
theorem Qm {x_:Int} {n_:Int} {r:Int} (hm:IG x_ n_ r):S 70 [iV x_,iV n_] [] (iV r) [] :=sp Tryz.func70 rfl<|si hm (fun _ hm=>by cases hm;exact re) fun _ hm=>s2 hm fun _ _ hm=>sn hm fun _ hm=>by cases hm;exact re
theorem bS {n_:Int} {dz:cu} {r:(Int×cu)} (hm:dP n_ dz r):S 30 [.ptr 0 0 0,iV n_] [.box [aD dz.L,iV dz.At]] (iV r.1) [.box [aD r.2.L,iV r.2.At]] :=sp Tryz.func30 rfl<|si hm (fun _ hm=>by cases hm;exact re) fun _ hm=>s2 hm fun _ _ hm=>sn hm fun _ hm=>sq hm Qm fun v1 hm=>by cases hm;exact re
theorem fE {l_:(List Int)} {dz:cu} {r:(Int×cu)} (hm:fQ l_ dz r):S 56 [.ptr 0 0 0,aD l_] [.box [aD dz.L,iV dz.At]] (iV r.1) [.box [aD r.2.L,iV r.2.At]] :=sp Tryz.func56 rfl<|sq hm bS fun v1 hm=>sn hm fun _ hm=>by cases hm;exact re
theorem F3 {dz:cu} {r:((List aH)×cu)} (hm:nS dz r):S 79 [.ptr 0 0 0] [.box [aD dz.L,iV dz.At]] (bn r.1) [.box [aD r.2.L,iV r.2.At]] :=Rl [20,22] Tryz.func79 rfl<|sq hm bS fun v1 hm=>Md [20,22] hm (fun g1=>⟨[(0,.ptr 0 0 0),(3,.osl 1 0 g1.2.2.2.length false),(4,iV g1.1)],[(0,some (.box [aD g1.2.1,iV g1.2.2.1])),(1,some (.row 5 g1.2.2.2.length (rowG Gb aI g1.2.2.2)))],2⟩) [(1,none)] [] <|fun aj g1 hm=>si hm (fun _ hm=>sb hm fun v28 hv28 hm=>cl ((fE hv28).le ⟨.refl _,(.sl rfl (fun _=>rfl) nofun (fB iV 0 [(12:Int),(24:Int),(48:Int),(100:Int)])),trivial⟩ ⟨jf _,trivial⟩)<|ck [20,22] (dS g1 aj) r (fun g7=>⟨[(0,.ptr 0 0 0),(3,.osl 1 0 g1.2.2.2.length false),(4,iV g1.1),(5,.ptr 2 0 0)],[(0,some (.box [aD g7.1,iV g7.2.1])),(1,some (.row 5 g1.2.2.2.length (rowG Gb aI g1.2.2.2))),(2,some (.box [iV g7.2.2.1,.osl 3 0 g7.2.2.2.2.1.length false,.osl 4 0 g7.2.2.2.2.2.length false,iV (0:Int),iV g7.2.2.2.1])),(3,some (.row 1 g7.2.2.2.2.1.length (rowG iV 0 g7.2.2.2.2.1))),(4,some (.row 1 g7.2.2.2.2.2.length (rowG iV 0 g7.2.2.2.2.2)))],5⟩) (si hm (fun _ hm=>sq hm bS fun v41 hm=>si hm (fun _ hm=>sq hm bS fun v42 hm=>ck [20,22] (fA g1 aj) r (fun g8=>⟨[(0,.ptr 0 0 0),(3,.osl 1 0 g1.2.2.2.length false),(4,iV g1.1),(5,.ptr 2 0 0),(25,iV v41.1)],[(0,some (.box [aD g8.1,iV g8.2.1])),(1,some (.row 5 g1.2.2.2.length (rowG Gb aI g1.2.2.2))),(2,some (.box [iV g8.2.2.1,.osl 3 0 g8.2.2.2.1.length false,.osl 4 0 g8.2.2.2.2.length false,iV (0:Int),iV (0:Int)])),(3,some (.row 1 g8.2.2.2.1.length (rowG iV 0 g8.2.2.2.1))),(4,some (.row 1 g8.2.2.2.2.length (rowG iV 0 g8.2.2.2.2)))],5⟩) (sq hm bS fun v49 hm=>si hm (fun _ hm=>sb hm fun v50 Si hm=>cl ((fE Si).le ⟨.refl _,(.sl rfl (fun _=>rfl) nofun (fB iV 0 [(3:Int),(4:Int),(8:Int)])),trivial⟩ ⟨jf _,trivial⟩)<|lc [(2,some 58),(3,some 178),(4,some 258)] [] hm) fun _ hm=>si hm (fun _ hm=>sb hm fun v51 Zw hm=>cl ((fE Zw).le ⟨.refl _,(.sl rfl (fun _=>rfl) nofun (fB iV 0 [(2:Int),(3:Int)])),trivial⟩ ⟨jf _,trivial⟩)<|lc [(2,some 58),(3,some 178),(4,some 274)] [] hm) fun _ hm=>si hm (fun _ hm=>lc [(2,some 58),(3,some 178),(4,some 266)] [] hm) fun _ hm=>si hm (fun _ hm=>sn hm fun _ hm=>sq hm bS fun v52 hm=>sn hm fun _ hm=>lc [(2,some 58),(3,some 346),(4,some 354)] [] hm) fun _ hm=>lc [(2,some 58),(3,some 178),(4,some 282)] [] hm) fun g8 hm=>sq hm bS fun v47 hm=>si hm (fun _ hm=>sb hm fun v48 Pz hm=>cl ((fE Pz).le ⟨.refl _,(.sl rfl (fun _=>rfl) nofun (fB iV 0 [(24:Int),(48:Int),(96:Int)])),trivial⟩ ⟨jf _,trivial⟩)<|le hm) fun _ hm=>le hm) fun _ hm=>lc [(2,some 58),(3,none),(4,some 42)] [] hm) fun c37 hm=>by
 refine ⟨(fun q0=>absurd q0 (Uk c37)),?_⟩
 (conv=>whnf)
 refine aZ hm fun h28 hm=>?_
 (conv=>whnf)
 exact ⟨(v28.2.L,v28.2.At,(1:Int),(0:Int),([]:List Int),([v28.1]:List Int)),[(2,some 58),(3,none),(4,some 42)],[],hm,⟨rfl,⟨r4,⟨rfl,rfl,rfl,rfl,nofun⟩,r2,r4,trivial⟩,⟨⟨sf,r2,trivial⟩,⟨rfl,rfl,(fun _ _=>.refl _)⟩,⟨r2,⟨rfl,rfl,rfl,rfl,rfl,rfl⟩,⟨rfl,rfl,rfl,rfl,nofun⟩,r2,r2,trivial⟩,rfl,⟨rfl,rfl,(fB iV 0 [v28.1])⟩,trivial⟩⟩⟩) fun g7 hm=>s2 hm fun _ _ hm=>lc [(1,some 29)] [] hm) fun _ hm=>by cases hm;exact rt [1] []
theorem jo {qE:Int} {sD:Int} {dz:cu} {r:(Int×cu)} (hm:iJ qE sD dz r):S 54 [.ptr 0 0 0,iV qE,iV sD] [.box [aD dz.L,iV dz.At]] (iV r.1) [.box [aD r.2.L,iV r.2.At]] :=sp Tryz.func54 rfl<|s2 hm fun _ _ hm=>sq hm bS fun v1 hm=>sn hm fun _ hm=>by cases hm;exact re
theorem Di {dz:cu} {r:((List aG)×cu)} (hm:lV dz r):S 80 [.ptr 0 0 0] [.box [aD dz.L,iV dz.At]] (aT r.1) [.box [aD r.2.L,iV r.2.At]] :=Rl [8] Tryz.func80 rfl<|sq hm bS fun v1 hm=>Md [8] hm (fun g1=>⟨[(0,.ptr 0 0 0),(3,.osl 1 0 g1.2.2.2.length false),(4,iV g1.1)],[(0,some (.box [aD g1.2.1,iV g1.2.2.1])),(1,some (.row 5 g1.2.2.2.length (rowG xg aC g1.2.2.2)))],2⟩) [(1,none)] [] <|fun aj g1 hm=>si hm (fun _ hm=>sn hm fun _ hm=>sq hm jo fun v12 hm=>sb hm fun v13 QM hm=>cl ((fE QM).le ⟨.refl _,(.sl rfl (fun _=>rfl) nofun (fB iV 0 [(0:Int),(0:Int),(100:Int),(300:Int)])),trivial⟩ ⟨jf _,trivial⟩)<|sb hm fun v14 QN hm=>cl ((fE QN).le ⟨.refl _,(.sl rfl (fun _=>rfl) nofun (fB iV 0 [(100:Int),(300:Int),(1000:Int)])),trivial⟩ ⟨jf _,trivial⟩)<|sq hm bS fun v15 hm=>ck [8] (iN g1 aj v12 v14 v15) r (fun g4=>⟨[(0,.ptr 0 0 0),(3,.osl 1 0 g1.2.2.2.length false),(4,iV g1.1),(5,.ptr 2 0 0)],[(0,some (.box [aD v15.2.L,iV v15.2.At])),(1,some (.row 5 g1.2.2.2.length (rowG xg aC g1.2.2.2))),(2,some (.box [iV v12.1,.sl 0 0 true nilG,iV g4,iV v14.1,.bool (v15.1==(7:Int))]))],3⟩) (si hm (fun _ hm=>lc [(2,some 138)] [] hm) fun _ hm=>lc [(2,some 138)] [] hm) fun g4 hm=>sq hm bS fun v16 hm=>sn hm fun _ hm=>by
 rcases (by omega:v16.1=0∨v16.1=1∨v16.1=2∨v16.1=3∨v16.1=4) with e1 | e1 | e1 | e1 | e1
 ·rw [e1] at hm ⊢
  (conv=>whnf)
  refine aZ hm fun h27 hm=>?_
  (conv=>whnf)
  refine aZ hm fun h28 hm=>?_
  (conv=>whnf)
  exact ⟨((g1.1 - (1:Int)),v16.2.L,v16.2.At,(g1.2.2.2++([(⟨v12.1,([(1000:Int),(1200:Int)]:List Int),g4,v14.1,(v15.1==(7:Int))⟩:aG)]:List aG))),[(1,some 123)],[],hm,⟨rfl,⟨r4,⟨rfl,rfl,rfl,oz,nofun⟩,r2,trivial⟩,⟨⟨sf,r2,trivial⟩,⟨rfl,oz,(iC rfl (fun _ _=>.refl _) rfl (qL (Le.aggL ⟨(.refl _),(.sl rfl (fun _=>rfl) nofun (fB iV 0 [(1000:Int),(1200:Int)])),(.refl _),(.refl _),(.refl _),trivial⟩) (fun _ h=>absurd h (Nat.not_lt_zero _))))⟩,trivial⟩⟩⟩
 ·rw [e1] at hm ⊢
  (conv=>whnf)
  refine aZ hm fun h29 hm=>?_
  (conv=>whnf)
  refine aZ hm fun h30 hm=>?_
  (conv=>whnf)
  exact ⟨((g1.1 - (1:Int)),v16.2.L,v16.2.At,(g1.2.2.2++([(⟨v12.1,([(1800:Int),(3300:Int)]:List Int),g4,v14.1,(v15.1==(7:Int))⟩:aG)]:List aG))),[(1,some 123)],[],hm,⟨rfl,⟨r4,⟨rfl,rfl,rfl,oz,nofun⟩,r2,trivial⟩,⟨⟨sf,r2,trivial⟩,⟨rfl,oz,(iC rfl (fun _ _=>.refl _) rfl (qL (Le.aggL ⟨(.refl _),(.sl rfl (fun _=>rfl) nofun (fB iV 0 [(1800:Int),(3300:Int)])),(.refl _),(.refl _),(.refl _),trivial⟩) (fun _ h=>absurd h (Nat.not_lt_zero _))))⟩,trivial⟩⟩⟩
 ·rw [e1] at hm ⊢
  (conv=>whnf)
  refine aZ hm fun h31 hm=>?_
  (conv=>whnf)
  refine aZ hm fun h32 hm=>?_
  (conv=>whnf)
  exact ⟨((g1.1 - (1:Int)),v16.2.L,v16.2.At,(g1.2.2.2++([(⟨v12.1,([(1000:Int),(1800:Int),(3300:Int)]:List Int),g4,v14.1,(v15.1==(7:Int))⟩:aG)]:List aG))),[(1,some 123)],[],hm,⟨rfl,⟨r4,⟨rfl,rfl,rfl,oz,nofun⟩,r2,trivial⟩,⟨⟨sf,r2,trivial⟩,⟨rfl,oz,(iC rfl (fun _ _=>.refl _) rfl (qL (Le.aggL ⟨(.refl _),(.sl rfl (fun _=>rfl) nofun (fB iV 0 [(1000:Int),(1800:Int),(3300:Int)])),(.refl _),(.refl _),(.refl _),trivial⟩) (fun _ h=>absurd h (Nat.not_lt_zero _))))⟩,trivial⟩⟩⟩
 ·rw [e1] at hm ⊢
  (conv=>whnf)
  refine aZ hm fun h33 hm=>?_
  (conv=>whnf)
  refine aZ hm fun h34 hm=>?_
  (conv=>whnf)
  exact ⟨((g1.1 - (1:Int)),v16.2.L,v16.2.At,(g1.2.2.2++([(⟨v12.1,([(3300:Int),(5000:Int)]:List Int),g4,v14.1,(v15.1==(7:Int))⟩:aG)]:List aG))),[(1,some 123)],[],hm,⟨rfl,⟨r4,⟨rfl,rfl,rfl,oz,nofun⟩,r2,trivial⟩,⟨⟨sf,r2,trivial⟩,⟨rfl,oz,(iC rfl (fun _ _=>.refl _) rfl (qL (Le.aggL ⟨(.refl _),(.sl rfl (fun _=>rfl) nofun (fB iV 0 [(3300:Int),(5000:Int)])),(.refl _),(.refl _),(.refl _),trivial⟩) (fun _ h=>absurd h (Nat.not_lt_zero _))))⟩,trivial⟩⟩⟩
 ·rw [e1] at hm ⊢
  (conv=>whnf)
  refine aZ hm fun h35 hm=>?_
  (conv=>whnf)
  refine aZ hm fun h36 hm=>?_
  (conv=>whnf)
  exact ⟨((g1.1 - (1:Int)),v16.2.L,v16.2.At,(g1.2.2.2++([(⟨v12.1,([(900:Int)]:List Int),g4,v14.1,(v15.1==(7:Int))⟩:aG)]:List aG))),[(1,some 123)],[],hm,⟨rfl,⟨r4,⟨rfl,rfl,rfl,oz,nofun⟩,r2,trivial⟩,⟨⟨sf,r2,trivial⟩,⟨rfl,oz,(iC rfl (fun _ _=>.refl _) rfl (qL (Le.aggL ⟨(.refl _),(.sl rfl (fun _=>rfl) nofun (fB iV 0 [(900:Int)])),(.refl _),(.refl _),(.refl _),trivial⟩) (fun _ h=>absurd h (Nat.not_lt_zero _))))⟩,trivial⟩⟩⟩) fun _ hm=>by cases hm;exact rt [1] []
theorem kV  {r:(List ByteArray)} (hm:kX r):S 132 [] [] (eZ r) [] :=sp Tryz.func132 rfl<|by cases hm;exact rt [8] []
theorem F4 {dz:cu} {r:(aX×cu)} (hm:nT dz r):S 81 [.ptr 0 0 0] [.box [aD dz.L,iV dz.At]] (jq r.1) [.box [aD r.2.L,iV r.2.At]] :=Rl [13,17] Tryz.func81 rfl<|sq hm jo fun v1 hm=>sq hm bS fun v2 hm=>Md [13,17] hm (fun g1=>⟨[(0,.ptr 0 0 0),(2,.ptr 1 0 0),(3,.ptr 2 0 0),(4,iV g1.1)],[(0,some (.box [aD g1.2.1,iV g1.2.2.1])),(1,some (.box [iV (0:Int),.sl 0 0 true nilG])),(2,some (.box [iV v1.1,.osl 3 0 g1.2.2.2.length false])),(3,some (.row 3 g1.2.2.2.length (rowG kL ay g1.2.2.2)))],4⟩) [(2,some 33),(3,none)] [] <|fun aj g1 hm=>si hm (fun _ hm=>sn hm fun _ hm=>by
 refine ⟨(Xa (es:=[.int .u8 (IntKind.u8.wrap ((97:Int)+(g1.2.2.2.length:Int)))]) rfl),?_⟩
 (conv=>whnf)
 refine aZ hm fun h74 hm=>?_
 (conv=>whnf)
 refine fV hm fun v35 ZC hm=>?_
 refine ⟨_,_,(bS ZC),?_⟩
 (conv=>whnf)
 refine qh (ct:=[13,17]) cfgOK dk hm (fun g12=>⟨[(0,.ptr 0 0 0),(2,.ptr 1 0 0),(3,.ptr 2 0 0),(4,iV g1.1),(5,.ptr 3 0 0),(6,iV v35.1),(7,iV g12.1)],[(0,some (.box [aD g12.2.1,iV g12.2.2.1])),(1,some (.box [iV (0:Int),.sl 0 0 true nilG])),(2,some (.box [iV v1.1,.osl 4 0 g1.2.2.2.length false])),(3,some (.box [.str (({ data:=#[103] }:ByteArray)++(strOf ([(IntKind.u8.wrap ((97:Int)+(g1.2.2.2.length:Int)))]:List Int))),.osl 5 0 g12.2.2.2.length false,.sl 0 0 true nilG])),(4,some (.row 3 g1.2.2.2.length (rowG kL ay g1.2.2.2))),(5,some (.row 1 g12.2.2.2.length (rowG iV 0 g12.2.2.2)))],6⟩) [(3,some 92),(4,some 3),(5,none)] [] ⟨rfl,⟨r4,r4,r4,r2,r4,r2,r2,trivial⟩,⟨⟨sf,r2,trivial⟩,⟨r2,sr,trivial⟩,⟨r2,⟨rfl,rfl,rfl,rfl,nofun⟩,trivial⟩,⟨rfl,⟨rfl,rfl,rfl,rfl,rfl,rfl⟩,sr,trivial⟩,⟨rfl,rfl,(fun _ _=>.refl _)⟩,rfl,trivial⟩⟩ ?_
 intro UH g12 hm
 (conv=>whnf)
 refine gI hm (fun c36 hm=>?_) (fun c36 hm=>?_)
 ·(conv=>whnf)
  refine fV hm fun v38 hv38 hm=>?_
  refine ⟨_,_,(jo hv38),?_⟩
  (conv=>whnf)
  refine aZ hm fun h83 hm=>?_
  (conv=>whnf)
  refine gI hm (fun c37 hm=>?_) (fun c37 hm=>?_)
  ·(conv=>whnf)
   refine aZ hm fun h84 hm=>?_
   (conv=>whnf)
   refine aZ hm fun h85 hm=>?_
   (conv=>whnf)
   exact ⟨((g12.1+(1:Int)),v38.2.L,v38.2.At,(g12.2.2.2++([g12.1]:List Int))),[(5,some 134)],[],hm,⟨rfl,⟨r4,r4,r4,r2,r4,r2,r2,trivial⟩,⟨⟨sf,r2,trivial⟩,⟨r2,sr,trivial⟩,⟨r2,⟨rfl,rfl,rfl,rfl,nofun⟩,trivial⟩,⟨rfl,⟨rfl,rfl,rfl,oz,nofun⟩,sr,trivial⟩,⟨rfl,rfl,(fun _ _=>.refl _)⟩,⟨rfl,oz,(iC rfl (fun _ _=>.refl _) rfl (fB iV 0 [g12.1]))⟩,trivial⟩⟩⟩
  ·(conv=>whnf)
   refine O7 (ct:=[13,17]) cfgOK dk dk (jh g1 aj v38) r (fun g13=>⟨[(0,.ptr 0 0 0),(2,.ptr 1 0 0),(3,.ptr 2 0 0),(4,iV g1.1),(5,.ptr 3 0 0),(40,iV v38.1)],[(0,some (.box [aD v38.2.L,iV v38.2.At])),(1,some (.box [iV (0:Int),.sl 0 0 true nilG])),(2,some (.box [iV v1.1,.osl 4 0 g1.2.2.2.length false])),(3,some (.box [.str (({ data:=#[103] }:ByteArray)++(strOf ([(IntKind.u8.wrap ((97:Int)+(g1.2.2.2.length:Int)))]:List Int))),.osl 5 0 g13.length false,.sl 0 0 true nilG])),(4,some (.row 3 g1.2.2.2.length (rowG kL ay g1.2.2.2))),(5,some (.row 1 g13.length (rowG iV 0 g13)))],6⟩) ?_ (fun g13 hm=>?_)
   ·(conv=>whnf)
    refine gI hm (fun c41 hm=>?_) (fun c41 hm=>?_)
    ·(conv=>whnf)
     exact ⟨([v35.1]:List Int),[(5,some 142)],[],hm,⟨rfl,⟨r4,r4,r4,r2,r4,r2,trivial⟩,⟨⟨sr,r2,trivial⟩,⟨r2,sr,trivial⟩,⟨r2,⟨rfl,rfl,rfl,rfl,nofun⟩,trivial⟩,⟨rfl,⟨rfl,rfl,rfl,rfl,nofun⟩,sr,trivial⟩,⟨rfl,rfl,(fun _ _=>.refl _)⟩,⟨rfl,rfl,(fB iV 0 [v35.1])⟩,trivial⟩⟩⟩
    ·(conv=>whnf)
     exact ⟨g12.2.2.2,[],[],hm,⟨rfl,⟨r4,r4,r4,r2,r4,r2,trivial⟩,⟨⟨sr,r2,trivial⟩,⟨r2,sr,trivial⟩,⟨r2,⟨rfl,rfl,rfl,rfl,nofun⟩,trivial⟩,⟨rfl,⟨rfl,rfl,rfl,rfl,nofun⟩,sr,trivial⟩,⟨rfl,rfl,(fun _ _=>.refl _)⟩,⟨rfl,rfl,(fun _ _=>.refl _)⟩,trivial⟩⟩⟩
   ·(conv=>whnf)
    refine fV hm fun v39 hv39 hm=>?_
    refine ⟨_,_,(bS hv39),?_⟩
    (conv=>whnf)
    refine fV hm fun v40 Xx hm=>?_
    refine ⟨_,_,(kV Xx),?_⟩
    (conv=>whnf)
    refine aZ hm fun h86 hm=>?_
    (conv=>whnf)
    refine O7 (ct:=[13,17]) cfgOK dk dk (gN g1 aj g13) r (fun g14=>⟨[(0,.ptr 0 0 0),(2,.ptr 1 0 0),(3,.ptr 2 0 0),(4,iV g1.1),(5,.ptr 3 0 0),(40,iV v38.1)],[(0,some (.box [aD g14.1,iV g14.2.1])),(1,some (.box [iV (0:Int),.sl 0 0 true nilG])),(2,some (.box [iV v1.1,.osl 4 0 g1.2.2.2.length false])),(3,some (.box [.str (({ data:=#[103] }:ByteArray)++(strOf ([(IntKind.u8.wrap ((97:Int)+(g1.2.2.2.length:Int)))]:List Int))),.osl 5 0 g13.length false,.osl 6 0 g14.2.2.length false])),(4,some (.row 3 g1.2.2.2.length (rowG kL ay g1.2.2.2))),(5,some (.row 1 g13.length (rowG iV 0 g13))),(6,some (.row 1 g14.2.2.length (rowG AV.str ByteArray.empty g14.2.2)))],7⟩) ?_ (fun g14 hm=>?_)
    ·(conv=>whnf)
     refine fV hm fun v43 Xy hm=>?_
     refine ⟨_,_,(bS Xy),?_⟩
     (conv=>whnf)
     refine gI hm (fun c40 hm=>?_) (fun c40 hm=>?_)
     ·(conv=>whnf)
      refine fV hm fun v44 Xz hm=>?_
      refine ⟨_,_,(kV Xz),?_⟩
      (conv=>whnf)
      refine aZ hm fun h93 hm=>?_
      (conv=>whnf)
      refine aZ hm fun h94 hm=>?_
      (conv=>whnf)
      refine aZ hm fun h95 hm=>?_
      (conv=>whnf)
      refine aZ hm fun h96 hm=>?_
      (conv=>whnf)
      exact ⟨(v43.2.L,v43.2.At,(([(v40.getD v39.1.toNat ByteArray.empty)]:List ByteArray)++([(v44.getD (((v39.1+(1:Int)).tmod (4:Int)).toNat) ByteArray.empty)]:List ByteArray))),[(6,some 182)],[],hm,⟨rfl,⟨r4,r4,r4,r2,r4,r2,trivial⟩,⟨⟨sf,r2,trivial⟩,⟨r2,sr,trivial⟩,⟨r2,⟨rfl,rfl,rfl,rfl,nofun⟩,trivial⟩,⟨rfl,⟨rfl,rfl,rfl,rfl,nofun⟩,⟨rfl,rfl,rfl,oz,nofun⟩,trivial⟩,⟨rfl,rfl,(fun _ _=>.refl _)⟩,⟨rfl,rfl,(fun _ _=>.refl _)⟩,⟨rfl,oz,(iC rfl (fB AV.str ByteArray.empty [(v40.getD v39.1.toNat ByteArray.empty)]) rfl (fB AV.str ByteArray.empty [(v44.getD (((v39.1+(1:Int)).tmod (4:Int)).toNat) ByteArray.empty)]))⟩,trivial⟩⟩⟩
     ·(conv=>whnf)
      exact ⟨(v43.2.L,v43.2.At,([(v40.getD v39.1.toNat ByteArray.empty)]:List ByteArray)),[(6,some 62)],[],hm,⟨rfl,⟨r4,r4,r4,r2,r4,r2,trivial⟩,⟨⟨sf,r2,trivial⟩,⟨r2,sr,trivial⟩,⟨r2,⟨rfl,rfl,rfl,rfl,nofun⟩,trivial⟩,⟨rfl,⟨rfl,rfl,rfl,rfl,nofun⟩,⟨rfl,rfl,rfl,rfl,nofun⟩,trivial⟩,⟨rfl,rfl,(fun _ _=>.refl _)⟩,⟨rfl,rfl,(fun _ _=>.refl _)⟩,⟨rfl,rfl,(fB AV.str ByteArray.empty [(v40.getD v39.1.toNat ByteArray.empty)])⟩,trivial⟩⟩⟩
    ·(conv=>whnf)
     refine aZ hm fun h91 hm=>?_
     (conv=>whnf)
     refine aZ hm fun h92 hm=>?_
     (conv=>whnf)
     exact ⟨((g1.1 - (1:Int)),g14.1,g14.2.1,(g1.2.2.2++([(⟨(({ data:=#[103] }:ByteArray)++(strOf ([(IntKind.u8.wrap ((97:Int)+(g1.2.2.2.length:Int)))]:List Int))),g13,g14.2.2⟩:bR)]:List bR))),[(3,some 39)],[],hm,⟨rfl,⟨r4,r4,r4,r2,trivial⟩,⟨⟨sf,r2,trivial⟩,⟨r2,sr,trivial⟩,⟨r2,⟨rfl,rfl,rfl,oz,nofun⟩,trivial⟩,⟨rfl,oz,(iC rfl (fun _ _=>.refl _) rfl (fB kL ay [(⟨(({ data:=#[103] }:ByteArray)++(strOf ([(IntKind.u8.wrap ((97:Int)+(g1.2.2.2.length:Int)))]:List Int))),g13,g14.2.2⟩:bR)]))⟩,trivial⟩⟩⟩
 ·(conv=>whnf)
  refine ⟨(fun q0=>absurd q0 (Uk c36)),?_⟩
  (conv=>whnf)
  refine ⟨(fun q0=>absurd q0 (Uk c36)),?_⟩
  (conv=>whnf)
  refine aZ hm fun h97 hm=>?_
  (conv=>whnf)
  refine O7 (ct:=[13,17]) cfgOK dk dk (iG g1 aj g12) r (fun g15=>⟨[(0,.ptr 0 0 0),(2,.ptr 1 0 0),(3,.ptr 2 0 0),(4,iV g1.1),(5,.ptr 3 0 0)],[(0,some (.box [aD g12.2.1,iV g12.2.2.1])),(1,some (.box [iV (0:Int),.sl 0 0 true nilG])),(2,some (.box [iV v1.1,.osl 4 0 g1.2.2.2.length false])),(3,some (.box [.str (({ data:=#[103] }:ByteArray)++(strOf ([(IntKind.u8.wrap ((97:Int)+(g1.2.2.2.length:Int)))]:List Int))),.osl 5 0 g15.length false,.sl 0 0 true nilG])),(4,some (.row 3 g1.2.2.2.length (rowG kL ay g1.2.2.2))),(5,some (.row 1 g15.length (rowG iV 0 g15)))],6⟩) ?_ (fun g15 hm=>?_)
  ·(conv=>whnf)
   refine gI hm (fun c45 hm=>?_) (fun c45 hm=>?_)
   ·(conv=>whnf)
    exact ⟨([v35.1]:List Int),[(5,some 142)],[],hm,⟨rfl,⟨r4,r4,r4,r2,r4,trivial⟩,⟨⟨sr,r2,trivial⟩,⟨r2,sr,trivial⟩,⟨r2,⟨rfl,rfl,rfl,rfl,nofun⟩,trivial⟩,⟨rfl,⟨rfl,rfl,rfl,rfl,nofun⟩,sr,trivial⟩,⟨rfl,rfl,(fun _ _=>.refl _)⟩,⟨rfl,rfl,(fB iV 0 [v35.1])⟩,trivial⟩⟩⟩
   ·(conv=>whnf)
    exact ⟨g12.2.2.2,[],[],hm,⟨rfl,⟨r4,r4,r4,r2,r4,trivial⟩,⟨⟨sr,r2,trivial⟩,⟨r2,sr,trivial⟩,⟨r2,⟨rfl,rfl,rfl,rfl,nofun⟩,trivial⟩,⟨rfl,⟨rfl,rfl,rfl,rfl,nofun⟩,sr,trivial⟩,⟨rfl,rfl,(fun _ _=>.refl _)⟩,⟨rfl,rfl,(fun _ _=>.refl _)⟩,trivial⟩⟩⟩
  ·(conv=>whnf)
   refine fV hm fun v45 XA hm=>?_
   refine ⟨_,_,(bS XA),?_⟩
   (conv=>whnf)
   refine fV hm fun v46 UN hm=>?_
   refine ⟨_,_,(kV UN),?_⟩
   (conv=>whnf)
   refine aZ hm fun h98 hm=>?_
   (conv=>whnf)
   refine O7 (ct:=[13,17]) cfgOK dk dk (gq g1 aj g15) r (fun g16=>⟨[(0,.ptr 0 0 0),(2,.ptr 1 0 0),(3,.ptr 2 0 0),(4,iV g1.1),(5,.ptr 3 0 0)],[(0,some (.box [aD g16.1,iV g16.2.1])),(1,some (.box [iV (0:Int),.sl 0 0 true nilG])),(2,some (.box [iV v1.1,.osl 4 0 g1.2.2.2.length false])),(3,some (.box [.str (({ data:=#[103] }:ByteArray)++(strOf ([(IntKind.u8.wrap ((97:Int)+(g1.2.2.2.length:Int)))]:List Int))),.osl 5 0 g15.length false,.osl 6 0 g16.2.2.length false])),(4,some (.row 3 g1.2.2.2.length (rowG kL ay g1.2.2.2))),(5,some (.row 1 g15.length (rowG iV 0 g15))),(6,some (.row 1 g16.2.2.length (rowG AV.str ByteArray.empty g16.2.2)))],7⟩) ?_ (fun g16 hm=>?_)
   ·(conv=>whnf)
    refine fV hm fun v49 UM hm=>?_
    refine ⟨_,_,(bS UM),?_⟩
    (conv=>whnf)
    refine gI hm (fun c44 hm=>?_) (fun c44 hm=>?_)
    ·(conv=>whnf)
     refine fV hm fun v50 Si hm=>?_
     refine ⟨_,_,(kV Si),?_⟩
     (conv=>whnf)
     refine aZ hm fun aff hm=>?_
     (conv=>whnf)
     refine aZ hm fun afg hm=>?_
     (conv=>whnf)
     refine aZ hm fun afh hm=>?_
     (conv=>whnf)
     refine aZ hm fun afi hm=>?_
     (conv=>whnf)
     exact ⟨(v49.2.L,v49.2.At,(([(v46.getD v45.1.toNat ByteArray.empty)]:List ByteArray)++([(v50.getD (((v45.1+(1:Int)).tmod (4:Int)).toNat) ByteArray.empty)]:List ByteArray))),[(6,some 182)],[],hm,⟨rfl,⟨r4,r4,r4,r2,r4,trivial⟩,⟨⟨sf,r2,trivial⟩,⟨r2,sr,trivial⟩,⟨r2,⟨rfl,rfl,rfl,rfl,nofun⟩,trivial⟩,⟨rfl,⟨rfl,rfl,rfl,rfl,nofun⟩,⟨rfl,rfl,rfl,oz,nofun⟩,trivial⟩,⟨rfl,rfl,(fun _ _=>.refl _)⟩,⟨rfl,rfl,(fun _ _=>.refl _)⟩,⟨rfl,oz,(iC rfl (fB AV.str ByteArray.empty [(v46.getD v45.1.toNat ByteArray.empty)]) rfl (fB AV.str ByteArray.empty [(v50.getD (((v45.1+(1:Int)).tmod (4:Int)).toNat) ByteArray.empty)]))⟩,trivial⟩⟩⟩
    ·(conv=>whnf)
     exact ⟨(v49.2.L,v49.2.At,([(v46.getD v45.1.toNat ByteArray.empty)]:List ByteArray)),[(6,some 62)],[],hm,⟨rfl,⟨r4,r4,r4,r2,r4,trivial⟩,⟨⟨sf,r2,trivial⟩,⟨r2,sr,trivial⟩,⟨r2,⟨rfl,rfl,rfl,rfl,nofun⟩,trivial⟩,⟨rfl,⟨rfl,rfl,rfl,rfl,nofun⟩,⟨rfl,rfl,rfl,rfl,nofun⟩,trivial⟩,⟨rfl,rfl,(fun _ _=>.refl _)⟩,⟨rfl,rfl,(fun _ _=>.refl _)⟩,⟨rfl,rfl,(fB AV.str ByteArray.empty [(v46.getD v45.1.toNat ByteArray.empty)])⟩,trivial⟩⟩⟩
   ·(conv=>whnf)
    refine aZ hm fun afj hm=>?_
    (conv=>whnf)
    refine aZ hm fun afk hm=>?_
    (conv=>whnf)
    exact ⟨((g1.1 - (1:Int)),g16.1,g16.2.1,(g1.2.2.2++([(⟨(({ data:=#[103] }:ByteArray)++(strOf ([(IntKind.u8.wrap ((97:Int)+(g1.2.2.2.length:Int)))]:List Int))),g15,g16.2.2⟩:bR)]:List bR))),[(3,some 39)],[],hm,⟨rfl,⟨r4,r4,r4,r2,trivial⟩,⟨⟨sf,r2,trivial⟩,⟨r2,sr,trivial⟩,⟨r2,⟨rfl,rfl,rfl,oz,nofun⟩,trivial⟩,⟨rfl,oz,(iC rfl (fun _ _=>.refl _) rfl (fB kL ay [(⟨(({ data:=#[103] }:ByteArray)++(strOf ([(IntKind.u8.wrap ((97:Int)+(g1.2.2.2.length:Int)))]:List Int))),g15,g16.2.2⟩:bR)]))⟩,trivial⟩⟩⟩) fun _ hm=>by cases hm;exact rt [3] []
theorem oO {n_:Int} {k_:Int} {dz:cu} {r:((List Int)×cu)} (hm:kQ n_ k_ dz r):S 87 [.ptr 0 0 0,iV n_,iV k_] [.box [aD dz.L,iV dz.At]] (aD r.1) [.box [aD r.2.L,iV r.2.At]] :=sp Tryz.func87 rfl<|lf hm (fun g1=>⟨[(0,.ptr 0 0 0),(1,iV n_),(2,iV k_),(7,.osl 1 0 g1.2.2.2.length false),(8,iV g1.1)],[(0,some (.box [aD g1.2.1,iV g1.2.2.1])),(1,some (.row 1 g1.2.2.2.length (rowG iV 0 g1.2.2.2)))],2⟩) [(1,none)] [] <|fun aj g1 hm=>si hm (fun _ hm=>sq hm bS fun v3 hm=>sn hm fun _ hm=>si hm (fun _ hm=>s2 hm fun _ _ hm=>lc [(1,some 98)] [] hm) fun _ hm=>sn hm fun _ hm=>le hm) fun _ hm=>by cases hm;exact rt [1] []
theorem F5 {gQ:Int} {dz:cu} {r:((List dN)×cu)} (hm:nU gQ dz r):S 82 [.ptr 0 0 0,iV gQ] [.box [aD dz.L,iV dz.At]] (bZ r.1) [.box [aD r.2.L,iV r.2.At]] :=sp Tryz.func82 rfl<|sn hm fun _ hm=>sq hm bS fun v1 hm=>lf hm (fun g1=>⟨[(0,.ptr 0 0 0),(5,.osl 1 0 g1.2.2.2.length false),(6,iV g1.1)],[(0,some (.box [aD g1.2.1,iV g1.2.2.1])),(1,some (.row 1 g1.2.2.2.length (rowG Xg bV g1.2.2.2)))],2⟩) [(1,none)] [] <|fun aj g1 hm=>si hm (fun _ hm=>sq hm oO fun v4 hm=>s2 hm fun _ _ hm=>lc [(1,some 74)] [] hm) fun _ hm=>by cases hm;exact rt [1] []
theorem Ec {gQ:Int} {dz:cu} {r:((List dx)×cu)} (hm:mR gQ dz r):S 83 [.ptr 0 0 0,iV gQ] [.box [aD dz.L,iV dz.At]] (bO r.1) [.box [aD r.2.L,iV r.2.At]] :=sp Tryz.func83 rfl<|sn hm fun _ hm=>sq hm bS fun v1 hm=>lf hm (fun g1=>⟨[(0,.ptr 0 0 0),(5,.osl 1 0 g1.2.2.2.length false),(6,iV g1.1)],[(0,some (.box [aD g1.2.1,iV g1.2.2.1])),(1,some (.row 2 g1.2.2.2.length (rowG Vg dR g1.2.2.2)))],2⟩) [(1,none)] [] <|fun aj g1 hm=>si hm (fun _ hm=>sn hm fun _ hm=>sq hm jo fun v6 hm=>sq hm bS fun v7 hm=>s2 hm fun _ _ hm=>lc [(1,some 106)] [] hm) fun _ hm=>by cases hm;exact rt [1] []
theorem Ih {dz:cu} {r:(bf×cu)} (hm:pE dz r):S 42 [.ptr 0 0 0] [.box [aD dz.L,iV dz.At]] (gZ r.1) [.box [aD r.2.L,iV r.2.At]] :=sp Tryz.func42 rfl<|sq hm F3 fun v1 hm=>sq hm Di fun v2 hm=>sq hm F4 fun v3 hm=>sq hm F5 fun v4 hm=>sq hm Ec fun v5 hm=>by cases hm;exact re
theorem Ii {b_:bf} {dz:cu} {r:(bK×cu)} (hm:pF b_ dz r):S 84 [.ptr 0 0 0,gZ b_] [.box [aD dz.L,iV dz.At]] (tC r.1) [.box [aD r.2.L,iV r.2.At]] :=sp Tryz.func84 rfl<|sq hm bS fun v1 hm=>sb hm fun v2 hv2 hm=>cl ((fE hv2).le ⟨.refl _,(.sl rfl (fun _=>rfl) nofun (fB iV 0 [(0:Int),(0:Int),(6:Int),(12:Int),(24:Int)])),trivial⟩ ⟨jf _,trivial⟩)<|sb hm fun v3 hv3 hm=>cl ((fE hv3).le ⟨.refl _,(.sl rfl (fun _=>rfl) nofun (fB iV 0 [(24:Int),(48:Int),(100:Int),(300:Int)])),trivial⟩ ⟨jf _,trivial⟩)<|by cases hm;exact re
theorem Jr {b_:bf} {dz:cu} {r:(bE×cu)} (hm:rD b_ dz r):S 85 [.ptr 0 0 0,gZ b_] [.box [aD dz.L,iV dz.At]] (Ca r.1) [.box [aD r.2.L,iV r.2.At]] :=sp Tryz.func85 rfl<|sq hm bS fun v1 hm=>sb hm fun v2 hv2 hm=>cl ((fE hv2).le ⟨.refl _,(.sl rfl (fun _=>rfl) nofun (fB iV 0 [(0:Int),(900:Int),(1000:Int),(1800:Int)])),trivial⟩ ⟨jf _,trivial⟩)<|sb hm fun v3 hv3 hm=>cl ((fE hv3).le ⟨.refl _,(.sl rfl (fun _=>rfl) nofun (fB iV 0 [(1800:Int),(3300:Int),(5000:Int)])),trivial⟩ ⟨jf _,trivial⟩)<|sb hm fun v4 hv4 hm=>cl ((fE hv4).le ⟨.refl _,(.sl rfl (fun _=>rfl) nofun (fB iV 0 [(0:Int),(10:Int),(50:Int),(200:Int)])),trivial⟩ ⟨jf _,trivial⟩)<|by cases hm;exact re
theorem Js {l_:(List ByteArray)} {dz:cu} {r:(ByteArray×cu)} (hm:rE l_ dz r):S 55 [.ptr 0 0 0,eZ l_] [.box [aD dz.L,iV dz.At]] (.str r.1) [.box [aD r.2.L,iV r.2.At]] :=sp Tryz.func55 rfl<|sq hm bS fun v1 hm=>sn hm fun _ hm=>by cases hm;exact re
theorem Ed {gQ:Int} {dz:cu} {r:((List ByteArray)×cu)} (hm:mU gQ dz r):S 86 [.ptr 0 0 0,iV gQ] [.box [aD dz.L,iV dz.At]] (eZ r.1) [.box [aD r.2.L,iV r.2.At]] :=sp Tryz.func86 rfl<|sn hm fun _ hm=>sq hm bS fun v1 hm=>lf hm (fun g1=>⟨[(0,.ptr 0 0 0),(5,.osl 1 0 g1.2.2.2.length false),(6,iV g1.1)],[(0,some (.box [aD g1.2.1,iV g1.2.2.1])),(1,some (.row 1 g1.2.2.2.length (rowG AV.str ByteArray.empty g1.2.2.2)))],2⟩) [(1,none)] [] <|fun aj g1 hm=>si hm (fun _ hm=>sq hm kV fun v6 hm=>sq hm Js fun v7 hm=>s2 hm fun _ _ hm=>lc [(1,some 58)] [] hm) fun _ hm=>by cases hm;exact rt [1] []
theorem Ee {b_:bf} {gQ:Int} {dz:cu} {r:((List aL)×cu)} (hm:mV b_ gQ dz r):S 43 [.ptr 0 0 0,gZ b_,iV gQ] [.box [aD dz.L,iV dz.At]] (dI r.1) [.box [aD r.2.L,iV r.2.At]] :=Rl [9,11,13,18,19] Tryz.func43 rfl<|sn hm fun _ hm=>sq hm bS fun v1 hm=>Md [9,11,13,18,19] hm (fun g1=>⟨[(0,.ptr 0 0 0),(4,.ptr 1 0 0),(7,.osl 2 0 g1.2.2.2.length false),(8,iV v1.1),(9,iV g1.1)],[(0,some (.box [aD g1.2.1,iV g1.2.2.1])),(1,some (.box [bn b_.bQ,aT b_.bI,iV b_.aP.bG,bg b_.aP.av,bZ b_.aY,bO b_.dh])),(2,some (.row 6 g1.2.2.2.length (rowG qM bB g1.2.2.2)))],3⟩) [(2,none)] [] <|fun aj g1 hm=>si hm (fun _ hm=>sn hm fun _ hm=>sq hm jo fun v46 hm=>ck [9,11,13,18,19] (iA b_ v1 g1 aj v46) r (fun g14=>⟨[(0,.ptr 0 0 0),(4,.ptr 1 0 0),(7,.osl 2 0 g1.2.2.2.length false),(8,iV v1.1),(9,iV g1.1),(10,.ptr 3 0 0)],[(0,some (.box [aD g14.1,iV g14.2.1])),(1,some (.box [bn b_.bQ,aT b_.bI,iV b_.aP.bG,bg b_.aP.av,bZ b_.aY,bO b_.dh])),(2,some (.row 6 g1.2.2.2.length (rowG qM bB g1.2.2.2))),(3,some (.box [.osl 4 0 g14.2.2.length false,.sl 0 0 true nilG,.sl 0 0 true nilG,.sl 0 0 true nilG,iV v46.1,.sl 0 0 true nilG])),(4,some (.row 3 g14.2.2.length (rowG tC cB g14.2.2)))],5⟩) (si hm (fun _ hm=>sq hm bS fun v66 hm=>si hm (fun _ hm=>sq hm Ii fun v67 hm=>sn hm fun _ hm=>lc [(3,some 83),(4,some 219)] [] hm) fun _ hm=>lc [(3,some 83),(4,none)] [] hm) fun c50 hm=>by
 refine ⟨(fun q0=>absurd q0 (Uk c50)),?_⟩
 (conv=>whnf)
 refine aZ hm fun h34 hm=>?_
 (conv=>whnf)
 exact ⟨(v46.2.L,v46.2.At,([]:List bK)),[(3,some 83),(4,none)],[],hm,⟨rfl,⟨r4,r4,⟨rfl,rfl,rfl,rfl,nofun⟩,r2,r2,r4,trivial⟩,⟨⟨sf,r2,trivial⟩,⟨sr,sr,r2,sr,sr,sr,trivial⟩,⟨rfl,rfl,(fun _ _=>.refl _)⟩,⟨⟨rfl,rfl,rfl,rfl,rfl,rfl⟩,sr,sr,sr,r2,sr,trivial⟩,rfl,trivial⟩⟩⟩) fun g14 hm=>ck [9,11,13,18,19] (gV b_ v1 g1 aj v46 g14) r (fun g15=>⟨[(0,.ptr 0 0 0),(4,.ptr 1 0 0),(7,.osl 2 0 g1.2.2.2.length false),(8,iV v1.1),(9,iV g1.1),(10,.ptr 3 0 0)],[(0,some (.box [aD g15.1,iV g15.2.1])),(1,some (.box [bn b_.bQ,aT b_.bI,iV b_.aP.bG,bg b_.aP.av,bZ b_.aY,bO b_.dh])),(2,some (.row 6 g1.2.2.2.length (rowG qM bB g1.2.2.2))),(3,some (.box [.osl 4 0 g14.2.2.length false,.osl 5 0 g15.2.2.length false,.sl 0 0 true nilG,.sl 0 0 true nilG,iV v46.1,.sl 0 0 true nilG])),(4,some (.row 3 g14.2.2.length (rowG tC cB g14.2.2))),(5,some (.row 4 g15.2.2.length (rowG Ca dD g15.2.2)))],6⟩) (si hm (fun _ hm=>sq hm bS fun v64 hm=>si hm (fun _ hm=>sq hm Jr fun v65 hm=>sn hm fun _ hm=>lc [(5,some 125)] [] hm) fun _ hm=>lc [(5,none)] [] hm) fun c48 hm=>by
 refine ⟨(fun q0=>absurd q0 (Uk c48)),?_⟩
 (conv=>whnf)
 refine aZ hm fun h32 hm=>?_
 (conv=>whnf)
 exact ⟨(g14.1,g14.2.1,([]:List bE)),[(5,none)],[],hm,⟨rfl,⟨r4,r4,⟨rfl,rfl,rfl,rfl,nofun⟩,r2,r2,r4,trivial⟩,⟨⟨sf,r2,trivial⟩,⟨sr,sr,r2,sr,sr,sr,trivial⟩,⟨rfl,rfl,(fun _ _=>.refl _)⟩,⟨⟨rfl,rfl,rfl,rfl,nofun⟩,⟨rfl,rfl,rfl,rfl,rfl,rfl⟩,sr,sr,r2,sr,trivial⟩,⟨rfl,rfl,(fun _ _=>.refl _)⟩,rfl,trivial⟩⟩⟩) fun g15 hm=>ck [9,11,13,18,19] (iQ b_ v1 g1 aj v46 g14 g15) r (fun g16=>⟨[(0,.ptr 0 0 0),(4,.ptr 1 0 0),(7,.osl 2 0 g1.2.2.2.length false),(8,iV v1.1),(9,iV g1.1),(10,.ptr 3 0 0)],[(0,some (.box [aD g16.1,iV g16.2.1])),(1,some (.box [bn b_.bQ,aT b_.bI,iV b_.aP.bG,bg b_.aP.av,bZ b_.aY,bO b_.dh])),(2,some (.row 6 g1.2.2.2.length (rowG qM bB g1.2.2.2))),(3,some (.box [.osl 4 0 g14.2.2.length false,.osl 5 0 g15.2.2.length false,eZ g16.2.2,.sl 0 0 true nilG,iV v46.1,.sl 0 0 true nilG])),(4,some (.row 3 g14.2.2.length (rowG tC cB g14.2.2))),(5,some (.row 4 g15.2.2.length (rowG Ca dD g15.2.2)))],6⟩) (sq hm bS fun v62 hm=>si hm (fun _ hm=>sq hm Ed fun v63 hm=>le hm) fun _ hm=>le hm) fun g16 hm=>sq hm oO fun v53 hm=>ck [9,11,13,18,19] (iO g1 aj v46 g14 g15 g16 v53) r (fun g18=>⟨[(0,.ptr 0 0 0),(4,.ptr 1 0 0),(7,.osl 2 0 g1.2.2.2.length false),(8,iV v1.1),(9,iV g1.1),(10,.ptr 3 0 0)],[(0,some (.box [aD g18.1,iV g18.2.1])),(1,some (.box [bn b_.bQ,aT b_.bI,iV b_.aP.bG,bg b_.aP.av,bZ b_.aY,bO b_.dh])),(2,some (.row 6 g1.2.2.2.length (rowG qM bB g1.2.2.2))),(3,some (.box [.osl 4 0 g14.2.2.length false,.osl 5 0 g15.2.2.length false,eZ g16.2.2,aD v53.1,iV v46.1,aD g18.2.2])),(4,some (.row 3 g14.2.2.length (rowG tC cB g14.2.2))),(5,some (.row 4 g15.2.2.length (rowG Ca dD g15.2.2)))],6⟩) (sq hm bS fun v58 hm=>si hm (fun _ hm=>ck [9,11,13,18,19] (iP g1 aj v46 g14 g15 g16 v53) r (fun g19=>⟨[(0,.ptr 0 0 0),(4,.ptr 1 0 0),(7,.osl 2 0 g1.2.2.2.length false),(8,iV v1.1),(9,iV g1.1),(10,.ptr 3 0 0),(11,iV g19.1)],[(0,some (.box [aD g19.2.1,iV g19.2.2])),(1,some (.box [bn b_.bQ,aT b_.bI,iV b_.aP.bG,bg b_.aP.av,bZ b_.aY,bO b_.dh])),(2,some (.row 6 g1.2.2.2.length (rowG qM bB g1.2.2.2))),(3,some (.box [.osl 4 0 g14.2.2.length false,.osl 5 0 g15.2.2.length false,eZ g16.2.2,aD v53.1,iV v46.1,.sl 0 0 true nilG])),(4,some (.row 3 g14.2.2.length (rowG tC cB g14.2.2))),(5,some (.row 4 g15.2.2.length (rowG Ca dD g15.2.2)))],6⟩) (sq hm bS fun v61 hm=>si hm (fun _ hm=>le hm) fun _ hm=>le hm) fun g19 hm=>sq hm oO fun v60 hm=>le hm) fun _ hm=>le hm) fun g18 hm=>s2 hm fun _ _ hm=>lc [(2,some 30)] [] hm) fun _ hm=>si hm (fun _ hm=>sq hm bS fun v68 hm=>si hm (fun _ hm=>sn hm fun _ hm=>Md [9,11,13,18,19] hm (fun g20=>⟨[(7,.osl 1 0 g20.2.2.length false),(8,iV v1.1),(12,iV g20.1),(13,iV g20.2.1)],[(0,some (.box [aD v68.2.L,iV v68.2.At])),(1,some (.row 6 g20.2.2.length (rowG qM bB g20.2.2)))],2⟩) [(1,some 2)] [] <|fun UK g20 hm=>si hm (fun _ hm=>s2 hm fun _ _ hm=>s2 hm fun _ _ hm=>s2 hm fun _ _ hm=>le hm) fun _ hm=>Md [9,11,13,18,19] hm (fun g21=>⟨[(7,.osl 1 0 g21.2.length false),(8,iV v1.1),(126,iV (g20.2.2.length:Int)),(127,iV g21.1)],[(0,some (.box [aD v68.2.L,iV v68.2.At])),(1,some (.row 6 g21.2.length (rowG qM bB g21.2)))],2⟩) [] [] <|fun Pv g21 hm=>si hm (fun _ hm=>s2 hm fun _ _ hm=>Md [9,11,13,18,19] hm (fun g24=>⟨[(7,.osl 1 0 g21.2.length false),(8,iV v1.1),(14,iV g21.1),(15,.osl 2 0 g24.2.length false),(16,iV g24.1),(126,iV (g20.2.2.length:Int)),(127,iV g21.1)],[(0,some (.box [aD v68.2.L,iV v68.2.At])),(1,some (.row 6 g21.2.length (rowG qM bB g21.2))),(2,some (.row 1 g24.2.length (rowG iV 0 g24.2)))],3⟩) [(2,none)] [] <|fun UJ g24 hm=>si hm (fun _ hm=>s2 hm fun _ _ hm=>s2 hm fun _ _ hm=>s2 hm fun _ _ hm=>lc [(2,some 123)] [] hm) fun _ hm=>s2 hm fun _ _ hm=>le hm) fun _ hm=>by cases hm;exact rt [1] []) fun _ hm=>by cases hm;exact rt [2] []) fun c52 hm=>by
 refine ⟨(fun q0=>absurd q0 (Uk c52)),?_⟩
 (conv=>whnf)
 refine aZ hm fun afo hm=>?_
 (conv=>whnf)
 have hm:r=(g1.2.2.2,(⟨g1.2.1,g1.2.2.1⟩:cu)):=hm
 subst hm
 refine ⟨[2],[],?_⟩
 (conv=>whnf)
 exact ⟨⟨rfl,trivial,⟨⟨sf,r2,trivial⟩,trivial⟩⟩,sf⟩
end Go.Proofs.YtccjmcmolnbiiaaGreatDoor

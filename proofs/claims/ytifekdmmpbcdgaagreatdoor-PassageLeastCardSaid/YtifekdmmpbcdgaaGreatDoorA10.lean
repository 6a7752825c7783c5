/- A part of the proof. -/
import Derived.Test.YtifekdmmpbcdgaaGreatDoorA9
set_option linter.unusedVariables false
set_option linter.unusedSimpArgs false
namespace Go.Proofs.YtifekdmmpbcdgaaGreatDoor
open Go.Ab
set_option maxRecDepth 100000
set_option maxHeartbeats 20000000
variable {b_:aV} {l_:azu} {aj:azp} {g_:aM}
theorem Ww {gT:Bool} {r:Int} (m:Ei b_ l_ aj g_ gT r):S 150 [jf b_,dX l_,ak aj,iq g_,.bool gT] [] (iV r) [] :=sp Tryz.func150 rfl<|sq m Du λ v1 m=>si m bO λ _ m=>sq m pJ λ v2 m=>bG m
variable {r:Bool}
theorem Kv (m:Cj b_ l_ aj g_ r):S 87 [jf b_,dX l_,ak aj,iq g_] [] (.bool r) [] :=sp Tryz.func87 rfl<|sq m Ww λ v1 m=>bG m
theorem vD {l_:azw} {r:dV->Option Int} (m:oZ l_ r):S 30 [bJ l_] [] (.mref 0) [.map (.int .i64) [(.int .i64)] r] :=sp Tryz.func30 rfl<|lf m (λ g1=>⟨[(3,.mref 0),(7,bJ l_),(8,iV (l_.length:Int)),(9,iV g1.1)],[(0,some (.map (.int .i64) [(.int .i64)] g1.2))],1⟩) [(0,some 8)] [] <|λ ah g1 m=>si m (λ _ m=>s2 m λ _ _ m=>sn m λ _ m=>le m) bO
variable {s_:azw}
theorem Gb {v_:aJ} {r:Int} (m:rR s_ v_ r):S 151 [bJ s_,jY v_] [] (iV r) [] :=sp Tryz.func151 rfl<|l0 m (λ g1=>⟨[(0,bJ s_),(3,.ptr 0 0 0),(7,iV (s_.length:Int)),(8,iV g1)],[(0,some (.box [iV v_.gP,iV v_.gZ.bT,iV v_.gZ.dJ]))],1⟩) <|λ ah g1 m=>si m (λ _ m=>sn m λ _ m=>si m bO λ _ m=>sn m λ _ m=>le m) bO
theorem CQ {v_:aJ} (m:ou s_ v_ r):S 88 [bJ s_,jY v_] [] (.bool r) [] :=sp Tryz.func88 rfl<|sq m Gb λ v1 m=>bG m
variable {from_:aM} {kQ:azp}
theorem UL {jB:aM} {r:Int} (m:Br b_ l_ from_ jB kQ r):S 29 [jf b_,dX l_,iq from_,iq jB,ak kQ] [] (iV r) [] :=sp Tryz.func29 rfl<|sq m Du λ v1 m=>si m bO λ _ m=>lf m (λ g1=>⟨[(1,dX l_),(4,ak kQ),(5,.ptr 0 0 0),(7,.ptr 1 0 0),(8,.ptr 2 0 0),(25,ak kQ),(26,iV (kQ.length:Int)),(27,iV g1)],[(0,some (.box [bg b_.bP,bf b_.bI,iV b_.aU.cu,bE b_.aU.aH,dz b_.bH,bZ b_.bX])),(1,some (.box [ak from_.Setting,aK from_.bB.On,ak from_.bB.bC,bJ from_.Uses,aK from_.Released,aK from_.aY])),(2,some (.box [ak jB.Setting,aK jB.bB.On,ak jB.bB.bC,bJ jB.Uses,aK jB.Released,aK jB.aY]))],3⟩) [(1,some 8),(2,some 16)] [] <|λ ah g1 m=>si m (λ _ m=>s2 m λ _ _ m=>sb m λ v4 hv4 m=>cl (λ q0=>((lJ (hv4 q0)).le ⟨(.sl oz (λ _=>rfl) nofun (kN (f:=iV) (d:=0) (by first | omega | exact ajb _ _ | exact afQ (ajb _ _) om | (simp; omega)))),.refl _,trivial⟩ trivial))<|si m bO λ _ m=>sn m λ _ m=>le m) λ _ m=>sq m Kv λ v5 m=>sb m λ v6 hv6 m=>cl (λ q0=>(Kv (hv6 q0)))<|si m bO λ _ m=>sq m vD λ v7 m=>lf m (λ g2=>⟨[(4,ak kQ),(8,.ptr 0 0 0),(14,.mref 1),(66,bJ from_.Uses),(67,iV (from_.Uses.length:Int)),(68,iV g2)],[(0,some (.box [ak jB.Setting,aK jB.bB.On,ak jB.bB.bC,bJ jB.Uses,aK jB.Released,aK jB.aY])),(1,some (.map (.int .i64) [(.int .i64)] v7))],2⟩) [(0,some 2),(1,some 139)] [] <|λ dY g2 m=>si m (λ _ m=>s2 m λ _ _ m=>sb m λ v12 VF m=>cl (λ q0=>(lJ (VF q0)))<|sb m λ v13 NQ m=>cl (λ q0 q1=>(CQ (NQ q0 q1)))<|si m bO λ _ m=>sn m λ _ m=>le m) bO
theorem iZ {dD:azr} {r:azr} (m:iy dD r):S 32 [.dR 0 0 dD.length false] [.row 3 dD.length (bF fD dA dD)] (.jX []) [.row 3 r.length (bF fD dA r)] :=sp Tryz.func32 rfl<|sn m λ _ m=>l0 m (λ g1=>⟨[(0,.dR 0 0 g1.2.2.length false),(2,iV g1.1),(3,iV g1.2.1)],[(0,some (.row 3 g1.2.2.length (bF fD dA g1.2.2)))],1⟩) <|λ ah g1 m=>si m (λ _ m=>s2 m λ _ _ m=>s2 m λ _ _ m=>s2 m λ _ _ m=>le m) bO
variable {oq:azp} {mO:azq} {yT:azp} {Ae:azw} {tC:azq} {yU:azq} {Ed:azp} {wR:azq} {Pb:azp} {RL:azw} {Fh:azq} {Pd:azq}
theorem DX {qD:Int} {r:azr} (m:tH qD oq mO yT Ae tC yU Ed wR Pb RL Fh Pd r):S 31 [iV qD,.ro [ak oq,aK mO,ak yT,bJ Ae,aK tC,aK yU],.ro [ak Ed,aK wR,ak Pb,bJ RL,aK Fh,aK Pd]] [] (iJ r) [] :=sp Tryz.func31 rfl<|lf m (λ g1=>⟨[(0,iV qD),(1,.ro [ak oq,aK mO,ak yT,bJ Ae,aK tC,aK yU]),(2,.ro [ak Ed,aK wR,ak Pb,bJ RL,aK Fh,aK Pd]),(5,.dR 0 0 g1.2.length false),(9,iV (tC.length:Int)),(10,iV g1.1)],[(0,some (.row 3 g1.2.length (bF fD dA g1.2)))],1⟩) [(0,none)] [] <|λ ah g1 m=>si m (λ _ m=>s2 m λ _ _ m=>sn m λ _ m=>si m (λ _ m=>s2 m λ _ _ m=>lc [(0,some 233)] [] m) λ _ m=>sn m λ _ m=>le m) λ _ m=>si m (λ _ m=>sq m iZ λ v1 m=>by
 have h19:=m.1
 have m:=m.2
 have m:r=(v1.take (g1.2.length)):=m
 subst m
 refine ⟨[0],[],?_⟩
 (conv=>whnf)
 exact ⟨⟨rfl,trivial,trivial⟩,⟨oz,(λ _=>rfl),nofun,(kN (f:=fD) (d:=dA) (by first | omega | exact ajb _ _ | exact afQ (ajb _ _) om | (simp; omega)))⟩⟩) λ _ m=>by cases m;exact rt [0] []
theorem Sd {qm:azp} {uG:azq} {II:azp} {IJ:azw} {IK:azq} {Gp:azq} {aej:azp} {aek:azq} {ael:azp} {aem:azw} {Vo:azq} {Vp:azq} {r:azr×Int} (m:Fj qm uG II IJ IK Gp aej aek ael aem Vo Vp r):S 34 [.ro [.fn 31 [.ro [ak qm,aK uG,ak II,bJ IJ,aK IK,aK Gp],.ro [ak aej,aK aek,ak ael,bJ aem,aK Vo,aK Vp]]]] [] (.jX [iJ r.1,iV r.2]) [] :=sp Tryz.func34 rfl<|sq m DX λ v1 m=>bG m
theorem DY {some_:dV->Option Int} {K6:dV->Option Int} {YK:Int} {r:azr} (m:tJ some_ K6 YK r):S 33 [.pm (.int .i64) [(.int .i64)] some_,.pm (.int .i64) [(.int .i64)] K6,iV YK] [] (iJ r) [] :=sp Tryz.func33 rfl<|lf m (λ g1=>⟨[(0,.pm (.int .i64) [(.int .i64)] some_),(1,.pm (.int .i64) [(.int .i64)] K6),(2,iV YK),(7,.dR 0 0 g1.2.length false),(10,iV g1.1)],[(0,some (.row 3 g1.2.length (bF fD dA g1.2)))],1⟩) [(0,none)] [] <|λ ah g1 m=>si m (λ _ m=>si m (λ _ m=>s2 m λ _ _ m=>sn m λ _ m=>lc [(0,some 177)] [] m) λ _ m=>sn m λ _ m=>le m) λ _ m=>by cases m;exact rt [0] []
variable {a2_:dV->Option Int}
theorem Sg {mg:dV->Option Int} {r:azr×Int} (m:Fp mg a2_ r):S 35 [.ro [.fn 33 []],.ro [.pm (.int .i64) [(.int .i64)] mg],.ro [.pm (.int .i64) [(.int .i64)] a2_]] [] (.jX [iJ r.1,iV r.2]) [] :=sp Tryz.func35 rfl<|sq m DY λ v1 m=>bG m
theorem UM {n_:aR} {r:azy} (m:SS n_ r):S 97 [Dy n_] [] (fZ r) [] :=sp Tryz.func97 rfl<|bG m
theorem Gy {r:azy} (m:tK l_ aj r):S 96 [dX l_,ak aj,.fn 97 []] [] (fZ r) [] :=sp Tryz.func96 rfl<|lf m (λ g1=>⟨[(0,dX l_),(2,.fn 97 []),(7,.dR 0 0 g1.2.length false),(10,ak aj),(11,iV (aj.length:Int)),(12,iV g1.1)],[(0,some (.row 4 g1.2.length (bF Jz eu g1.2)))],1⟩) [(0,none)] [] <|λ ah g1 m=>si m (λ _ m=>sn m λ _ m=>si m (λ _ m=>sn m λ _ m=>sq m UM λ v3 m=>s2 m λ _ _ m=>lc [(0,some 153)] [] m) λ _ m=>sn m λ _ m=>le m) λ _ m=>by cases m;exact rt [0] []
theorem X3 {r:azy} (m:G8 l_ aj r):S 38 [dX l_,ak aj] [] (fZ r) [] :=sp Tryz.func38 rfl<|sq m Gy λ v1 m=>bG m
theorem Wx {r_:bq} {mg:azv} (m:yX r_ mg r):S 154 [og r_,.ro [bf mg]] [] (.bool r) [] :=sp Tryz.func154 rfl<|sq m Ij λ v1 m=>bG m
theorem Bd {s_:List bq} {f_:azv} {r:Int} (m:nJ s_ f_ r):S 219 [Z9 s_,.fn 154 [.ro [bf f_]]] [] (iV r) [] :=sp Tryz.func219 rfl<|l0 m (λ g1=>⟨[(0,Z9 s_),(1,.fn 154 [.ro [bf f_]]),(7,iV (s_.length:Int)),(8,iV g1)],[],0⟩) <|λ ah g1 m=>si m (λ _ m=>sn m λ _ m=>sq m Wx λ v3 m=>si m bO λ _ m=>sn m λ _ m=>le m) bO
theorem yh {s_:List bq} {f_:azv} (m:qV s_ f_ r):S 153 [Z9 s_,.fn 154 [.ro [bf f_]]] [] (.bool r) [] :=sp Tryz.func153 rfl<|sq m Bd λ v1 m=>bG m
theorem ZE {l_:azv} {aen:List bq} {r:Int} (m:K7 l_ aen r):S 89 [bf l_,Z9 aen] [] (iV r) [] :=sp Tryz.func89 rfl<|sq m sM λ v1 m=>si m bO λ _ m=>sq m yh λ v2 m=>si m bO bO
theorem Kw {r_:bq} {r:azq×azp} (m:Ck r_ r):S 93 [og r_] [] (.agg [.dR 0 0 r.1.length false,.dR 1 0 r.2.length false]) [.row 1 r.1.length (bF AV.bool false r.1),.row 1 r.2.length (bF iV 0 r.2)] :=sp Tryz.func93 rfl<|sq m mV λ v1 m=>sq m rX λ v2 m=>by cases m;exact rt [] [(0,some 32),(1,some 56)]
theorem abU {a_:bq} {b_:bq} {r:bq} (m:Rj a_ b_ r):S 92 [og a_,og b_] [] (og r) [] :=sp Tryz.func92 rfl<|sq m Kw λ v1 m=>lf m (λ g1=>⟨[(2,.ptr 0 0 0),(3,.ptr 1 0 0),(4,.ptr 2 0 0),(5,.ptr 3 0 0),(11,iV (v1.1.length:Int)),(12,iV g1.1)],[(0,some (.box [aK a_.On,ak a_.bC])),(1,some (.box [aK b_.On,ak b_.bC])),(2,some (.box [acK,acK])),(3,some (.box [.dR 4 0 g1.2.1.length false,.dR 5 0 g1.2.2.length false])),(4,some (.row 1 g1.2.1.length (bF AV.bool false g1.2.1))),(5,some (.row 1 g1.2.2.length (bF iV 0 g1.2.2)))],6⟩) [(1,some 8),(2,some 16),(3,some 40),(4,some 32),(5,some 33)] [] <|λ ah g1 m=>si m (λ _ m=>s2 m λ _ _ m=>si m (λ _ m=>s2 m λ _ _ m=>s2 m λ _ _ m=>le m) λ _ m=>sn m λ _ m=>si m (λ _ m=>s2 m λ _ _ m=>s2 m λ _ _ m=>le m) λ _ m=>sn m λ _ m=>le m) λ _ m=>by cases m;exact rt [4,5] []
theorem vv {l7:Int} {qD:Int} {pV:Nat} {pW:Nat} {IL:azq} {xG:azp} {qW:azr} {r:Nat×Nat×azp×azr} (m:lU l7 qD pV pW IL xG qW r):S 94 [.ptr 0 0 0,iV l7,iV qD] [.box [.dR 1 0 pV false,.dR 2 0 pW false,.dR 3 0 qW.length false],.row 1 IL.length (bF AV.bool false IL),.row 1 xG.length (bF iV 0 xG),.row 3 qW.length (bF fD dA qW)] (.jX []) [.box [.dR 1 0 r.1 false,.dR 2 0 r.2.1 false,.dR 4 0 r.2.2.2.length false],.row 1 IL.length (bF AV.bool false IL),.row 1 r.2.2.1.length (bF iV 0 r.2.2.1),acP,.row 3 r.2.2.2.length (bF fD dA r.2.2.2)] :=sp Tryz.func94 rfl<|by
 have h4:=m.1
 have m:=m.2
 refine aS m λ h1 m=>?_
 (conv=>whnf)
 refine fP m (λ c1 m=>?_) (λ c1 m=>?_)
 ·(conv=>whnf)
  refine aS m λ h2 m=>?_
  (conv=>whnf)
  refine aS m λ h3 m=>?_
  (conv=>whnf)
  have m:r=(pV,pW,(xG.set (l7.toNat) qD),(qW++([(⟨(2:Int),l7,qD⟩:aI)]:azr))):=m
  subst m
  refine ⟨[],[(4,some 228)],?_⟩
  (conv=>whnf)
  exact ⟨⟨rfl,trivial,⟨⟨aaZ,aaZ,⟨rfl,rfl,rfl,oz,nofun⟩,trivial⟩,ab2,⟨rfl,oz,(mM (λ _ _=>.refl _) rfl (.refl _))⟩,⟨rfl,oz,(iR rfl (λ _ _=>.refl _) rfl (fK fD dA [(⟨(2:Int),l7,qD⟩:aI)]))⟩,trivial⟩⟩,trivial⟩
 (conv=>whnf)
 have m:r=(pV,pW,xG,qW):=m
 subst m
 refine ⟨[],[(4,some 3)],?_⟩
 (conv=>whnf)
 exact ⟨⟨rfl,trivial,⟨⟨aaZ,aaZ,aaZ,trivial⟩,ab2,ab2,ab2,trivial⟩⟩,trivial⟩
theorem um {l7:Int} {oL:Bool} {pV:Nat} {pW:Nat} {IL:azq} {xG:azp} {qW:azr} {r:Nat×Nat×azq×azr} (m:kR l7 oL pV pW IL xG qW r):S 95 [.ptr 0 0 0,iV l7,.bool oL] [.box [.dR 1 0 pV false,.dR 2 0 pW false,.dR 3 0 qW.length false],.row 1 IL.length (bF AV.bool false IL),.row 1 xG.length (bF iV 0 xG),.row 3 qW.length (bF fD dA qW)] (.jX []) [.box [.dR 1 0 r.1 false,.dR 2 0 r.2.1 false,.dR 4 0 r.2.2.2.length false],.row 1 r.2.2.1.length (bF AV.bool false r.2.2.1),.row 1 xG.length (bF iV 0 xG),acP,.row 3 r.2.2.2.length (bF fD dA r.2.2.2)] :=spc [5] Tryz.func95 rfl<|by
 have h5:=m.1
 have m:=m.2
 refine aS m λ h1 m=>?_
 (conv=>whnf)
 refine fP m (λ c1 m=>?_) (λ c1 m=>?_)
 ·(conv=>whnf)
  have m:r=(pV,pW,IL,qW):=m
  subst m
  refine ⟨[],[(4,some 3)],?_⟩
  (conv=>whnf)
  exact ⟨⟨rfl,trivial,⟨⟨aaZ,aaZ,aaZ,trivial⟩,ab2,ab2,ab2,trivial⟩⟩,trivial⟩
 (conv=>whnf)
 refine aS m λ h2 m=>?_
 (conv=>whnf)
 refine SH (ct:=[5]) iD dk dk (jM l7 xG qW) r (λ g1=>⟨[(0,.ptr 0 0 0),(1,iV l7),(6,iV g1.1)],[(0,some (.box [.dR 1 0 g1.2.1 false,.dR 2 0 g1.2.2.1 false,.dR 3 0 qW.length false])),(1,some (.row 1 g1.2.2.2.length (bF AV.bool false g1.2.2.2))),(2,some (.row 1 xG.length (bF iV 0 xG))),(3,some (.row 3 qW.length (bF fD dA qW)))],4⟩) ?_ (λ g1 m=>?_)
 ·(conv=>whnf)
  refine fP m (λ c3 m=>?_) (λ c3 m=>?_)
  ·(conv=>whnf)
   exact ⟨((1:Int),pV,pW,(IL.set (l7.toNat) oL)),[],[],m,⟨rfl,⟨r4,r2,r2,trivial⟩,⟨⟨aaZ,aaZ,aaZ,trivial⟩,⟨rfl,oz,(mM (λ _ _=>.refl _) rfl (.refl _))⟩,ab2,ab2,trivial⟩⟩⟩
  (conv=>whnf)
  exact ⟨((0:Int),pV,pW,(IL.set (l7.toNat) oL)),[],[],m,⟨rfl,⟨r4,r2,r2,trivial⟩,⟨⟨aaZ,aaZ,aaZ,trivial⟩,⟨rfl,oz,(mM (λ _ _=>.refl _) rfl (.refl _))⟩,ab2,ab2,trivial⟩⟩⟩
 (conv=>whnf)
 have h4:=m.1
 have m:=m.2
 refine aS m λ h3 m=>?_
 (conv=>whnf)
 have m:r=(g1.2.1,g1.2.2.1,g1.2.2.2,(qW++([(⟨(3:Int),l7,g1.1⟩:aI)]:azr))):=m
 subst m
 refine ⟨[],[(4,some 76)],?_⟩
 (conv=>whnf)
 exact ⟨⟨rfl,trivial,⟨⟨aaZ,aaZ,⟨rfl,rfl,rfl,oz,nofun⟩,trivial⟩,ab2,ab2,⟨rfl,oz,(iR rfl (λ _ _=>.refl _) rfl (fK fD dA [(⟨(3:Int),l7,g1.1⟩:aI)]))⟩,trivial⟩⟩,trivial⟩
theorem abV {l_:azv} {from_:bq} {jB:bq} {d_:azy} {r:azr×Int} (m:Rk l_ from_ jB d_ r):S 37 [bf l_,og from_,og jB,fZ d_] [] (.jX [iJ r.1,iV r.2]) [] :=spc [22] Tryz.func37 rfl<|sb m λ v1 hv1 m=>cl ((ZE hv1).le ⟨.refl _,(.sl rfl (λ _=>rfl) nofun (fK og IB [from_,jB])),trivial⟩ trivial)<|si m bO λ _ m=>sq m Ik λ v2 m=>si m bO λ _ m=>sq m zW λ v3 m=>sb m λ v4 hv4 m=>cl (λ q0=>(zW (hv4 q0)))<|si m bO λ _ m=>sq m abU λ v5 m=>sq m Kw λ v6 m=>XQ [22] m (λ g1=>⟨[(0,bf l_),(6,.ptr 0 0 0),(11,.ptr 1 0 0),(12,.ptr 2 0 0),(49,iV (l_.length:Int)),(50,iV g1.1)],[(0,some (.box [aK jB.On,ak jB.bC])),(1,some (.box [aK v5.On,ak v5.bC])),(2,some (.box [.dR 3 0 g1.2.1 false,.dR 4 0 g1.2.2.1 false,.dR 5 0 g1.2.2.2.2.2.length false])),(3,some (.row 1 g1.2.2.2.1.length (bF AV.bool false g1.2.2.2.1))),(4,some (.row 1 g1.2.2.2.2.1.length (bF iV 0 g1.2.2.2.2.1))),(5,some (.row 3 g1.2.2.2.2.2.length (bF fD dA g1.2.2.2.2.2)))],6⟩) [(0,some 8),(1,some 264),(2,some 304),(3,some 288),(4,some 289),(5,none)] [] <|λ ah g1 m=>by
 have h45:=m.1
 have m:=m.2
 refine fP m (λ c8 m=>?_) (λ c8 m=>?_)
 ·(conv=>whnf)
  refine aS m λ h13 m=>?_
  (conv=>whnf)
  refine fP m (λ c9 m=>?_) (λ c9 m=>?_)
  ·(conv=>whnf)
   refine aS m λ h14 m=>?_
   (conv=>whnf)
   refine dH m λ v11 anJ m=>?_
   refine ⟨_,_,(vv anJ),?_⟩
   (conv=>whnf)
   have h15:=m.1
   have m:=m.2
   refine dH m λ v12 VF m=>?_
   refine ⟨_,_,(um VF),?_⟩
   (conv=>whnf)
   have h16:=m.1
   have m:=m.2
   refine aS m λ h17 m=>?_
   (conv=>whnf)
   exact ⟨((g1.1+(1:Int)),v12.1,v12.2.1,v12.2.2.1,v11.2.2.1,v12.2.2.2),[(5,some 150)],[],m,⟨rfl,⟨sr,r4,r4,r4,r2,r2,trivial⟩,⟨⟨sr,sr,trivial⟩,⟨sr,sr,trivial⟩,⟨aaZ,aaZ,aaZ,trivial⟩,ab2,ab2,ab2,trivial⟩⟩⟩
  (conv=>whnf)
  refine aS m λ h18 m=>?_
  (conv=>whnf)
  exact ⟨((g1.1+(1:Int)),g1.2.1,g1.2.2.1,g1.2.2.2.1,g1.2.2.2.2.1,g1.2.2.2.2.2),[],[],m,⟨rfl,⟨sr,r4,r4,r4,r2,r2,trivial⟩,⟨⟨sr,sr,trivial⟩,⟨sr,sr,trivial⟩,⟨aaZ,aaZ,aaZ,trivial⟩,ab2,ab2,ab2,trivial⟩⟩⟩
 (conv=>whnf)
 refine aS m λ h19 m=>?_
 (conv=>whnf)
 refine nN (ct:=[22]) iD dk m (λ g2=>⟨[(6,.ptr 0 0 0),(12,.ptr 1 0 0),(14,iV g2.1)],[(0,some (.box [aK jB.On,ak jB.bC])),(1,some (.box [.dR 2 0 g2.2.1 false,.dR 3 0 g2.2.2.1 false,.dR 4 0 g2.2.2.2.2.2.length false])),(2,some (.row 1 g2.2.2.2.1.length (bF AV.bool false g2.2.2.2.1))),(3,some (.row 1 g2.2.2.2.2.1.length (bF iV 0 g2.2.2.2.2.1))),(4,some (.row 3 g2.2.2.2.2.2.length (bF fD dA g2.2.2.2.2.2)))],5⟩) [(1,some 2),(2,some 3),(3,some 4),(4,some 5)] [] ⟨rfl,⟨r4,r4,r2,trivial⟩,⟨⟨sr,sr,trivial⟩,⟨aaZ,aaZ,aaZ,trivial⟩,ab2,ab2,ab2,trivial⟩⟩ ?_
 intro dY g2 m
 (conv=>whnf)
 have h44:=m.1
 have m:=m.2
 refine fP m (λ c16 m=>?_) (λ c16 m=>?_)
 ·(conv=>whnf)
  refine SH (ct:=[22]) iD dk dk (vM jB g2 dY) r (λ g5=>⟨[(6,.ptr 0 0 0),(12,.ptr 1 0 0),(14,iV g2.1)],[(0,some (.box [aK jB.On,ak jB.bC])),(1,some (.box [.dR 2 0 g5.1 false,.dR 3 0 g5.2.1 false,.dR 4 0 g5.2.2.2.length false])),(2,some (.row 1 g5.2.2.1.length (bF AV.bool false g5.2.2.1))),(3,some (.row 1 g2.2.2.2.2.1.length (bF iV 0 g2.2.2.2.2.1))),(4,some (.row 3 g5.2.2.2.length (bF fD dA g5.2.2.2)))],5⟩) ?_ (λ g5 m=>?_)
  ·(conv=>whnf)
   refine aS m λ h42 m=>?_
   (conv=>whnf)
   refine fP m (λ c18 m=>?_) (λ c18 m=>?_)
   ·(conv=>whnf)
    refine dH m λ v21 ayz m=>?_
    refine ⟨_,_,(um ayz),?_⟩
    (conv=>whnf)
    have h43:=m.1
    have m:=m.2
    exact ⟨(v21.1,v21.2.1,v21.2.2.1,v21.2.2.2),[(4,some 85)],[],m,⟨rfl,⟨r4,r4,r2,trivial⟩,⟨⟨sr,sr,trivial⟩,⟨aaZ,aaZ,aaZ,trivial⟩,ab2,ab2,ab2,trivial⟩⟩⟩
   (conv=>whnf)
   exact ⟨(g2.2.1,g2.2.2.1,g2.2.2.2.1,g2.2.2.2.2.2),[],[],m,⟨rfl,⟨r4,r4,r2,trivial⟩,⟨⟨sr,sr,trivial⟩,⟨aaZ,aaZ,aaZ,trivial⟩,ab2,ab2,ab2,trivial⟩⟩⟩
  (conv=>whnf)
  have h41:=m.1
  have m:=m.2
  refine aS m λ h38 m=>?_
  (conv=>whnf)
  refine dH m λ v20 ayA m=>?_
  refine ⟨_,_,(vv ayA),?_⟩
  (conv=>whnf)
  have h39:=m.1
  have m:=m.2
  refine aS m λ h40 m=>?_
  (conv=>whnf)
  exact ⟨((g2.1 - (1:Int)),v20.1,v20.2.1,g5.2.2.1,v20.2.2.1,v20.2.2.2),[(4,some 61)],[],m,⟨rfl,⟨r4,r4,r2,trivial⟩,⟨⟨sr,sr,trivial⟩,⟨aaZ,aaZ,aaZ,trivial⟩,ab2,ab2,ab2,trivial⟩⟩⟩
 (conv=>whnf)
 have m:r=(g2.2.2.2.2.2,(0:Int)):=m
 subst m
 refine ⟨[4],[],?_⟩
 (conv=>whnf)
 exact ⟨⟨rfl,trivial,trivial⟩,(aai aac (aai (by first | ((conv=>whnf); exact r2) | exact r2) trivial))⟩
variable {qm:azs} {uG:azv} {IJ:azG} {IK:azC} {Gp:azD}
theorem Si {II:Int} {a3_:azu} {a4_:azp} {r:azr×Int} (m:Fq qm uG II IJ IK Gp oq mO yT Ae tC yU Ed wR Pb RL Fh Pd a3_ a4_ r):S 36 [.ro [bg qm,bf uG,iV II,bE IJ,dz IK,bZ Gp],.ro [ak oq,aK mO,ak yT,bJ Ae,aK tC,aK yU],.ro [ak Ed,aK wR,ak Pb,bJ RL,aK Fh,aK Pd],.ro [dX a3_],.ro [ak a4_]] [] (.jX [iJ r.1,iV r.2]) [] :=sp Tryz.func36 rfl<|sq m X3 λ v1 m=>sq m abV λ v2 m=>bG m
theorem Sj {n_:aR} {r:azz} (m:Pe n_ r):S 104 [Dy n_] [] (eF r) [] :=sp Tryz.func104 rfl<|bG m
theorem Gc {r:azz} (m:rT l_ aj r):S 103 [dX l_,ak aj,.fn 104 []] [] (eF r) [] :=sp Tryz.func103 rfl<|lf m (λ g1=>⟨[(0,dX l_),(2,.fn 104 []),(7,.dR 0 0 g1.2.length false),(10,ak aj),(11,iV (aj.length:Int)),(12,iV g1.1)],[(0,some (.row 3 g1.2.length (bF yK dN g1.2)))],1⟩) [(0,none)] [] <|λ ah g1 m=>si m (λ _ m=>sn m λ _ m=>si m (λ _ m=>sn m λ _ m=>sq m Sj λ v3 m=>s2 m λ _ _ m=>lc [(0,some 153)] [] m) λ _ m=>sn m λ _ m=>le m) λ _ m=>by cases m;exact rt [0] []
theorem Wy {r:azz} (m:Ej l_ aj r):S 41 [dX l_,ak aj] [] (eF r) [] :=sp Tryz.func41 rfl<|sq m Gc λ v1 m=>bG m
theorem Gd {l_:azs} {s_:azp} (m:vO l_ s_ r):S 166 [bg l_,ak s_] [] (.bool r) [] :=sp Tryz.func166 rfl<|sq m mX λ v1 m=>sb m λ v2 hv2 m=>cl (λ q0=>(qK (hv2 q0)))<|bG m
theorem UN {x_:aZ} {mg:azA} (m:vP x_ mg r):S 231 [yK x_,.ro [nI mg]] [] (.bool r) [] :=sp Tryz.func231 rfl<|s2 m λ _ _ m=>sb m λ v1 hv1 m=>cl (λ q0=>(pI (hv1 q0)))<|bG m
theorem yj {s_:azz} {f_:azA} {r:Int} (m:qX s_ f_ r):S 256 [eF s_,.fn 231 [.ro [nI f_]]] [] (iV r) [] :=sp Tryz.func256 rfl<|l0 m (λ g1=>⟨[(0,eF s_),(1,.fn 231 [.ro [nI f_]]),(7,iV (s_.length:Int)),(8,iV g1)],[],0⟩) <|λ ah g1 m=>si m (λ _ m=>sn m λ _ m=>sq m UN λ v3 m=>si m bO λ _ m=>sn m λ _ m=>le m) bO
theorem mI {s_:azz} {f_:azA} (m:jm s_ f_ r):S 225 [eF s_,.fn 231 [.ro [nI f_]]] [] (.bool r) [] :=sp Tryz.func225 rfl<|sq m yj λ v1 m=>bG m
variable {o8:azz}
theorem Ky {l_:azs} {s_:azp} (m:G9 l_ s_ o8 r):S 167 [bg l_,ak s_,eF o8] [] (.bool r) [] :=sp Tryz.func167 rfl<|sq m Kr λ v1 m=>lf m (λ g1=>⟨[(2,eF o8),(7,.ptr 0 0 0),(17,bg l_),(18,iV (l_.length:Int)),(19,iV g1)],[(0,some (.box [nI v1.1]))],1⟩) [(0,some 56)] [] <|λ ah g1 m=>si m (λ _ m=>s2 m λ _ _ m=>sn m λ _ m=>sb m λ v4 hv4 m=>cl (λ q0=>(pI (hv4 q0)))<|si m bO λ _ m=>sn m λ _ m=>le m) λ _ m=>sq m mI λ v5 m=>bG m
theorem Wz {l_:azs} {from_:azp} {jB:azp} {r:(azs×azz×Int×(dV->Option Int))} (m:El l_ from_ jB o8 r):S 98 [bg l_,ak from_,ak jB,eF o8] [] (.jX [.agg [bg r.1,eF r.2.1,.mref 0],iV r.2.2.1]) [.map (.int .i64) [.bool] r.2.2.2] :=sp Tryz.func98 rfl<|sq m mX λ v1 m=>by
 have c1:=m.1
 have m:=m.2
 refine fG (λ q=>Bool.noConfusion (c1.symm.trans q)) (λ _=>?_)
 (conv=>whnf)
 refine dH m λ v3 hv3 m=>?_
 refine ⟨_,_,(Ih hv3),?_⟩
 (conv=>whnf)
 refine dH m λ v4 hv4 m=>?_
 refine ⟨_,_,(λ q0=>(Gd (hv4 q0))),?_⟩
 (conv=>whnf)
 refine dH m λ v5 hv5 m=>?_
 refine ⟨_,_,(λ q0=>(Gd (hv5 q0))),?_⟩
 (conv=>whnf)
 have c2:=m.1
 have m:=m.2
 refine fG (λ q=>Bool.noConfusion (c2.symm.trans q)) (λ _=>?_)
 (conv=>whnf)
 refine dH m λ v6 hv6 m=>?_
 refine ⟨_,_,(Ky hv6),?_⟩
 (conv=>whnf)
 have c3:=m.1
 have m:=m.2
 refine fG (λ _=>?_) (λ q=>Bool.noConfusion (q.symm.trans c3))
 (conv=>whnf)
 refine dH m λ v7 hv7 m=>?_
 refine ⟨_,_,(Ky hv7),?_⟩
 (conv=>whnf)
 have c4:=m.1
 have m:=m.2
 refine fG (λ q=>Bool.noConfusion (c4.symm.trans q)) (λ _=>?_)
 (conv=>whnf)
 have m:r=(l_,o8,(0:Int),(λ _=>none)):=m
 subst m
 refine ⟨[],[(0,some 304)],?_⟩
 (conv=>whnf)
 exact ⟨⟨rfl,trivial,⟨⟨rfl,rfl,rfl⟩,trivial⟩⟩,⟨⟨sf,sf,r2,trivial⟩,r2,trivial⟩⟩
variable {jT:azs} {Cm:azz}
theorem lM {x2_:dV->Option Int} {s_:azp} {r:Int} (m:jE jT Cm x2_ s_ r):S 100 [.agg [bg jT,eF Cm,.pm (.int .i64) [.bool] x2_],ak s_] [] (iV r) [] :=sp Tryz.func100 rfl<|l0 m (λ g1=>⟨[(2,.ptr 0 0 0),(5,iV g1.1),(8,ak s_),(9,iV (s_.length:Int)),(10,iV g1.2)],[(0,some (.box [bg jT,eF Cm,.pm (.int .i64) [.bool] x2_]))],1⟩) <|λ ah g1 m=>si m (λ _ m=>s2 m λ _ _ m=>s2 m λ _ _ m=>sn m λ _ m=>le m) bO
variable {n_:Int}
theorem nK {dD:dV->Option Int} {r:azp} (m:jU jT Cm n_ dD r):S 169 [.agg [bg jT,eF Cm,.mref 0],iV n_] [.map (.int .i64) [.bool] dD] (.dR 1 0 r.length false) [.map (.int .i64) [.bool] dD,.row 1 r.length (bF iV 0 r)] :=sp Tryz.func169 rfl<|s2 m λ _ _ m=>lf m (λ g1=>⟨[(1,iV g1.1),(2,.ptr 1 0 0),(5,.dR 2 0 g1.2.2.length false),(6,iV g1.2.1)],[(0,some (.map (.int .i64) [.bool] dD)),(1,some (.box [bg jT,eF Cm,.mref 0])),(2,some (.row 1 g1.2.2.length (bF iV 0 g1.2.2)))],3⟩) [(2,some 41)] [] <|λ ah g1 m=>si m (λ _ m=>s2 m λ _ _ m=>s2 m λ _ _ m=>sn m λ _ m=>le m) λ _ m=>by cases m;exact rt [] [(1,some 2)]
theorem Sk {l_:azs} {dD:azp} {r:azA} (m:yZ l_ dD r):S 257 [bg l_,.dR 0 0 dD.length false] [.row 1 dD.length (bF iV 0 dD)] (nI r) [.row 1 dD.length (bF iV 0 dD)] :=sp Tryz.func257 rfl<|sn m λ _ m=>lf m (λ g1=>⟨[(0,bg l_),(1,.dR 0 0 dD.length false),(5,.dR 1 0 g1.2.length false),(13,bg l_),(14,iV (l_.length:Int)),(15,iV g1.1)],[(0,some (.row 1 dD.length (bF iV 0 dD))),(1,some (.row 2 g1.2.length (bF rZ dW g1.2)))],2⟩) [(1,some 25)] [] <|λ ah g1 m=>si m (λ _ m=>s2 m λ _ _ m=>sn m λ _ m=>sq m Ii λ v7 m=>si m (λ _ m=>s2 m λ _ _ m=>le m) λ _ m=>sn m λ _ m=>si m (λ _ m=>s2 m λ _ _ m=>le m) λ _ m=>si m (λ _ m=>sn m λ _ m=>sq m QN λ v8 m=>s2 m λ _ _ m=>le m) λ _ m=>si m (λ _ m=>sn m λ _ m=>sq m NC λ v9 m=>s2 m λ _ _ m=>le m) λ _ m=>s2 m λ _ _ m=>sn m λ _ m=>le m) λ _ m=>by cases m;exact rt [1] []
theorem Sl {l_:azs} {dD:azp} {r:azA×Int} (m:y8 l_ dD r):S 229 [bg l_,.dR 0 0 dD.length false] [.row 1 dD.length (bF iV 0 dD)] (.jX [nI r.1,iV r.2]) [.row 1 dD.length (bF iV 0 dD)] :=sp Tryz.func229 rfl<|sq m mX λ v1 m=>si m bO λ _ m=>sq m qK λ v2 m=>si m bO λ _ m=>sq m Sk λ v3 m=>bG m
theorem Sm {l_:azs} {dD:azp} (m:Fv l_ o8 dD r):S 167 [bg l_,.dR 0 0 dD.length false,eF o8] [.row 1 dD.length (bF iV 0 dD)] (.bool r) [.row 1 dD.length (bF iV 0 dD)] :=sp Tryz.func167 rfl<|sq m Sl λ v1 m=>lf m (λ g1=>⟨[(2,eF o8),(7,.ptr 1 0 0),(17,bg l_),(18,iV (l_.length:Int)),(19,iV g1)],[(0,some (.row 1 dD.length (bF iV 0 dD))),(1,some (.box [nI v1.1]))],2⟩) [(1,some 57)] [] <|λ ah g1 m=>si m (λ _ m=>s2 m λ _ _ m=>sn m λ _ m=>sb m λ v4 hv4 m=>cl (λ q0=>(pI (hv4 q0)))<|si m bO λ _ m=>sn m λ _ m=>le m) λ _ m=>sq m mI λ v5 m=>bG m
theorem zY {dD:dV->Option Int} {r:(Bool×(dV->Option Int))} (m:nR jT Cm n_ dD r):S 170 [.agg [bg jT,eF Cm,.mref 0],iV n_] [.map (.int .i64) [.bool] dD] (.bool r.1) [.map (.int .i64) [.bool] r.2] :=sp Tryz.func170 rfl<|si m (λ _ m=>sq m nK λ v1 m=>sq m Sm λ v2 m=>bG m) bO
variable {qW:azp}
theorem Dx {wo:aI} {jB:Int} {MC:Nat} {ME:Nat} {xG:dV->Option Int} {r:(Nat×Nat×(dV->Option Int)×azp)} (m:jV wo jB MC ME xG qW r):S 168 [fD wo,iV jB,.ptr 0 0 0,.ptr 1 0 0] [.box [.mref 2],.box [.dR 3 MC ME false],.map (.int .i64) [(.int .i64)] xG,.row 1 qW.length (bF iV 0 qW)] (.jX []) [.box [.mref 2],.box [.dR 4 r.1 r.2.1 false],.map (.int .i64) [(.int .i64)] r.2.2.1,acP,.row 1 r.2.2.2.length (bF iV 0 r.2.2.2)] :=sp Tryz.func168 rfl<|by
 have h4:=m.1
 have m:=m.2
 refine fP m (λ c1 m=>?_) (λ c1 m=>?_)
 ·(conv=>whnf)
  refine aS m λ h1 m=>?_
  (conv=>whnf)
  refine aS m λ h2 m=>?_
  (conv=>whnf)
  refine aS m λ h3 m=>?_
  (conv=>whnf)
  have m:r=(0,(ME+1),(CX xG (.i jB) ((jJ xG (.i (qW.getD (addN MC 0) 0)))+(1:Int))),(((qW.drop (MC)).take (ME))++([jB]:azp))):=m
  subst m
  refine ⟨[],[(4,some 188)],?_⟩
  (conv=>whnf)
  exact ⟨⟨rfl,trivial,⟨⟨r2,trivial⟩,⟨aaZ,trivial⟩,⟨rfl,rfl,rfl⟩,⟨rfl,oz,(iR oz (ac7 (a:=MC) (N:=qW.length) (λ _ _=>.refl _) (by first | omega | (simp; omega))) rfl (fK iV 0 [jB]))⟩,trivial⟩⟩,trivial⟩
 (conv=>whnf)
 have m:r=(MC,ME,xG,qW):=m
 subst m
 refine ⟨[],[(4,some 3)],?_⟩
 (conv=>whnf)
 exact ⟨⟨rfl,trivial,⟨⟨r2,trivial⟩,⟨aaZ,trivial⟩,⟨rfl,rfl,rfl⟩,ab2,trivial⟩⟩,trivial⟩
theorem Gz {dD:dV->Option Int} {agj:Nat} {agk:Nat} {qW:dV->Option Int} {SX:azp} {r:((dV->Option Int)×Nat×Nat×(dV->Option Int)×azp)} (m:nS jT Cm n_ dD agj agk qW SX r):S 101 [.agg [bg jT,eF Cm,.mref 0],iV n_,.fn 168 [.ptr 1 0 0,.ptr 2 0 0]] [.map (.int .i64) [.bool] dD,.box [.mref 3],.box [.dR 4 agj agk false],.map (.int .i64) [(.int .i64)] qW,.row 1 SX.length (bF iV 0 SX)] (.jX []) [.map (.int .i64) [.bool] r.1,.box [.mref 3],.box [.dR 5 r.2.1 r.2.2.1 false],.map (.int .i64) [(.int .i64)] r.2.2.2.1,acP,.row 1 r.2.2.2.2.length (bF iV 0 r.2.2.2.2)] :=sp Tryz.func101 rfl<|by
 have h71:=m.1
 have m:=m.2
 refine dH m λ v1 hv1 m=>?_
 refine ⟨_,_,(nK hv1),?_⟩
 (conv=>whnf)
 refine nN (ct:=[]) iD dk m (λ g1=>⟨[(2,.fn 168 [.ptr 1 0 0,.ptr 2 0 0]),(3,.ptr 5 0 0),(6,.dR 6 0 g1.2.2.2.2.2.1.length false),(16,bg jT),(17,iV (jT.length:Int)),(18,iV g1.1)],[(0,some (.map (.int .i64) [.bool] g1.2.1)),(1,some (.box [.mref 3])),(2,some (.box [.dR 7 g1.2.2.1 g1.2.2.2.1 false])),(3,some (.map (.int .i64) [(.int .i64)] g1.2.2.2.2.1)),(5,some (.box [bg jT,eF Cm,.mref 0])),(6,some (.row 1 g1.2.2.2.2.2.1.length (bF iV 0 g1.2.2.2.2.2.1))),(7,some (.row 1 g1.2.2.2.2.2.2.length (bF iV 0 g1.2.2.2.2.2.2)))],8⟩) [(6,some 29),(7,some 4)] [] ⟨rfl,⟨⟨rfl,r4,r4,trivial⟩,r4,aaZ,sr,r2,r2,trivial⟩,⟨⟨rfl,rfl,rfl⟩,⟨r2,trivial⟩,⟨aaZ,trivial⟩,⟨rfl,rfl,rfl⟩,⟨sr,sr,r2,trivial⟩,ab2,ab2,trivial⟩⟩ ?_
 intro ah g1 m
 (conv=>whnf)
 have h70:=m.1
 have m:=m.2
 refine fP m (λ c21 m=>?_) (λ c21 m=>?_)
 ·(conv=>whnf)
  refine aS m λ h47 m=>?_
  (conv=>whnf)
  refine aS m λ h48 m=>?_
  (conv=>whnf)
  refine nN (ct:=[]) iD dk m (λ g4=>⟨[(2,.fn 168 [.ptr 1 0 0,.ptr 2 0 0]),(3,.ptr 5 0 0),(6,.dR 6 0 g4.2.2.2.2.2.1.length false),(7,iV g1.1),(9,iV (g1.2.2.2.2.2.1.getD g1.1.toNat 0)),(16,bg jT),(17,iV (jT.length:Int)),(18,iV g1.1),(29,iV ((((jT.getD g1.1.toNat aL).aO).length:Nat):Int)),(30,iV g4.1)],[(0,some (.map (.int .i64) [.bool] g4.2.1)),(1,some (.box [.mref 3])),(2,some (.box [.dR 7 g4.2.2.1 g4.2.2.2.1 false])),(3,some (.map (.int .i64) [(.int .i64)] g4.2.2.2.2.1)),(5,some (.box [bg jT,eF Cm,.mref 0])),(6,some (.row 1 g4.2.2.2.2.2.1.length (bF iV 0 g4.2.2.2.2.2.1))),(7,some (.row 1 g4.2.2.2.2.2.2.length (bF iV 0 g4.2.2.2.2.2.2)))],8⟩) [] [] ⟨rfl,⟨⟨rfl,r4,r4,trivial⟩,r4,aaZ,r2,r2,sr,r2,r2,r2,r2,trivial⟩,⟨⟨rfl,rfl,rfl⟩,⟨r2,trivial⟩,⟨aaZ,trivial⟩,⟨rfl,rfl,rfl⟩,⟨sr,sr,r2,trivial⟩,ab2,ab2,trivial⟩⟩ ?_
  intro gW g4 m
  (conv=>whnf)
  have h69:=m.1
  have m:=m.2
  refine fP m (λ c28 m=>?_) (λ c28 m=>?_)
  ·(conv=>whnf)
   refine aS m λ h61 m=>?_
   (conv=>whnf)
   refine dH m λ v26 aot m=>?_
   refine ⟨_,_,((lM aot).le ⟨.refl _,(.sl oz (λ _=>rfl) nofun (mM (λ _ _=>.refl _) rfl (.refl _))),trivial⟩ trivial),?_⟩
   (conv=>whnf)
   refine fP m (λ c29 m=>?_) (λ c29 m=>?_)
   ·(conv=>whnf)
    refine dH m λ v27 hv27 m=>?_
    refine ⟨_,_,(zY hv27),?_⟩
    (conv=>whnf)
    refine fP m (λ c30 m=>?_) (λ c30 m=>?_)
    ·(conv=>whnf)
     refine dH m λ v28 hv28 m=>?_
     refine ⟨_,_,(Dx hv28),?_⟩
     (conv=>whnf)
     have h62:=m.1
     have m:=m.2
     refine aS m λ h63 m=>?_
     (conv=>whnf)
     exact ⟨((g4.1+(1:Int)),v27.2,v28.1,v28.2.1,v28.2.2.1,(g4.2.2.2.2.2.1.set (g1.1.toNat) g4.1),v28.2.2.2),[(7,some 208)],[],m,⟨rfl,⟨⟨rfl,r4,r4,trivial⟩,r4,⟨rfl,rfl,rfl,oz,nofun⟩,r2,r2,sr,r2,r2,r2,r2,trivial⟩,⟨⟨rfl,rfl,rfl⟩,⟨r2,trivial⟩,⟨aaZ,trivial⟩,⟨rfl,rfl,rfl⟩,⟨sr,sr,r2,trivial⟩,⟨rfl,oz,(mM (λ _ _=>.refl _) rfl (.refl _))⟩,ab2,trivial⟩⟩⟩
    (conv=>whnf)
    refine aS m λ h64 m=>?_
    (conv=>whnf)
    exact ⟨((g4.1+(1:Int)),v27.2,g4.2.2.1,g4.2.2.2.1,g4.2.2.2.2.1,(g4.2.2.2.2.2.1.set (g1.1.toNat) g4.1),g4.2.2.2.2.2.2),[],[],m,⟨rfl,⟨⟨rfl,r4,r4,trivial⟩,r4,⟨rfl,rfl,rfl,oz,nofun⟩,r2,r2,sr,r2,r2,r2,r2,trivial⟩,⟨⟨rfl,rfl,rfl⟩,⟨r2,trivial⟩,⟨aaZ,trivial⟩,⟨rfl,rfl,rfl⟩,⟨sr,sr,r2,trivial⟩,⟨rfl,oz,(mM (λ _ _=>.refl _) rfl (.refl _))⟩,ab2,trivial⟩⟩⟩
   (conv=>whnf)
   refine aS m λ h65 m=>?_
   (conv=>whnf)
   refine aS m λ h66 m=>?_
   (conv=>whnf)
   exact ⟨((g4.1+(1:Int)),g4.2.1,g4.2.2.1,g4.2.2.2.1,g4.2.2.2.2.1,(g4.2.2.2.2.2.1.set (g1.1.toNat) g4.1),g4.2.2.2.2.2.2),[],[],m,⟨rfl,⟨⟨rfl,r4,r4,trivial⟩,r4,⟨rfl,rfl,rfl,oz,nofun⟩,r2,r2,sr,r2,r2,r2,r2,trivial⟩,⟨⟨rfl,rfl,rfl⟩,⟨r2,trivial⟩,⟨aaZ,trivial⟩,⟨rfl,rfl,rfl⟩,⟨sr,sr,r2,trivial⟩,⟨rfl,oz,(mM (λ _ _=>.refl _) rfl (.refl _))⟩,ab2,trivial⟩⟩⟩
  (conv=>whnf)
  refine aS m λ h67 m=>?_
  (conv=>whnf)
  refine aS m λ h68 m=>?_
  (conv=>whnf)
  exact ⟨((g1.1+(1:Int)),g4.2.1,g4.2.2.1,g4.2.2.2.1,g4.2.2.2.2.1,(g4.2.2.2.2.2.1.set (g1.1.toNat) (g1.2.2.2.2.2.1.getD g1.1.toNat 0)),g4.2.2.2.2.2.2),[],[],m,⟨rfl,⟨⟨rfl,r4,r4,trivial⟩,r4,⟨rfl,rfl,rfl,oz,nofun⟩,sr,r2,r2,trivial⟩,⟨⟨rfl,rfl,rfl⟩,⟨r2,trivial⟩,⟨aaZ,trivial⟩,⟨rfl,rfl,rfl⟩,⟨sr,sr,r2,trivial⟩,⟨rfl,oz,(mM (λ _ _=>.refl _) rfl (.refl _))⟩,ab2,trivial⟩⟩⟩
 (conv=>whnf)
 have m:r=(g1.2.1,g1.2.2.1,g1.2.2.2.1,g1.2.2.2.2.1,g1.2.2.2.2.2.2):=m
 subst m
 refine ⟨[],[(5,some 7)],?_⟩
 (conv=>whnf)
 exact ⟨⟨rfl,trivial,⟨⟨rfl,rfl,rfl⟩,⟨r2,trivial⟩,⟨aaZ,trivial⟩,⟨rfl,rfl,rfl⟩,ab2,trivial⟩⟩,trivial⟩
theorem Kz {from_:Int} {dD:dV->Option Int} {r:((dV->Option Int)×(dV->Option Int))} (m:qE jT Cm from_ dD r):S 99 [.agg [bg jT,eF Cm,.mref 0],iV from_] [.map (.int .i64) [.bool] dD] (.mref 1) [.map (.int .i64) [.bool] r.1,.map (.int .i64) [(.int .i64)] r.2] :=sp Tryz.func99 rfl<|lf m (λ g1=>⟨[(2,.ptr 1 0 0),(5,.ptr 2 0 0),(6,.ptr 3 0 0)],[(0,some (.map (.int .i64) [.bool] g1.1)),(1,some (.box [bg jT,eF Cm,.mref 0])),(2,some (.box [.mref 4])),(3,some (.box [.dR 5 g1.2.1 g1.2.2.1 false])),(4,some (.map (.int .i64) [(.int .i64)] g1.2.2.2.1)),(5,some (.row 1 g1.2.2.2.2.length (bF iV 0 g1.2.2.2.2)))],6⟩) [(2,some 49),(3,some 81),(4,some 17),(5,some 73)] [] <|λ ah g1 m=>by
 have h9:=m.1
 have m:=m.2
 refine fP m (λ c3 m=>?_) (λ c3 m=>?_)
 ·(conv=>whnf)
  refine aS m λ h6 m=>?_
  (conv=>whnf)
  refine dH m λ v3 hv3 m=>?_
  refine ⟨_,_,(Gz hv3),?_⟩
  (conv=>whnf)
  have h7:=m.1
  have m:=m.2
  refine aS m λ h8 m=>?_
  (conv=>whnf)
  exact ⟨(v3.1,(v3.2.1+1),(v3.2.2.1 - 1),v3.2.2.2.1,v3.2.2.2.2),[(3,some 86),(5,some 70)],[],m,⟨rfl,⟨r4,r4,r4,trivial⟩,⟨⟨rfl,rfl,rfl⟩,⟨sr,sr,r2,trivial⟩,⟨r2,trivial⟩,⟨aaZ,trivial⟩,⟨rfl,rfl,rfl⟩,ab2,trivial⟩⟩⟩
 (conv=>whnf)
 have m:r=(g1.1,g1.2.2.2.1):=m
 subst m
 refine ⟨[],[(1,some 4)],?_⟩
 (conv=>whnf)
 exact ⟨⟨rfl,trivial,⟨⟨rfl,rfl,rfl⟩,⟨rfl,rfl,rfl⟩,trivial⟩⟩,r2⟩
theorem N8 {w_:aI} {jB:Int} {dD:Int} {xG:Int} {SX:dV->Option Int} {Od:azr} {r:Int×azr} (m:uM w_ jB dD xG SX Od r):S 102 [fD w_,iV jB,.ptr 0 0 0,.ptr 1 0 0,.ptr 2 0 0,.ptr 3 0 0] [.box [iV dD],.box [.mref 4],.box [iV xG],.box [.dR 5 0 Od.length false],.map (.int .i64) [(.int .i64)] SX,.row 3 Od.length (bF fD dA Od)] (.jX []) [.box [iV r.1],.box [.mref 4],.box [iV xG],.box [.dR 6 0 r.2.length false],.map (.int .i64) [(.int .i64)] SX,acP,.row 3 r.2.length (bF fD dA r.2)] :=sp Tryz.func102 rfl<|sn m λ _ m=>si m (λ _ m=>sn m λ _ m=>by cases m;exact rt [] [(6,some 150)]) λ _ m=>by cases m;exact rt [] [(6,some 5)]
theorem GD {dD:dV->Option Int} {IL:Int} {qW:Int} {Od:dV->Option Int} {o6_:azr} {r:((dV->Option Int)×Int×azr)} (m:nT jT Cm n_ dD IL qW Od o6_ r):S 101 [.agg [bg jT,eF Cm,.mref 0],iV n_,.fn 102 [.ptr 1 0 0,.ptr 2 0 0,.ptr 3 0 0,.ptr 4 0 0]] [.map (.int .i64) [.bool] dD,.box [iV IL],.box [.mref 5],.box [iV qW],.box [.dR 6 0 o6_.length false],.map (.int .i64) [(.int .i64)] Od,.row 3 o6_.length (bF fD dA o6_)] (.jX []) [.map (.int .i64) [.bool] r.1,.box [iV r.2.1],.box [.mref 5],.box [iV qW],.box [.dR 7 0 r.2.2.length false],.map (.int .i64) [(.int .i64)] Od,acP,.row 3 r.2.2.length (bF fD dA r.2.2)] :=sp Tryz.func101 rfl<|sq m nK λ v1 m=>lf m (λ g1=>⟨[(2,.fn 102 [.ptr 1 0 0,.ptr 2 0 0,.ptr 3 0 0,.ptr 4 0 0]),(3,.ptr 7 0 0),(6,.dR 8 0 g1.2.2.2.1.length false),(16,bg jT),(17,iV (jT.length:Int)),(18,iV g1.1)],[(0,some (.map (.int .i64) [.bool] g1.2.1)),(1,some (.box [iV g1.2.2.1])),(2,some (.box [.mref 5])),(3,some (.box [iV qW])),(4,some (.box [.dR 9 0 g1.2.2.2.2.length false])),(5,some (.map (.int .i64) [(.int .i64)] Od)),(7,some (.box [bg jT,eF Cm,.mref 0])),(8,some (.row 1 g1.2.2.2.1.length (bF iV 0 g1.2.2.2.1))),(9,some (.row 3 g1.2.2.2.2.length (bF fD dA g1.2.2.2.2)))],10⟩) [(8,some 31),(9,some 6)] [] <|λ ah g1 m=>si m (λ _ m=>s2 m λ _ _ m=>l0 m (λ g4=>⟨[(2,.fn 102 [.ptr 1 0 0,.ptr 2 0 0,.ptr 3 0 0,.ptr 4 0 0]),(3,.ptr 7 0 0),(6,.dR 8 0 g4.2.2.2.1.length false),(7,iV g1.1),(9,iV (g1.2.2.2.1.getD g1.1.toNat 0)),(16,bg jT),(17,iV (jT.length:Int)),(18,iV g1.1),(29,iV ((((jT.getD g1.1.toNat aL).aO).length:Nat):Int)),(30,iV g4.1)],[(0,some (.map (.int .i64) [.bool] g4.2.1)),(1,some (.box [iV g4.2.2.1])),(2,some (.box [.mref 5])),(3,some (.box [iV qW])),(4,some (.box [.dR 9 0 g4.2.2.2.2.length false])),(5,some (.map (.int .i64) [(.int .i64)] Od)),(7,some (.box [bg jT,eF Cm,.mref 0])),(8,some (.row 1 g4.2.2.2.1.length (bF iV 0 g4.2.2.2.1))),(9,some (.row 3 g4.2.2.2.2.length (bF fD dA g4.2.2.2.2)))],10⟩) <|λ gW g4 m=>si m (λ _ m=>sn m λ _ m=>sb m λ v26 aot m=>cl ((lM aot).le ⟨.refl _,(.sl oz (λ _=>rfl) nofun (mM (λ _ _=>.refl _) rfl (.refl _))),trivial⟩ trivial)<|si m (λ _ m=>sq m zY λ v27 m=>si m (λ _ m=>sq m N8 λ v28 m=>sn m λ _ m=>lc [(9,some 210)] [] m) λ _ m=>sn m λ _ m=>le m) λ _ m=>s2 m λ _ _ m=>le m) λ _ m=>s2 m λ _ _ m=>le m) λ _ m=>by cases m;exact rt [] [(7,some 9)]
theorem X4 {l_:azs} {from_:azp} {jB:azp} {r:azr×Int} (m:Hf l_ from_ jB o8 r):S 40 [bg l_,ak from_,ak jB,eF o8] [] (.jX [iJ r.1,iV r.2]) [] :=sp Tryz.func40 rfl<|sq m Wz λ v1 m=>si m bO λ _ m=>sq m lM λ v2 m=>sq m Kz λ v3 m=>sq m lM λ v4 m=>si m bO λ _ m=>lf m (λ g1=>⟨[(10,.ptr 0 0 0),(12,.ptr 1 0 0),(13,iV g1.1),(16,.ptr 2 0 0)],[(0,some (.box [bg v1.1,eF v1.2.1,.mref 3])),(1,some (.box [.mref 4])),(2,some (.box [.dR 5 0 g1.2.2.length false])),(3,some (.map (.int .i64) [.bool] g1.2.1)),(4,some (.map (.int .i64) [(.int .i64)] v3.2)),(5,some (.row 3 g1.2.2.length (bF fD dA g1.2.2)))],6⟩) [(0,some 80),(1,some 160),(2,some 288),(3,some 48),(4,some 152),(5,none)] [] <|λ ah g1 m=>si m (λ _ m=>sq m GD λ v7 m=>lc [(5,some 102)] [] m) λ _ m=>by cases m;exact rt [5] []
theorem Sn {II:Int} {a3_:azu} {a4_:azp} {r:azr×Int} (m:Fw qm uG II IJ IK Gp oq mO yT Ae tC yU Ed wR Pb RL Fh Pd a3_ a4_ r):S 39 [.ro [bg qm,bf uG,iV II,bE IJ,dz IK,bZ Gp],.ro [ak oq,aK mO,ak yT,bJ Ae,aK tC,aK yU],.ro [ak Ed,aK wR,ak Pb,bJ RL,aK Fh,aK Pd],.ro [dX a3_],.ro [ak a4_]] [] (.jX [iJ r.1,iV r.2]) [] :=sp Tryz.func39 rfl<|sq m Wy λ v1 m=>sq m X4 λ v2 m=>bG m
theorem X5 {l_:azD} {from_:azq} {jB:azq} {r:azr×Int} (m:Hg l_ from_ jB r):S 43 [bZ l_,aK from_,aK jB] [] (.jX [iJ r.1,iV r.2]) [] :=sp Tryz.func43 rfl<|sq m zT λ v1 m=>si m bO λ _ m=>sq m zX λ v2 m=>sb m λ v3 hv3 m=>cl (λ q0=>(zX (hv3 q0)))<|si m bO λ _ m=>lf m (λ g1=>⟨[(1,aK from_),(2,aK jB),(8,.dR 0 0 g1.2.1.length false),(9,.dR 1 0 g1.2.2.length false),(25,iV (l_.length:Int)),(26,iV g1.1)],[(0,some (.row 3 g1.2.1.length (bF fD dA g1.2.1))),(1,some (.row 3 g1.2.2.length (bF fD dA g1.2.2)))],2⟩) [(0,none),(1,none)] [] <|λ ah g1 m=>si m (λ _ m=>s2 m λ _ _ m=>si m (λ _ m=>s2 m λ _ _ m=>lc [(0,some 154)] [] m) λ _ m=>s2 m λ _ _ m=>si m (λ _ m=>s2 m λ _ _ m=>lc [(1,some 250)] [] m) λ _ m=>sn m λ _ m=>le m) λ _ m=>sq m iZ λ v4 m=>by
 have h28:=m.1
 have m:=m.2
 refine aS m λ h29 m=>?_
 (conv=>whnf)
 have m:r=(((v4.take (g1.2.1.length))++g1.2.2),(0:Int)):=m
 subst m
 refine ⟨[42],[],?_⟩
 (conv=>whnf)
 exact ⟨⟨rfl,trivial,trivial⟩,(aai (by (conv=>whnf); exact ⟨oz,(λ _=>rfl),nofun,(iR oz (kN (f:=fD) (d:=dA) (by first | omega | exact ajb _ _ | exact afQ (ajb _ _) om | (simp; omega))) rfl (λ _ _=>.refl _))⟩) (aai (by first | ((conv=>whnf); exact r2) | exact r2) trivial))⟩
theorem Sq {II:Int} {r:azr×Int} (m:Fx qm uG II IJ IK Gp oq mO yT Ae tC yU Ed wR Pb RL Fh Pd r):S 42 [.ro [bg qm,bf uG,iV II,bE IJ,dz IK,bZ Gp],.ro [ak oq,aK mO,ak yT,bJ Ae,aK tC,aK yU],.ro [ak Ed,aK wR,ak Pb,bJ RL,aK Fh,aK Pd]] [] (.jX [iJ r.1,iV r.2]) [] :=sp Tryz.func42 rfl<|sq m X5 λ v1 m=>bG m
theorem Sr {mg:dV->Option Int} {r:azr×Int} (m:Fy mg a2_ r):S 44 [.ro [.fn 33 []],.ro [.pm (.int .i64) [(.int .i64)] mg],.ro [.pm (.int .i64) [(.int .i64)] a2_]] [] (.jX [iJ r.1,iV r.2]) [] :=sp Tryz.func44 rfl<|sq m DY λ v1 m=>bG m
theorem Sv {qm:azp} {uG:azq} {II:azp} {IJ:azw} {IK:azq} {Gp:azq} {aej:azp} {aek:azq} {ael:azp} {aem:azw} {Vo:azq} {Vp:azq} {r:azr×Int} (m:Fz qm uG II IJ IK Gp aej aek ael aem Vo Vp r):S 45 [.ro [.fn 31 [.ro [ak qm,aK uG,ak II,bJ IJ,aK IK,aK Gp],.ro [ak aej,aK aek,ak ael,bJ aem,aK Vo,aK Vp]]]] [] (.jX [iJ r.1,iV r.2]) [] :=sp Tryz.func45 rfl<|sq m DX λ v1 m=>bG m
theorem sN {jB:aM} {r:Int×azr} (m:qF b_ l_ from_ jB kQ r):S 10 [jf b_,dX l_,iq from_,iq jB,ak kQ] [] (.jX [.dR 0 0 r.2.length false,iV r.1]) [.row 3 r.2.length (bF fD dA r.2)] :=sp Tryz.func10 rfl<|sq m UL λ v1 m=>si m (λ _ m=>by cases m;exact rt [] [(0,none)]) λ _ m=>sq m vD λ v2 m=>sq m vD λ v3 m=>by
 refine YJ 8 ?_
 refine jr (ct:=[]) iD dk ?_
 (conv=>whnf)
 refine aS m λ h1 m=>?_
 (conv=>whnf)
 refine dH m λ v4 hv4 m=>?_
 refine ⟨_,_,(Sd hv4),?_⟩
 (conv=>whnf)
 refine fP m (λ c2 m=>?_) (λ c2 m=>?_)
 ·(conv=>whnf)
  have m:r=(v4.2,([]:azr)):=m
  subst m
  refine ⟨[],[(0,none)],?_⟩
  (conv=>whnf)
  exact ⟨⟨rfl,trivial,⟨rfl,trivial⟩⟩,⟨⟨rfl,rfl,rfl,rfl,rfl,rfl⟩,r2,trivial⟩⟩
 (conv=>whnf)
 refine aS m λ h2 m=>?_
 (conv=>whnf)
 refine aS m λ h3 m=>?_
 (conv=>whnf)
 refine jr (ct:=[]) iD dk ?_
 (conv=>whnf)
 refine aS m λ h4 m=>?_
 (conv=>whnf)
 refine dH m λ v5 hv5 m=>?_
 refine ⟨_,_,(Sg hv5),?_⟩
 (conv=>whnf)
 refine fP m (λ c3 m=>?_) (λ c3 m=>?_)
 ·(conv=>whnf)
  have m:r=(v5.2,([]:azr)):=m
  subst m
  refine ⟨[],[(0,none)],?_⟩
  (conv=>whnf)
  exact ⟨⟨rfl,trivial,⟨rfl,trivial⟩⟩,⟨⟨rfl,rfl,rfl,rfl,rfl,rfl⟩,r2,trivial⟩⟩
 (conv=>whnf)
 refine aS m λ h5 m=>?_
 (conv=>whnf)
 refine aS m λ h6 m=>?_
 (conv=>whnf)
 refine jr (ct:=[]) iD dk ?_
 (conv=>whnf)
 refine aS m λ h7 m=>?_
 (conv=>whnf)
 refine dH m λ v6 hv6 m=>?_
 refine ⟨_,_,(Si hv6),?_⟩
 (conv=>whnf)
 refine fP m (λ c4 m=>?_) (λ c4 m=>?_)
 ·(conv=>whnf)
  have m:r=(v6.2,([]:azr)):=m
  subst m
  refine ⟨[],[(0,none)],?_⟩
  (conv=>whnf)
  exact ⟨⟨rfl,trivial,⟨rfl,trivial⟩⟩,⟨⟨rfl,rfl,rfl,rfl,rfl,rfl⟩,r2,trivial⟩⟩
 (conv=>whnf)
 refine aS m λ h8 m=>?_
 (conv=>whnf)
 refine aS m λ h9 m=>?_
 (conv=>whnf)
 refine jr (ct:=[]) iD dk ?_
 (conv=>whnf)
 refine aS m λ h10 m=>?_
 (conv=>whnf)
 refine dH m λ v7 hv7 m=>?_
 refine ⟨_,_,(Sn hv7),?_⟩
 (conv=>whnf)
 refine fP m (λ c5 m=>?_) (λ c5 m=>?_)
 ·(conv=>whnf)
  have m:r=(v7.2,([]:azr)):=m
  subst m
  refine ⟨[],[(0,none)],?_⟩
  (conv=>whnf)
  exact ⟨⟨rfl,trivial,⟨rfl,trivial⟩⟩,⟨⟨rfl,rfl,rfl,rfl,rfl,rfl⟩,r2,trivial⟩⟩
 (conv=>whnf)
 refine aS m λ h11 m=>?_
 (conv=>whnf)
 refine aS m λ h12 m=>?_
 (conv=>whnf)
 refine jr (ct:=[]) iD dk ?_
 (conv=>whnf)
 refine aS m λ h13 m=>?_
 (conv=>whnf)
 refine dH m λ v8 BG m=>?_
 refine ⟨_,_,(Sq BG),?_⟩
 (conv=>whnf)
 refine fP m (λ c6 m=>?_) (λ c6 m=>?_)
 ·(conv=>whnf)
  have m:r=(v8.2,([]:azr)):=m
  subst m
  refine ⟨[],[(0,none)],?_⟩
  (conv=>whnf)
  exact ⟨⟨rfl,trivial,⟨rfl,trivial⟩⟩,⟨⟨rfl,rfl,rfl,rfl,rfl,rfl⟩,r2,trivial⟩⟩
 (conv=>whnf)
 refine aS m λ h14 m=>?_
 (conv=>whnf)
 refine aS m λ h15 m=>?_
 (conv=>whnf)
 refine jr (ct:=[]) iD dk ?_
 (conv=>whnf)
 refine aS m λ h16 m=>?_
 (conv=>whnf)
 refine dH m λ v9 Xx m=>?_
 refine ⟨_,_,(Sr Xx),?_⟩
 (conv=>whnf)
 refine fP m (λ c7 m=>?_) (λ c7 m=>?_)
 ·(conv=>whnf)
  have m:r=(v9.2,([]:azr)):=m
  subst m
  refine ⟨[],[(0,none)],?_⟩
  (conv=>whnf)
  exact ⟨⟨rfl,trivial,⟨rfl,trivial⟩⟩,⟨⟨rfl,rfl,rfl,rfl,rfl,rfl⟩,r2,trivial⟩⟩
 (conv=>whnf)
 refine aS m λ h17 m=>?_
 (conv=>whnf)
 refine aS m λ h18 m=>?_
 (conv=>whnf)
 refine jr (ct:=[]) iD dk ?_
 (conv=>whnf)
 refine aS m λ h19 m=>?_
 (conv=>whnf)
 refine dH m λ v10 Gq m=>?_
 refine ⟨_,_,(Sv Gq),?_⟩
 (conv=>whnf)
 refine fP m (λ c8 m=>?_) (λ c8 m=>?_)
 ·(conv=>whnf)
  have m:r=(v10.2,([]:azr)):=m
  subst m
  refine ⟨[],[(0,none)],?_⟩
  (conv=>whnf)
  exact ⟨⟨rfl,trivial,⟨rfl,trivial⟩⟩,⟨⟨rfl,rfl,rfl,rfl,rfl,rfl⟩,r2,trivial⟩⟩
 (conv=>whnf)
 refine aS m λ h20 m=>?_
 (conv=>whnf)
 refine aS m λ h21 m=>?_
 (conv=>whnf)
 refine jr (ct:=[]) iD dk ?_
 (conv=>whnf)
 refine fP m (λ c9 m=>?_) (λ c9 m=>?_)
 ·(conv=>whnf)
  have m:r=((3:Int),([]:azr)):=m
  subst m
  refine ⟨[],[(0,none)],?_⟩
  (conv=>whnf)
  exact ⟨⟨rfl,trivial,⟨rfl,trivial⟩⟩,⟨⟨rfl,rfl,rfl,rfl,rfl,rfl⟩,r2,trivial⟩⟩
 (conv=>whnf)
 have m:r=((0:Int),((((((v4.1++v5.1)++v6.1)++v7.1)++v8.1)++v9.1)++v10.1)):=m
 subst m
 refine ⟨[],[(0,some 1384)],?_⟩
 (conv=>whnf)
 exact ⟨⟨rfl,trivial,⟨⟨rfl,oz,(iR oz (iR oz (iR oz (iR oz (iR oz (iR rfl (λ _ _=>.refl _) rfl (λ _ _=>.refl _)) rfl (λ _ _=>.refl _)) rfl (λ _ _=>.refl _)) rfl (λ _ _=>.refl _)) rfl (λ _ _=>.refl _)) rfl (λ _ _=>.refl _))⟩,trivial⟩⟩,⟨⟨rfl,rfl,rfl,oz,nofun⟩,r2,trivial⟩⟩
theorem Gf {r:azw} (m:Ar s_ r):S 173 [bJ s_] [] (.dR 0 0 r.length false) [.row 3 r.length (bF jY bA r)] :=by
 obtain ⟨h1,m⟩:=m
 have m:r=s_:=m
 subst m
 refine wO (ct:=[1]) iD Tryz.func173 rfl rfl (ag5 rfl) dk (ag5 rfl) ?_
 (conv=>whnf)
 refine aaY (ct:=[]) iD (iD.slice (t:=39) (e:=65) rfl rfl rfl).1 dk dk dk dk dk [(2,acK),(0,bJ r)] [] 8 rfl ?_ (λ hn=>?_) ?_
 ·exact rfl
 ·(conv=>whnf)
  have hn:r.length=0:=hn
  refine ⟨[],[(0,none)],?_⟩
  (conv=>whnf)
  exact ⟨⟨rfl,trivial,⟨hn,trivial⟩⟩,⟨rfl,rfl,rfl,rfl,rfl,hn⟩⟩
 (conv=>whnf)
 refine ⟨by rw [ahi]; exact h1,?_⟩
 (conv=>whnf)
 refine ⟨[],[(0,some 24)],?_⟩
 (conv=>whnf)
 exact ⟨⟨rfl,trivial,⟨⟨rfl,ahi _,iR (l:=[]) rfl (λ _ h=>absurd h (ahh _)) rfl (λ _ _=>.refl _)⟩,trivial⟩⟩,⟨rfl,rfl,rfl,ahi _,nofun⟩⟩
theorem uo {r:azp×azq×azp×azw×azq×azq} (m:EM g_ r):S 108 [iq g_] [] (.agg [.dR 0 0 r.1.length false,.dR 1 0 r.2.1.length false,.dR 2 0 r.2.2.1.length false,.dR 3 0 r.2.2.2.1.length false,.dR 4 0 r.2.2.2.2.1.length false,.dR 5 0 r.2.2.2.2.2.length false]) [.row 1 r.1.length (bF iV 0 r.1),.row 1 r.2.1.length (bF AV.bool false r.2.1),.row 1 r.2.2.1.length (bF iV 0 r.2.2.1),.row 3 r.2.2.2.1.length (bF jY bA r.2.2.2.1),.row 1 r.2.2.2.2.1.length (bF AV.bool false r.2.2.2.2.1),.row 1 r.2.2.2.2.2.length (bF AV.bool false r.2.2.2.2.2)] :=sp Tryz.func108 rfl<|sq m rX λ v1 m=>sq m QO λ v2 m=>sq m Gf λ v3 m=>sq m mV λ v4 m=>sq m mV λ v5 m=>by cases m;exact rt [] [(0,some 32),(1,some 56),(2,some 57),(3,some 80),(4,some 104),(5,some 128)]
theorem DZ {at_:Int} {x_:Bool} {dD:azq} {r:Bool×azq} (m:FB at_ x_ dD r):S 183 [.dR 0 0 dD.length false,iV at_,.bool x_] [.row 1 dD.length (bF AV.bool false dD)] (.bool r.1) [.row 1 r.2.length (bF AV.bool false r.2)] :=sp Tryz.func183 rfl<|by
 have c1:=m.1
 have m:=m.2
 refine fG (λ q=>Bool.noConfusion (c1.symm.trans q)) (λ _=>?_)
 (conv=>whnf)
 refine aS m λ h1 m=>?_
 (conv=>whnf)
 have m:r=(true,(dD.set (at_.toNat) x_)):=m
 subst m
 refine ⟨[],[],?_⟩
 (conv=>whnf)
 exact ⟨⟨rfl,trivial,⟨⟨rfl,oz,(mM (λ _ _=>.refl _) rfl (.refl _))⟩,trivial⟩⟩,rfl⟩
theorem X6 {w_:aI} {IL:azp} {xG:azq} {SX:azw} {Od:azq} {o6_:azq} {r:Bool×azq} (m:YL w_ IL xG qW SX Od o6_ r):S 110 [.ptr 0 0 0,fD w_] [.box [.dR 1 0 IL.length false,.dR 2 0 xG.length false,.dR 3 0 qW.length false,.dR 4 0 SX.length false,.dR 5 0 Od.length false,.dR 6 0 o6_.length false],.row 1 IL.length (bF iV 0 IL),.row 1 xG.length (bF AV.bool false xG),.row 1 qW.length (bF iV 0 qW),.row 3 SX.length (bF jY bA SX),.row 1 Od.length (bF AV.bool false Od),.row 1 o6_.length (bF AV.bool false o6_)] (.bool r.1) [.box [.dR 1 0 IL.length false,.dR 2 0 xG.length false,.dR 3 0 qW.length false,.dR 4 0 SX.length false,.dR 5 0 r.2.length false,.dR 6 0 o6_.length false],.row 1 IL.length (bF iV 0 IL),.row 1 xG.length (bF AV.bool false xG),.row 1 qW.length (bF iV 0 qW),.row 3 SX.length (bF jY bA SX),.row 1 r.2.length (bF AV.bool false r.2),.row 1 o6_.length (bF AV.bool false o6_)] :=sp Tryz.func110 rfl<|by
 have c1:=m.1
 have m:=m.2
 refine fG (λ q=>Bool.noConfusion (c1.symm.trans q)) (λ _=>?_)
 (conv=>whnf)
 have c2:=m.1
 have m:=m.2
 refine fG (λ q=>Bool.noConfusion (c2.symm.trans q)) (λ _=>?_)
 (conv=>whnf)
 have c3:=m.1
 have m:=m.2
 refine fG (λ q=>Bool.noConfusion (c3.symm.trans q)) (λ _=>?_)
 (conv=>whnf)
 have c4:=m.1
 have m:=m.2
 refine fG (λ q=>Bool.noConfusion (c4.symm.trans q)) (λ _=>?_)
 (conv=>whnf)
 have c5:=m.1
 have m:=m.2
 refine fG (λ _=>?_) (λ q=>Bool.noConfusion (q.symm.trans c5))
 (conv=>whnf)
 have c6:=m.1
 have m:=m.2
 refine fG (λ _=>?_) (λ q=>Bool.noConfusion (q.symm.trans c6))
 (conv=>whnf)
 refine dH m λ v1 hv1 m=>?_
 refine ⟨_,_,(DZ hv1),?_⟩
 (conv=>whnf)
 have h1:=m.1
 have m:=m.2
 have m:r=(((decide (w_.Value<=(1:Int)))&&v1.1),v1.2):=m
 subst m
 refine ⟨[],[],?_⟩
 (conv=>whnf)
 exact ⟨⟨rfl,trivial,⟨⟨aaZ,aaZ,aaZ,aaZ,⟨rfl,rfl,rfl,(by first | omega | (simp; omega)),nofun⟩,aaZ,trivial⟩,ab2,ab2,ab2,ab2,ab2,ab2,trivial⟩⟩,rfl⟩
theorem Bg {w_:aI} {r:aM×Int} (m:Hl b_ g_ w_ r):S 122 [jf b_,iq g_,fD w_] [] (.jX [iq r.1,iV r.2]) [] :=sp Tryz.func122 rfl<|sq m uo λ v1 m=>sq m X6 λ v2 m=>by
 have h1:=m.1
 have m:=m.2
 have c1:=m.1
 have m:=m.2
 refine fG (λ q=>Bool.noConfusion (c1.symm.trans q)) (λ _=>?_)
 (conv=>whnf)
 have m:r=((⟨v1.1,(⟨v1.2.1,v1.2.2.1⟩:bq),v1.2.2.2.1,v2.2,v1.2.2.2.2.2⟩:aM),(0:Int)):=m
 subst m
 refine ⟨[48,49,50,51,52,53],[],?_⟩
 (conv=>whnf)
 exact ⟨⟨rfl,trivial,trivial⟩,(aai (aai aac (aai aac (aai aac (aai aac (aai aac (aai aac trivial)))))) (aai (by first | ((conv=>whnf); exact r2) | exact r2) trivial))⟩
theorem QS {is_:Bool} {r:Int} (m:MG is_ r):S 197 [.bool is_] [] (iV r) [] :=sp Tryz.func197 rfl<|si m bO bO
theorem xg {w_:aI} {r:Int} (m:Bt g_ w_ r):S 123 [iq g_,fD w_] [] (iV r) [] :=sp Tryz.func123 rfl<|by
 have c1:=m.1
 have m:=m.2
 refine fG (λ q=>Bool.noConfusion (c1.symm.trans q)) (λ _=>?_)
 (conv=>whnf)
 have c2:=m.1
 have m:=m.2
 refine fG (λ q=>Bool.noConfusion (c2.symm.trans q)) (λ _=>?_)
 (conv=>whnf)
 have c3:=m.1
 have m:=m.2
 refine fG (λ q=>Bool.noConfusion (c3.symm.trans q)) (λ _=>?_)
 (conv=>whnf)
 have c4:=m.1
 have m:=m.2
 refine fG (λ _=>?_) (λ q=>Bool.noConfusion (q.symm.trans c4))
 (conv=>whnf)
 refine aS m λ h1 m=>?_
 (conv=>whnf)
 refine dH m λ v1 hv1 m=>?_
 refine ⟨_,_,(QS hv1),?_⟩
 (conv=>whnf)
 have m:r=v1:=m
 subst m
 refine ⟨[],[],?_⟩
 (conv=>whnf)
 exact ⟨⟨rfl,trivial,trivial⟩,r2⟩
theorem Gg {dD:azr} {r:aM×azr×Int} (m:IU b_ g_ dD r):S 50 [jf b_,iq g_,.dR 0 0 dD.length false] [.row 3 dD.length (bF fD dA dD)] (.jX [iq r.1,iJ r.2.1,iV r.2.2]) [.row 3 dD.length (bF fD dA dD)] :=sp Tryz.func50 rfl<|lf m (λ g1=>⟨[(3,.ptr 1 0 0),(4,.ptr 2 0 0),(6,.ptr 3 0 0),(9,.dR 4 0 g1.2.2.2.2.2.2.2.length false),(14,.dR 0 0 dD.length false),(15,iV (dD.length:Int)),(16,iV g1.1)],[(0,some (.row 3 dD.length (bF fD dA dD))),(1,some (.box [bg b_.bP,bf b_.bI,iV b_.aU.cu,bE b_.aU.aH,dz b_.bH,bZ b_.bX])),(2,some (.box [ak g1.2.1,aK g1.2.2.1,ak g1.2.2.2.1,bJ g1.2.2.2.2.1,aK g1.2.2.2.2.2.1,aK g1.2.2.2.2.2.2.1])),(3,some (.box [acK,acK,acK,acK,acK,acK])),(4,some (.row 3 g1.2.2.2.2.2.2.2.length (bF fD dA g1.2.2.2.2.2.2.2)))],5⟩) [(2,some 9),(3,some 17),(4,none)] [] <|λ ah g1 m=>si m (λ _ m=>sn m λ _ m=>sq m Bg λ v5 m=>by
 have c6:=m.1
 have m:=m.2
 refine fG (λ q=>Bool.noConfusion (c6.symm.trans q)) (λ _=>?_)
 (conv=>whnf)
 refine dH m λ v6 hv6 m=>?_
 refine ⟨_,_,(xg hv6),?_⟩
 (conv=>whnf)
 refine aS m λ h8 m=>?_
 (conv=>whnf)
 refine aS m λ h9 m=>?_
 (conv=>whnf)
 exact ⟨((g1.1+(1:Int)),v5.1.Setting,v5.1.bB.On,v5.1.bB.bC,v5.1.Uses,v5.1.Released,v5.1.aY,(g1.2.2.2.2.2.2.2++([(⟨(dD.getD g1.1.toNat dA).dG,(dD.getD g1.1.toNat dA).Unit,v6⟩:aI)]:azr))),[(4,some 221)],[],m,⟨rfl,⟨r4,r4,r4,⟨rfl,rfl,rfl,oz,nofun⟩,aaZ,r2,r2,trivial⟩,⟨ab2,⟨sr,sr,r2,sr,sr,sr,trivial⟩,⟨sf,sf,sf,sf,sf,sf,trivial⟩,⟨sr,sr,sr,sr,sr,sr,trivial⟩,⟨rfl,oz,(iR rfl (λ _ _=>.refl _) rfl (fK fD dA [(⟨(dD.getD g1.1.toNat dA).dG,(dD.getD g1.1.toNat dA).Unit,v6⟩:aI)]))⟩,trivial⟩⟩⟩) λ _ m=>sq m iZ λ v7 m=>by
 have h10:=m.1
 have m:=m.2
 refine dH m λ v8 BG m=>?_
 refine ⟨_,_,(uo BG),?_⟩
 (conv=>whnf)
 have m:r=((⟨v8.1,(⟨v8.2.1,v8.2.2.1⟩:bq),v8.2.2.2.1,v8.2.2.2.2.1,v8.2.2.2.2.2⟩:aM),(v7.take (g1.2.2.2.2.2.2.2.length)),(0:Int)):=m
 subst m
 refine ⟨[37,38,39,40,41,42,4],[],?_⟩
 (conv=>whnf)
 exact ⟨⟨rfl,trivial,⟨ab2,trivial⟩⟩,(aai (aai aac (aai aac (aai aac (aai aac (aai aac (aai aac trivial)))))) (aai (by (conv=>whnf); exact ⟨oz,(λ _=>rfl),nofun,(kN (f:=fD) (d:=dA) (by first | omega | exact ajb _ _ | exact afQ (ajb _ _) om | (simp; omega)))⟩) (aai (by first | ((conv=>whnf); exact r2) | exact r2) trivial)))⟩
theorem WA {dD:azr} {r:azr×Int} (m:Vs b_ from_ dD r):S 13 [jf b_,iq from_,.dR 0 0 dD.length false] [.row 3 dD.length (bF fD dA dD)] (.jX [iJ r.1,iV r.2]) [.row 3 dD.length (bF fD dA dD)] :=sp Tryz.func13 rfl<|sq m Gg λ v1 m=>bG m
variable {w_:azr}
theorem nA {r:aM×azr×Int} (m:o9 b_ g_ w_ r):S 50 [jf b_,iq g_,iJ w_] [] (.jX [iq r.1,iJ r.2.1,iV r.2.2]) [] :=sp Tryz.func50 rfl<|lf m (λ g1=>⟨[(3,.ptr 0 0 0),(4,.ptr 1 0 0),(6,.ptr 2 0 0),(9,.dR 3 0 g1.2.2.2.2.2.2.2.length false),(14,iJ w_),(15,iV (w_.length:Int)),(16,iV g1.1)],[(0,some (.box [bg b_.bP,bf b_.bI,iV b_.aU.cu,bE b_.aU.aH,dz b_.bH,bZ b_.bX])),(1,some (.box [ak g1.2.1,aK g1.2.2.1,ak g1.2.2.2.1,bJ g1.2.2.2.2.1,aK g1.2.2.2.2.2.1,aK g1.2.2.2.2.2.2.1])),(2,some (.box [acK,acK,acK,acK,acK,acK])),(3,some (.row 3 g1.2.2.2.2.2.2.2.length (bF fD dA g1.2.2.2.2.2.2.2)))],4⟩) [(1,some 8),(2,some 16),(3,none)] [] <|λ ah g1 m=>si m (λ _ m=>sn m λ _ m=>sq m Bg λ v5 m=>by
 have c6:=m.1
 have m:=m.2
 refine fG (λ q=>Bool.noConfusion (c6.symm.trans q)) (λ _=>?_)
 (conv=>whnf)
 refine dH m λ v6 hv6 m=>?_
 refine ⟨_,_,(xg hv6),?_⟩
 (conv=>whnf)
 refine aS m λ h8 m=>?_
 (conv=>whnf)
 refine aS m λ h9 m=>?_
 (conv=>whnf)
 exact ⟨((g1.1+(1:Int)),v5.1.Setting,v5.1.bB.On,v5.1.bB.bC,v5.1.Uses,v5.1.Released,v5.1.aY,(g1.2.2.2.2.2.2.2++([(⟨(w_.getD g1.1.toNat dA).dG,(w_.getD g1.1.toNat dA).Unit,v6⟩:aI)]:azr))),[(3,some 220)],[],m,⟨rfl,⟨r4,r4,r4,⟨rfl,rfl,rfl,oz,nofun⟩,sr,r2,r2,trivial⟩,⟨⟨sr,sr,r2,sr,sr,sr,trivial⟩,⟨sf,sf,sf,sf,sf,sf,trivial⟩,⟨sr,sr,sr,sr,sr,sr,trivial⟩,⟨rfl,oz,(iR rfl (λ _ _=>.refl _) rfl (fK fD dA [(⟨(w_.getD g1.1.toNat dA).dG,(w_.getD g1.1.toNat dA).Unit,v6⟩:aI)]))⟩,trivial⟩⟩⟩) λ _ m=>sq m iZ λ v7 m=>by
 have h10:=m.1
 have m:=m.2
 refine dH m λ v8 BG m=>?_
 refine ⟨_,_,(uo BG),?_⟩
 (conv=>whnf)
 have m:r=((⟨v8.1,(⟨v8.2.1,v8.2.2.1⟩:bq),v8.2.2.2.1,v8.2.2.2.2.1,v8.2.2.2.2.2⟩:aM),(v7.take (g1.2.2.2.2.2.2.2.length)),(0:Int)):=m
 subst m
 refine ⟨[36,37,38,39,40,41,3],[],?_⟩
 (conv=>whnf)
 exact ⟨⟨rfl,trivial,trivial⟩,(aai (aai aac (aai aac (aai aac (aai aac (aai aac (aai aac trivial)))))) (aai (by (conv=>whnf); exact ⟨oz,(λ _=>rfl),nofun,(kN (f:=fD) (d:=dA) (by first | omega | exact ajb _ _ | exact afQ (ajb _ _) om | (simp; omega)))⟩) (aai (by first | ((conv=>whnf); exact r2) | exact r2) trivial)))⟩
theorem WB {Cn:Int} {r:aM×Bool×Int} (m:Vt b_ from_ w_ Cn r):S 15 [jf b_,iq from_,iJ w_,iV Cn] [] (.jX [iq r.1,.bool r.2.1,iV r.2.2]) [] :=sp Tryz.func15 rfl<|sq m nA λ v1 m=>by
 have c1:=m.1
 have m:=m.2
 refine fG (λ q=>Bool.noConfusion (c1.symm.trans q)) (λ _=>?_)
 (conv=>whnf)
 have c2:=m.1
 have m:=m.2
 refine fG (λ q=>Bool.noConfusion (c2.symm.trans q)) (λ _=>?_)
 (conv=>whnf)
 refine aS m λ h1 m=>?_
 (conv=>whnf)
 refine dH m λ v2 hv2 m=>?_
 refine ⟨_,_,((nA hv2).le ⟨.refl _,.refl _,(.sl oz (λ _=>rfl) nofun (kN (f:=fD) (d:=dA) (by first | omega | exact ajb _ _ | exact afQ (ajb _ _) om | (simp; omega)))),trivial⟩ trivial),?_⟩
 (conv=>whnf)
 refine dH m λ v3 hv3 m=>?_
 refine ⟨_,_,(nA hv3),?_⟩
 (conv=>whnf)
 have m:r=(v3.1,false,v3.2.2):=m
 subst m
 refine ⟨[],[],?_⟩
 (conv=>whnf)
 exact ⟨⟨rfl,trivial,trivial⟩,⟨aaW (.refl _) rfl (azi (by exact azo _)),rfl,r2,trivial⟩⟩
theorem sO {a_:azr} {b_:azr} (m:y9 a_ b_ r):S 20 [iJ a_,iJ b_] [] (.bool r) [] :=sp Tryz.func20 rfl<|by
 have c1:=m.1
 have m:=m.2
 refine fG (λ q=>Bool.noConfusion (c1.symm.trans q)) (λ _=>?_)
 (conv=>whnf)
 refine nN (ct:=[]) iD dk m (λ g1=>⟨[(0,iJ a_),(1,iJ b_),(5,iV g1)],[],0⟩) [] [] ⟨rfl,⟨sr,sr,r2,trivial⟩,trivial⟩ ?_
 intro ah g1 m
 (conv=>whnf)
 refine fP m (λ c6 m=>?_) (λ c6 m=>?_)
 ·(conv=>whnf)
  refine aS m λ h7 m=>?_
  (conv=>whnf)
  refine aS m λ h8 m=>?_
  (conv=>whnf)
  have c7:=m.1
  have m:=m.2
  refine fG (λ q=>Bool.noConfusion (c7.symm.trans q)) (λ _=>?_)
  (conv=>whnf)
  refine aS m λ h9 m=>?_
  (conv=>whnf)
  exact ⟨(g1+(1:Int)),[],[],m,⟨rfl,⟨sr,sr,r2,trivial⟩,trivial⟩⟩
 (conv=>whnf)
 have m:r=true:=m
 subst m
 refine ⟨[],[],?_⟩
 (conv=>whnf)
 exact ⟨⟨rfl,trivial,trivial⟩,rfl⟩
theorem qL {s1_:azq} {s2_:azq} (m:sw s1_ s2_ r):S 53 [aK s1_,aK s2_] [] (.bool r) [] :=sp Tryz.func53 rfl<|by
 have c1:=m.1
 have m:=m.2
 refine fG (λ q=>Bool.noConfusion (c1.symm.trans q)) (λ _=>?_)
 (conv=>whnf)
 refine nN (ct:=[]) iD dk m (λ g1=>⟨[(0,aK s1_),(1,aK s2_),(12,iV (s1_.length:Int)),(13,iV g1)],[],0⟩) [] [] ⟨rfl,⟨sr,sr,r2,r2,trivial⟩,trivial⟩ ?_
 intro ah g1 m
 (conv=>whnf)
 refine fP m (λ c6 m=>?_) (λ c6 m=>?_)
 ·(conv=>whnf)
  refine aS m λ h7 m=>?_
  (conv=>whnf)
  refine aS m λ h8 m=>?_
  (conv=>whnf)
  have c7:=m.1
  have m:=m.2
  refine fG (λ q=>Bool.noConfusion (c7.symm.trans q)) (λ _=>?_)
  (conv=>whnf)
  refine aS m λ h9 m=>?_
  (conv=>whnf)
  exact ⟨(g1+(1:Int)),[],[],m,⟨rfl,⟨sr,sr,r2,r2,trivial⟩,trivial⟩⟩
 (conv=>whnf)
 have m:r=true:=m
 subst m
 refine ⟨[],[],?_⟩
 (conv=>whnf)
 exact ⟨⟨rfl,trivial,trivial⟩,rfl⟩
theorem UO {a_:bq} {b_:bq} (m:SY a_ b_ r):S 52 [og a_,og b_] [] (.bool r) [] :=sp Tryz.func52 rfl<|sq m qL λ v1 m=>sb m λ v2 hv2 m=>cl (λ q0=>(ny (hv2 q0)))<|bG m
theorem yt {f_:dV->Option Int} {r:Int} (m:qY s_ f_ r):S 184 [bJ s_,.fn 125 [.ro [.pm (.struct [(0,3),(1,3)]) [.bool] f_]]] [] (iV r) [] :=sp Tryz.func184 rfl<|l0 m (λ g1=>⟨[(0,bJ s_),(1,.fn 125 [.ro [.pm (.struct [(0,3),(1,3)]) [.bool] f_]]),(7,iV (s_.length:Int)),(8,iV (0:Int))],[],0⟩) <|λ ah g1 m=>by
 have c2:=m.1
 have m:=m.2
 refine fG (λ q=>Bool.noConfusion (c2.symm.trans q)) (λ _=>?_)
 (conv=>whnf)
 have m:r=(-1:Int):=m
 subst m
 refine ⟨[],[],?_⟩
 (conv=>whnf)
 exact ⟨⟨rfl,trivial,trivial⟩,r2⟩
theorem yu {f_:dV->Option Int} (m:qZ s_ f_ r):S 124 [bJ s_,.fn 125 [.ro [.pm (.struct [(0,3),(1,3)]) [.bool] f_]]] [] (.bool r) [] :=sp Tryz.func124 rfl<|sq m yt λ v1 m=>bG m
theorem Gh {a_:azw} {b_:azw} (m:IV a_ b_ r):S 54 [bJ a_,bJ b_] [] (.bool r) [] :=sp Tryz.func54 rfl<|lf m (λ g1=>⟨[(0,bJ a_),(5,.ptr 0 0 0),(9,bJ b_),(10,iV (b_.length:Int)),(11,iV (0:Int))],[(0,some (.box [.mref 1])),(1,some (.map (.struct [(0,3),(1,3)]) [.bool] (λ _=>none)))],2⟩) [(0,some 16),(1,some 8)] [] <|λ ah g1 m=>by
 have c2:=m.1
 have m:=m.2
 refine fG (λ q=>Bool.noConfusion (c2.symm.trans q)) (λ _=>?_)
 (conv=>whnf)
 refine dH m λ v1 hv1 m=>?_
 refine ⟨_,_,(yu hv1),?_⟩
 (conv=>whnf)
 have m:r=(!v1):=m
 subst m
 refine ⟨[],[],?_⟩
 (conv=>whnf)
 exact ⟨⟨rfl,trivial,trivial⟩,rfl⟩
theorem xk {a_:aM} {b_:aM} (m:Bu a_ b_ r):S 16 [iq a_,iq b_] [] (.bool r) [] :=sp Tryz.func16 rfl<|sq m ny λ v1 m=>sb m λ v2 hv2 m=>cl (λ q0=>(UO (hv2 q0)))<|sb m λ v3 hv3 m=>cl (λ q0=>(qL (hv3 q0)))<|sb m λ v4 hv4 m=>cl (λ q0=>(qL (hv4 q0)))<|by
 have c1:=m.1
 have m:=m.2
 refine fG (λ q=>Bool.noConfusion (c1.symm.trans q)) (λ _=>?_)
 (conv=>whnf)
 refine dH m λ v5 hv5 m=>?_
 refine ⟨_,_,(Gh hv5),?_⟩
 (conv=>whnf)
 refine dH m λ v6 hv6 m=>?_
 refine ⟨_,_,(λ q0=>(Gh (hv6 q0))),?_⟩
 (conv=>whnf)
 have m:r=(v5&&v6):=m
 subst m
 refine ⟨[],[],?_⟩
 (conv=>whnf)
 exact ⟨⟨rfl,trivial,trivial⟩,rfl⟩
theorem Sw {w_:aI} {pV:azs} {pW:azv} {ajq:Int} {ajr:azG} {ajs:azC} {ajt:azD} {aju:azu} {ajv:azp} {ajw:Bool} {IL:azp} {xG:azq} {SX:azw} {Od:azq} {o6_:azq} {r:Bool×azq} (m:Pj w_ pV pW ajq ajr ajs ajt aju ajv ajw IL xG qW SX Od o6_ r):S 110 [.ptr 0 0 8,fD w_] [.box [bg pV,bf pW,iV ajq,bE ajr,dz ajs,bZ ajt,dX aju,ak ajv,.dR 1 0 IL.length false,.dR 2 0 xG.length false,.dR 3 0 qW.length false,.dR 4 0 SX.length false,.dR 5 0 Od.length false,.dR 6 0 o6_.length false,.bool ajw],.row 1 IL.length (bF iV 0 IL),.row 1 xG.length (bF AV.bool false xG),.row 1 qW.length (bF iV 0 qW),.row 3 SX.length (bF jY bA SX),.row 1 Od.length (bF AV.bool false Od),.row 1 o6_.length (bF AV.bool false o6_)] (.bool r.1) [.box [bg pV,bf pW,iV ajq,bE ajr,dz ajs,bZ ajt,dX aju,ak ajv,.dR 1 0 IL.length false,.dR 2 0 xG.length false,.dR 3 0 qW.length false,.dR 4 0 SX.length false,.dR 5 0 r.2.length false,.dR 6 0 o6_.length false,.bool ajw],.row 1 IL.length (bF iV 0 IL),.row 1 xG.length (bF AV.bool false xG),.row 1 qW.length (bF iV 0 qW),.row 3 SX.length (bF jY bA SX),.row 1 r.2.length (bF AV.bool false r.2),.row 1 o6_.length (bF AV.bool false o6_)] :=sp Tryz.func110 rfl<|by
 have c1:=m.1
 have m:=m.2
 refine fG (λ q=>Bool.noConfusion (c1.symm.trans q)) (λ _=>?_)
 (conv=>whnf)
 have c2:=m.1
 have m:=m.2
 refine fG (λ q=>Bool.noConfusion (c2.symm.trans q)) (λ _=>?_)
 (conv=>whnf)
 have c3:=m.1
 have m:=m.2
 refine fG (λ q=>Bool.noConfusion (c3.symm.trans q)) (λ _=>?_)
 (conv=>whnf)
 have c4:=m.1
 have m:=m.2
 refine fG (λ q=>Bool.noConfusion (c4.symm.trans q)) (λ _=>?_)
 (conv=>whnf)
 have c5:=m.1
 have m:=m.2
 refine fG (λ _=>?_) (λ q=>Bool.noConfusion (q.symm.trans c5))
 (conv=>whnf)
 have c6:=m.1
 have m:=m.2
 refine fG (λ _=>?_) (λ q=>Bool.noConfusion (q.symm.trans c6))
 (conv=>whnf)
 refine dH m λ v1 hv1 m=>?_
 refine ⟨_,_,(DZ hv1),?_⟩
 (conv=>whnf)
 have h1:=m.1
 have m:=m.2
 have m:r=(((decide (w_.Value<=(1:Int)))&&v1.1),v1.2):=m
 subst m
 refine ⟨[],[],?_⟩
 (conv=>whnf)
 exact ⟨⟨rfl,trivial,⟨⟨sr,sr,r2,sr,sr,sr,sr,sr,aaZ,aaZ,aaZ,aaZ,⟨rfl,rfl,rfl,(by first | omega | (simp; omega)),nofun⟩,aaZ,rfl,trivial⟩,ab2,ab2,ab2,ab2,ab2,ab2,trivial⟩⟩,rfl⟩
theorem X7 {r:aM×Int×Int×Int} (m:YM b_ l_ aj g_ w_ r):S 46 [jf b_,dX l_,ak aj,iq g_,iJ w_] [] (.jX [iq r.1,iV r.2.1,iV r.2.2.1,iV r.2.2.2]) [] :=sp Tryz.func46 rfl<|sq m Du λ v1 m=>by
 have c1:=m.1
 have m:=m.2
 refine fG (λ q=>Bool.noConfusion (c1.symm.trans q)) (λ _=>?_)
 (conv=>whnf)
 refine dH m λ v2 hv2 m=>?_
 refine ⟨_,_,(CO hv2),?_⟩
 (conv=>whnf)
 have c2:=m.1
 have m:=m.2
 refine fG (λ q=>Bool.noConfusion (c2.symm.trans q)) (λ _=>?_)
 (conv=>whnf)
 refine dH m λ v3 hv3 m=>?_
 refine ⟨_,_,(uo hv3),?_⟩
 (conv=>whnf)
 refine dH m λ v4 hv4 m=>?_
 refine ⟨_,_,(pJ hv4),?_⟩
 (conv=>whnf)
 have c3:=m.1
 have m:=m.2
 refine fG (λ q=>Bool.noConfusion (c3.symm.trans q)) (λ _=>?_)
 (conv=>whnf)
 refine nN (ct:=[]) iD dk m (λ g1=>⟨[(4,iJ w_),(10,.ptr 0 0 0),(15,.ptr 1 0 0),(45,iJ w_),(46,iV (w_.length:Int)),(47,iV g1.1)],[(0,some (.box [acK,acK,acK,acK,acK,acK])),(1,some (.box [bg b_.bP,bf b_.bI,iV b_.aU.cu,bE b_.aU.aH,dz b_.bH,bZ b_.bX,dX l_,ak aj,.dR 2 0 v3.1.length false,.dR 3 0 v3.2.1.length false,.dR 4 0 v3.2.2.1.length false,.dR 5 0 v3.2.2.2.1.length false,.dR 6 0 g1.2.length false,.dR 7 0 v3.2.2.2.2.2.length false,.bool true])),(2,some (.row 1 v3.1.length (bF iV 0 v3.1))),(3,some (.row 1 v3.2.1.length (bF AV.bool false v3.2.1))),(4,some (.row 1 v3.2.2.1.length (bF iV 0 v3.2.2.1))),(5,some (.row 3 v3.2.2.2.1.length (bF jY bA v3.2.2.2.1))),(6,some (.row 1 g1.2.length (bF AV.bool false g1.2))),(7,some (.row 1 v3.2.2.2.2.2.length (bF AV.bool false v3.2.2.2.2.2)))],8⟩) [(0,some 16),(1,some 176),(2,some 160),(3,some 161),(4,some 162),(5,some 163),(6,some 164),(7,some 165)] [] ⟨rfl,⟨sr,r4,r4,sr,r2,r2,trivial⟩,⟨⟨sr,sr,sr,sr,sr,sr,trivial⟩,⟨sr,sr,r2,sr,sr,sr,sr,sr,aaZ,aaZ,aaZ,aaZ,aaZ,aaZ,rfl,trivial⟩,ab2,ab2,ab2,ab2,ab2,ab2,trivial⟩⟩ ?_
 intro ah g1 m
 (conv=>whnf)
 refine fP m (λ c10 m=>?_) (λ c10 m=>?_)
 ·(conv=>whnf)
  refine aS m λ h7 m=>?_
  (conv=>whnf)
  refine dH m λ v9 Xx m=>?_
  refine ⟨_,_,(Sw Xx),?_⟩
  (conv=>whnf)
  have h8:=m.1
  have m:=m.2
  have c11:=m.1
  have m:=m.2
  refine fG (λ q=>Bool.noConfusion (c11.symm.trans q)) (λ _=>?_)
  (conv=>whnf)
  refine dH m λ v10 Gq m=>?_
  refine ⟨_,_,(pJ Gq),?_⟩
  (conv=>whnf)
  have c12:=m.1
  have m:=m.2
  refine fG (λ q=>Bool.noConfusion (c12.symm.trans q)) (λ _=>?_)
  (conv=>whnf)
  refine aS m λ h9 m=>?_
  (conv=>whnf)
  exact ⟨((g1.1+(1:Int)),v9.2),[],[],m,⟨rfl,⟨sr,r4,r4,sr,r2,r2,trivial⟩,⟨⟨sr,sr,sr,sr,sr,sr,trivial⟩,⟨sr,sr,r2,sr,sr,sr,sr,sr,aaZ,aaZ,aaZ,aaZ,aaZ,aaZ,rfl,trivial⟩,ab2,ab2,ab2,ab2,ab2,ab2,trivial⟩⟩⟩
 (conv=>whnf)
 have m:r=((⟨v3.1,(⟨v3.2.1,v3.2.2.1⟩:bq),v3.2.2.2.1,g1.2,v3.2.2.2.2.2⟩:aM),(w_.length:Int),(0:Int),(0:Int)):=m
 subst m
 refine ⟨[2,3,4,5,6,7],[],?_⟩
 (conv=>whnf)
 exact ⟨⟨rfl,trivial,trivial⟩,(aai (aai aac (aai aac (aai aac (aai aac (aai aac (aai aac trivial)))))) (aai (by first | ((conv=>whnf); exact r2) | exact r2) (aai (by first | ((conv=>whnf); exact r2) | exact r2) (aai (by first | ((conv=>whnf); exact r2) | exact r2) trivial))))⟩
theorem Gi {jB:aM} (m:IW b_ l_ from_ jB kQ w_ r):S 11 [jf b_,dX l_,iq from_,iq jB,ak kQ,iJ w_] [] (.bool r) [] :=sp Tryz.func11 rfl<|sq m X7 λ v1 m=>sb m λ v2 hv2 m=>cl (λ q0=>(xk (hv2 q0)))<|bG m
theorem N9 {w_:Nat} {dD:azr} {r:aM×azr×Int} (m:JH b_ g_ w_ dD r):S 50 [jf b_,iq g_,.dR 0 0 w_ false] [.row 3 dD.length (bF fD dA dD)] (.jX [iq r.1,iJ r.2.1,iV r.2.2]) [.row 3 dD.length (bF fD dA dD)] :=sp Tryz.func50 rfl<|by
 have h12:=m.1
 have m:=m.2
 refine nN (ct:=[]) iD dk m (λ g1=>⟨[(3,.ptr 1 0 0),(4,.ptr 2 0 0),(6,.ptr 3 0 0),(9,.dR 4 0 g1.2.2.2.2.2.2.2.2.length false),(14,.dR 0 0 g1.1 false),(15,iV ((w_:Nat):Int)),(16,iV g1.2.1)],[(0,some (.row 3 dD.length (bF fD dA dD))),(1,some (.box [bg b_.bP,bf b_.bI,iV b_.aU.cu,bE b_.aU.aH,dz b_.bH,bZ b_.bX])),(2,some (.box [ak g1.2.2.1,aK g1.2.2.2.1,ak g1.2.2.2.2.1,bJ g1.2.2.2.2.2.1,aK g1.2.2.2.2.2.2.1,aK g1.2.2.2.2.2.2.2.1])),(3,some (.box [acK,acK,acK,acK,acK,acK])),(4,some (.row 3 g1.2.2.2.2.2.2.2.2.length (bF fD dA g1.2.2.2.2.2.2.2.2)))],5⟩) [(2,some 9),(3,some 17),(4,none)] [] ⟨rfl,⟨r4,r4,r4,⟨rfl,rfl,rfl,rfl,rfl,rfl⟩,aaZ,r2,r2,trivial⟩,⟨ab2,⟨sr,sr,r2,sr,sr,sr,trivial⟩,⟨sf,sf,sf,sf,sf,sf,trivial⟩,⟨sr,sr,sr,sr,sr,sr,trivial⟩,rfl,trivial⟩⟩ ?_
 intro ah g1 m
 (conv=>whnf)
 have h11:=m.1
 have m:=m.2
 refine fP m (λ c5 m=>?_) (λ c5 m=>?_)
 ·(conv=>whnf)
  refine aS m λ h7 m=>?_
  (conv=>whnf)
  refine dH m λ v5 hv5 m=>?_
  refine ⟨_,_,(Bg hv5),?_⟩
  (conv=>whnf)
  have c6:=m.1
  have m:=m.2
  refine fG (λ q=>Bool.noConfusion (c6.symm.trans q)) (λ _=>?_)
  (conv=>whnf)
  refine dH m λ v6 hv6 m=>?_
  refine ⟨_,_,(xg hv6),?_⟩
  (conv=>whnf)
  refine aS m λ h8 m=>?_
  (conv=>whnf)
  refine aS m λ h9 m=>?_
  (conv=>whnf)
  exact ⟨(g1.1,(g1.2.1+(1:Int)),v5.1.Setting,v5.1.bB.On,v5.1.bB.bC,v5.1.Uses,v5.1.Released,v5.1.aY,(g1.2.2.2.2.2.2.2.2++([(⟨(dD.getD g1.2.1.toNat dA).dG,(dD.getD g1.2.1.toNat dA).Unit,v6⟩:aI)]:azr))),[(4,some 221)],[],m,⟨rfl,⟨r4,r4,r4,⟨rfl,rfl,rfl,oz,nofun⟩,aaZ,r2,r2,trivial⟩,⟨ab2,⟨sr,sr,r2,sr,sr,sr,trivial⟩,⟨sf,sf,sf,sf,sf,sf,trivial⟩,⟨sr,sr,sr,sr,sr,sr,trivial⟩,⟨rfl,oz,(iR rfl (λ _ _=>.refl _) rfl (fK fD dA [(⟨(dD.getD g1.2.1.toNat dA).dG,(dD.getD g1.2.1.toNat dA).Unit,v6⟩:aI)]))⟩,trivial⟩⟩⟩
 (conv=>whnf)
 refine dH m λ v7 hv7 m=>?_
 refine ⟨_,_,(iZ hv7),?_⟩
 (conv=>whnf)
 have h10:=m.1
 have m:=m.2
 refine dH m λ v8 BG m=>?_
 refine ⟨_,_,(uo BG),?_⟩
 (conv=>whnf)
 have m:r=((⟨v8.1,(⟨v8.2.1,v8.2.2.1⟩:bq),v8.2.2.2.1,v8.2.2.2.2.1,v8.2.2.2.2.2⟩:aM),(v7.take (g1.2.2.2.2.2.2.2.2.length)),(0:Int)):=m
 subst m
 refine ⟨[37,38,39,40,41,42,4],[],?_⟩
 (conv=>whnf)
 exact ⟨⟨rfl,trivial,⟨ab2,trivial⟩⟩,(aai (aai aac (aai aac (aai aac (aai aac (aai aac (aai aac trivial)))))) (aai (by (conv=>whnf); exact ⟨oz,(λ _=>rfl),nofun,(kN (f:=fD) (d:=dA) (by first | omega | exact ajb _ _ | exact afQ (ajb _ _) om | (simp; omega)))⟩) (aai (by first | ((conv=>whnf); exact r2) | exact r2) trivial)))⟩
theorem QT {Cn:Int} {dD:azr} {r:aM×Bool×Int} (m:MH b_ from_ Cn dD r):S 15 [jf b_,iq from_,.dR 0 0 dD.length false,iV Cn] [.row 3 dD.length (bF fD dA dD)] (.jX [iq r.1,.bool r.2.1,iV r.2.2]) [.row 3 dD.length (bF fD dA dD)] :=sp Tryz.func15 rfl<|sq m Gg λ v1 m=>by
 have c1:=m.1
 have m:=m.2
 refine fG (λ q=>Bool.noConfusion (c1.symm.trans q)) (λ _=>?_)
 (conv=>whnf)
 have c2:=m.1
 have m:=m.2
 refine fG (λ q=>Bool.noConfusion (c2.symm.trans q)) (λ _=>?_)
 (conv=>whnf)
 refine aS m λ h1 m=>?_
 (conv=>whnf)
 refine dH m λ v2 hv2 m=>?_
 refine ⟨_,_,(N9 hv2),?_⟩
 (conv=>whnf)
 refine dH m λ v3 hv3 m=>?_
 refine ⟨_,_,(nA hv3),?_⟩
 (conv=>whnf)
 have m:r=(v3.1,false,v3.2.2):=m
 subst m
 refine ⟨[],[],?_⟩
 (conv=>whnf)
 exact ⟨⟨rfl,trivial,⟨ab2,trivial⟩⟩,⟨aaW (.refl _) rfl (azi (by exact azo _)),rfl,r2,trivial⟩⟩
theorem wI  {r:Bool} (m:tL r):S 7 [] [] (.bool r) [] :=spc [1,2,3,4,7,8] Tryz.func7 rfl<|ck [1,2,3,4,7,8] Tf r (λ g1=>⟨[],[],0⟩) (le m) λ g1 m=>ck [1,2,3,4,7,8] Te r (λ g2=>⟨[(1,.ptr 0 0 0)],[(0,some (.box [acK,acK,iV (0:Int),acK,.dR 1 0 g2.length false,acK])),(1,some (.row 1 g2.length (bF aeh d9 g2)))],2⟩) (lc [(0,some 24),(1,some 8)] [] m) λ g2 m=>ck [1,2,3,4,7,8] (Td g2) r (λ g3=>⟨[(1,.ptr 0 0 0),(2,dX g3)],[(0,some (.box [acK,acK,iV (0:Int),acK,.dR 1 0 g2.length false,acK])),(1,some (.row 1 g2.length (bF aeh d9 g2)))],2⟩) (lc [] [10] m) λ g3 m=>ck [1,2,3,4,7,8] (Tc g3) r (λ g4=>⟨[(1,.ptr 0 0 0),(2,dX g3),(3,.ptr 1 0 0),(4,.ptr 2 0 0)],[(0,some (.box [acK,acK,iV (0:Int),acK,dz g4.1,acK])),(1,some (.box [acK,acK,acK,acK,aK g4.2.1,acK])),(2,some (.box [acK,acK,acK,acK,aK g4.2.2,acK]))],3⟩) (lc [(1,some 34),(2,some 42)] [1,2,18] m) λ g4 m=>sb m λ v1 hv1 m=>cl ((sN hv1).le ⟨(Le.Aa ⟨ab3,ab3,(.refl _),ab3,(.refl _),ab3,trivial⟩),.refl _,(Le.Aa ⟨ab3,ab3,ab3,ab3,(.refl _),ab3,trivial⟩),(Le.Aa ⟨ab3,ab3,ab3,ab3,(.refl _),ab3,trivial⟩),ab3,trivial⟩ trivial)<|sb m λ v2 hv2 m=>cl ((sN hv2).le ⟨(Le.Aa ⟨ab3,ab3,(.refl _),ab3,(.refl _),ab3,trivial⟩),.refl _,(Le.Aa ⟨ab3,ab3,ab3,ab3,(.refl _),ab3,trivial⟩),(Le.Aa ⟨ab3,ab3,ab3,ab3,(.refl _),ab3,trivial⟩),(.sl rfl (λ _=>rfl) nofun (fK iV 0 [(0:Int)])),trivial⟩ trivial)<|by
 refine amR (ct:=[1,2,3,4,7,8]) iD dk dk (Ta g3 g4 v1 v2) r (λ g5=>⟨[(1,.ptr 0 0 0),(2,dX g3),(3,.ptr 1 0 0),(4,.ptr 2 0 0),(5,.dR 3 0 v1.2.length false),(6,iV v1.1),(7,.dR 4 0 v2.2.length false),(8,iV v2.1),(9,iJ g5.1),(10,iV g5.2)],[(0,some (.box [acK,acK,iV (0:Int),acK,dz g4.1,acK])),(1,some (.box [acK,acK,acK,acK,aK g4.2.1,acK])),(2,some (.box [acK,acK,acK,acK,aK g4.2.2,acK])),(3,some (.row 3 v1.2.length (bF fD dA v1.2))),(4,some (.row 3 v2.2.length (bF fD dA v2.2)))],5⟩) (Pk g3 g4 v1 v2) (Pm g3 g4 v1 v2) (λ g5 v4=>⟨[(1,.ptr 0 0 0),(2,dX g3),(3,.ptr 1 0 0),(4,.ptr 2 0 0),(5,.sl 3 1 true (bF fD dA [v4])),(6,iV v1.1),(7,.dR 4 0 v2.2.length false),(8,iV v2.1),(9,iJ g5.1),(10,iV g5.2)],[(0,some (.box [acK,acK,iV (0:Int),acK,dz g4.1,acK])),(1,some (.box [acK,acK,acK,acK,aK g4.2.1,acK])),(2,some (.box [acK,acK,acK,acK,aK g4.2.2,acK])),(4,some (.row 3 v2.2.length (bF fD dA v2.2)))],5⟩) (λ g5 v4=>⟨[(1,.ptr 0 0 0),(2,dX g3),(3,.ptr 1 0 0),(4,.ptr 2 0 0),(5,.dR 3 0 1 false),(6,iV v1.1),(7,.dR 4 0 v2.2.length false),(8,iV v2.1),(9,iJ g5.1),(10,iV g5.2)],[(0,some (.box [acK,acK,iV (0:Int),acK,dz g4.1,acK])),(1,some (.box [acK,acK,acK,acK,aK g4.2.1,acK])),(2,some (.box [acK,acK,acK,acK,aK g4.2.2,acK])),(3,some (.row 3 2 (appG 1 (bF fD dA [v4]) (λ _=>.agg [.undef,.undef,.undef])))),(4,some (.row 3 v2.2.length (bF fD dA v2.2)))],5⟩) 3 5 3 (.agg [.undef,.undef,.undef]) (alh _) rfl (λ j hj=>by match j,hj with | 0,_=>rfl | 1,_=>rfl | 2,_=>rfl) (λ g5 hk=>by obtain ⟨x,hL,h⟩:=akE hk; refine ⟨x,bF fD dA [x],(agi h).1,(agi h).2,?_⟩; simp only [hL]; exact ⟨rfl,rfl,rfl,rfl,z,z⟩) ?_ (λ g5 v4 m=>?_) (λ g5 v4 m=>?_)
 ·(conv=>whnf)
  refine dH m λ v17 apP m=>?_
  refine ⟨_,_,((WA apP).le ⟨(Le.Aa ⟨ab3,ab3,(.refl _),ab3,(.refl _),ab3,trivial⟩),(Le.Aa ⟨ab3,ab3,ab3,ab3,(.refl _),ab3,trivial⟩),.refl _,trivial⟩ ⟨oQ _,trivial⟩),?_⟩
  (conv=>whnf)
  exact ⟨(v17.1,v17.2),[(3,some 35),(4,some 123)],[],m,⟨rfl,⟨r4,sr,r4,r4,aaZ,r2,aaZ,r2,sf,r2,trivial⟩,⟨⟨sr,sr,r2,sr,sr,sr,trivial⟩,⟨sr,sr,sr,sr,sr,sr,trivial⟩,⟨sr,sr,sr,sr,sr,sr,trivial⟩,ab2,ab2,trivial⟩⟩⟩
 ·(conv=>whnf)
  refine SH (ct:=[1,2,3,4,7,8]) iD dk dk (S9 g3 g4 v1 v2 g5) r (λ g6=>⟨[(1,.ptr 0 0 0),(2,dX g3),(3,.ptr 1 0 0),(4,.ptr 2 0 0),(5,iJ g6.1),(6,iV v1.1),(7,.dR 3 0 v2.2.length false),(8,iV v2.1),(9,iJ g5.1),(10,iV g5.2),(11,.ptr 4 0 0),(12,.bool g6.2.1),(13,iV g6.2.2.1)],[(0,some (.box [acK,acK,iV (0:Int),acK,dz g4.1,acK])),(1,some (.box [acK,acK,acK,acK,aK g4.2.1,acK])),(2,some (.box [acK,acK,acK,acK,aK g4.2.2,acK])),(3,some (.row 3 v2.2.length (bF fD dA v2.2))),(4,some (.box [ak g6.2.2.2.1,aK g6.2.2.2.2.1,ak g6.2.2.2.2.2.1,bJ g6.2.2.2.2.2.2.1,aK g6.2.2.2.2.2.2.2.1,aK g6.2.2.2.2.2.2.2.2]))],5⟩) ?_ (λ g6 m=>?_)
  ·(conv=>whnf)
   refine aS m λ h2 m=>?_
   (conv=>whnf)
   refine dH m λ v10 Gq m=>?_
   refine ⟨_,_,((WB Gq).le ⟨(Le.Aa ⟨ab3,ab3,(.refl _),ab3,(.refl _),ab3,trivial⟩),(Le.Aa ⟨ab3,ab3,ab3,ab3,(.refl _),ab3,trivial⟩),(.sl oz (λ _=>rfl) nofun (iR oz (λ _ _=>.refl _) oz (λ _ _=>.refl _))),.refl _,trivial⟩ trivial),?_⟩
   (conv=>whnf)
   exact ⟨(([v4]:azr),v10.2.1,v10.2.2,v10.1.Setting,v10.1.bB.On,v10.1.bB.bC,v10.1.Uses,v10.1.Released,v10.1.aY),[(3,some 4),(4,some 85)],[],m,⟨rfl,⟨r4,sr,r4,r4,⟨oz,(λ _=>rfl),nofun,(λ _ _=>.refl _)⟩,r2,aaZ,r2,sr,r2,r4,rfl,r2,trivial⟩,⟨⟨sr,sr,r2,sr,sr,sr,trivial⟩,⟨sr,sr,sr,sr,sr,sr,trivial⟩,⟨sr,sr,sr,sr,sr,sr,trivial⟩,ab2,⟨sf,sf,sf,sf,sf,sf,trivial⟩,trivial⟩⟩⟩
  (conv=>whnf)
  have c1:=m.1
  have m:=m.2
  refine fG (λ _=>?_) (λ q=>Bool.noConfusion (q.symm.trans c1))
  (conv=>whnf)
  refine dH m λ v6 hv6 m=>?_
  refine ⟨_,_,(λ q0=>((sO (hv6 q0)).le ⟨.refl _,(.sl rfl (λ _=>rfl) nofun (fK fD dA [(⟨(11:Int),(0:Int),(1:Int)⟩:aI)])),trivial⟩ trivial)),?_⟩
  (conv=>whnf)
  have c2:=m.1
  have m:=m.2
  refine fG (λ _=>?_) (λ q=>Bool.noConfusion (q.symm.trans c2))
  (conv=>whnf)
  refine dH m λ v7 hv7 m=>?_
  refine ⟨_,_,(λ q0=>((sO (hv7 q0)).le ⟨.refl _,(.sl rfl (λ _=>rfl) nofun (fK fD dA [(⟨(11:Int),(0:Int),(0:Int)⟩:aI)])),trivial⟩ trivial)),?_⟩
  (conv=>whnf)
  refine dH m λ v8 BG m=>?_
  refine ⟨_,_,(λ q0=>((xk (BG q0)).le ⟨.refl _,(Le.Aa ⟨ab3,ab3,ab3,ab3,(.refl _),ab3,trivial⟩),trivial⟩ trivial)),?_⟩
  (conv=>whnf)
  refine dH m λ v9 Xx m=>?_
  refine ⟨_,_,(λ q0=>((Gi (Xx q0)).le ⟨(Le.Aa ⟨ab3,ab3,(.refl _),ab3,(.refl _),ab3,trivial⟩),.refl _,(Le.Aa ⟨ab3,ab3,ab3,ab3,(.refl _),ab3,trivial⟩),(Le.Aa ⟨ab3,ab3,ab3,ab3,(.refl _),ab3,trivial⟩),ab3,.refl _,trivial⟩ trivial)),?_⟩
  (conv=>whnf)
  have m:r=((((((((((v1.1==(0:Int))&&v6)&&(v2.1==(0:Int)))&&((v2.2.length:Int)==(0:Int)))&&(g5.2==(0:Int)))&&v7)&&(g6.2.2.1==(0:Int)))&&(!g6.2.1))&&v8)&&v9):=m
  subst m
  refine ⟨[],[],?_⟩
  (conv=>whnf)
  exact ⟨⟨rfl,trivial,trivial⟩,rfl⟩
 (conv=>whnf)
 refine SH (ct:=[1,2,3,4,7,8]) iD dk dk (MI g3 g4 v1 v2 g5 v4) r (λ g7=>⟨[(1,.ptr 0 0 0),(2,dX g3),(3,.ptr 1 0 0),(4,.ptr 2 0 0),(5,.dR 3 0 g7.1 false),(6,iV v1.1),(7,.dR 4 0 v2.2.length false),(8,iV v2.1),(9,iJ g5.1),(10,iV g5.2),(11,.ptr 5 0 0),(12,.bool g7.2.1),(13,iV g7.2.2.1)],[(0,some (.box [acK,acK,iV (0:Int),acK,dz g4.1,acK])),(1,some (.box [acK,acK,acK,acK,aK g4.2.1,acK])),(2,some (.box [acK,acK,acK,acK,aK g4.2.2,acK])),(3,some (.row 3 (([v4,v4]:azr).length) (bF fD dA ([v4,v4]:azr)))),(4,some (.row 3 v2.2.length (bF fD dA v2.2))),(5,some (.box [ak g7.2.2.2.1,aK g7.2.2.2.2.1,ak g7.2.2.2.2.2.1,bJ g7.2.2.2.2.2.2.1,aK g7.2.2.2.2.2.2.2.1,aK g7.2.2.2.2.2.2.2.2]))],6⟩) ?_ (λ g7 m=>?_)
 ·(conv=>whnf)
  refine aS m λ h5 m=>?_
  (conv=>whnf)
  refine dH m λ v16 aeD m=>?_
  refine ⟨_,_,((QT aeD).le ⟨(Le.Aa ⟨ab3,ab3,(.refl _),ab3,(.refl _),ab3,trivial⟩),(Le.Aa ⟨ab3,ab3,ab3,ab3,(.refl _),ab3,trivial⟩),.refl _,.refl _,trivial⟩ ⟨⟨rfl,oz,arK⟩,trivial⟩),?_⟩
  (conv=>whnf)
  exact ⟨(1,v16.2.1,v16.2.2,v16.1.Setting,v16.1.bB.On,v16.1.bB.bC,v16.1.Uses,v16.1.Released,v16.1.aY),[(5,some 85)],[],m,⟨rfl,⟨r4,sr,r4,r4,aaZ,r2,aaZ,r2,sr,r2,r4,rfl,r2,trivial⟩,⟨⟨sr,sr,r2,sr,sr,sr,trivial⟩,⟨sr,sr,sr,sr,sr,sr,trivial⟩,⟨sr,sr,sr,sr,sr,sr,trivial⟩,ab2,ab2,⟨sf,sf,sf,sf,sf,sf,trivial⟩,trivial⟩⟩⟩
 (conv=>whnf)
 have h4:=m.1
 have m:=m.2
 have c3:=m.1
 have m:=m.2
 refine fG (λ _=>?_) (λ q=>Bool.noConfusion (q.symm.trans c3))
 (conv=>whnf)
 refine dH m λ v12 VF m=>?_
 refine ⟨_,_,(λ q0=>((sO (VF q0)).le ⟨(.sl oz (λ _=>rfl) nofun (kN (f:=fD) (d:=dA) (by first | omega | exact ajb _ _ | exact afQ (ajb _ _) om | (simp; omega)))),(.sl rfl (λ _=>rfl) nofun (fK fD dA [(⟨(11:Int),(0:Int),(1:Int)⟩:aI)])),trivial⟩ trivial)),?_⟩
 (conv=>whnf)
 have c4:=m.1
 have m:=m.2
 refine fG (λ _=>?_) (λ q=>Bool.noConfusion (q.symm.trans c4))
 (conv=>whnf)
 refine dH m λ v13 NQ m=>?_
 refine ⟨_,_,(λ q0=>((sO (NQ q0)).le ⟨.refl _,(.sl rfl (λ _=>rfl) nofun (fK fD dA [(⟨(11:Int),(0:Int),(0:Int)⟩:aI)])),trivial⟩ trivial)),?_⟩
 (conv=>whnf)
 refine dH m λ v14 RQ m=>?_
 refine ⟨_,_,(λ q0=>((xk (RQ q0)).le ⟨.refl _,(Le.Aa ⟨ab3,ab3,ab3,ab3,(.refl _),ab3,trivial⟩),trivial⟩ trivial)),?_⟩
 (conv=>whnf)
 refine dH m λ v15 acj m=>?_
 refine ⟨_,_,(λ q0=>((Gi (acj q0)).le ⟨(Le.Aa ⟨ab3,ab3,(.refl _),ab3,(.refl _),ab3,trivial⟩),.refl _,(Le.Aa ⟨ab3,ab3,ab3,ab3,(.refl _),ab3,trivial⟩),(Le.Aa ⟨ab3,ab3,ab3,ab3,(.refl _),ab3,trivial⟩),ab3,(.sl oz (λ _=>rfl) nofun (kN (f:=fD) (d:=dA) (by first | omega | exact ajb _ _ | exact afQ (ajb _ _) om | (simp; omega)))),trivial⟩ trivial)),?_⟩
 (conv=>whnf)
 have m:r=((((((((((v1.1==(0:Int))&&v12)&&(v2.1==(0:Int)))&&((v2.2.length:Int)==(0:Int)))&&(g5.2==(0:Int)))&&v13)&&(g7.2.2.1==(0:Int)))&&(!g7.2.1))&&v14)&&v15):=m
 subst m
 refine ⟨[],[],?_⟩
 (conv=>whnf)
 exact ⟨⟨rfl,trivial,trivial⟩,rfl⟩
theorem abW {l_:azp} {r:azp×Int} (m:Rl l_ r):S 8 [ak l_] [] (.ptr 0 0 0) [.box [ak r.1,iV r.2]] :=sp Tryz.func8 rfl<|sn m λ _ m=>by cases m;exact rt [] [(0,some 56)]
theorem abX {x_:Int} {r:Int} (m:Rm x_ n_ r):S 84 [iV x_,iV n_] [] (iV r) [] :=sp Tryz.func84 rfl<|si m bO λ _ m=>s2 m λ _ _ m=>sn m bO
variable {dD:dL}
theorem cZ {r:Int×dL} (m:eH n_ dD r):S 25 [.ptr 0 0 0,iV n_] [.box [ak dD.L,iV dD.At]] (iV r.1) [.box [ak r.2.L,iV r.2.At]] :=sp Tryz.func25 rfl<|si m bO λ _ m=>s2 m λ _ _ m=>sn m λ _ m=>sq m abX λ v1 m=>bG m
theorem gU {l_:azp} {r:Int×dL} (m:iA l_ dD r):S 137 [.ptr 0 0 0,ak l_] [.box [ak dD.L,iV dD.At]] (iV r.1) [.box [ak r.2.L,iV r.2.At]] :=sp Tryz.func137 rfl<|sq m cZ λ v1 m=>sn m bO
theorem Oa {r:azs×dL} (m:uN dD r):S 68 [.ptr 0 0 0] [.box [ak dD.L,iV dD.At]] (bg r.1) [.box [ak r.2.L,iV r.2.At]] :=spc [20,22] Tryz.func68 rfl<|sq m cZ λ v1 m=>XQ [20,22] m (λ g1=>⟨[(0,.ptr 0 0 0),(3,.dR 1 0 g1.2.2.2.length false),(4,iV g1.1)],[(0,some (.box [ak g1.2.1,iV g1.2.2.1])),(1,some (.row 5 g1.2.2.2.length (bF OC aL g1.2.2.2)))],2⟩) [(1,none)] [] <|λ ah g1 m=>si m (λ _ m=>sb m λ v28 hv28 m=>cl ((gU hv28).le ⟨.refl _,(.sl rfl (λ _=>rfl) nofun (fK iV 0 [(12:Int),(24:Int),(48:Int),(100:Int)])),trivial⟩ ⟨oQ _,trivial⟩)<|ck [20,22] (fA g1 ah) r (λ g7=>⟨[(0,.ptr 0 0 0),(3,.dR 1 0 g1.2.2.2.length false),(4,iV g1.1),(5,.ptr 2 0 0)],[(0,some (.box [ak g7.1,iV g7.2.1])),(1,some (.row 5 g1.2.2.2.length (bF OC aL g1.2.2.2))),(2,some (.box [iV g7.2.2.1,.dR 3 0 g7.2.2.2.2.1.length false,.dR 4 0 g7.2.2.2.2.2.length false,iV (0:Int),iV g7.2.2.2.1])),(3,some (.row 1 g7.2.2.2.2.1.length (bF iV 0 g7.2.2.2.2.1))),(4,some (.row 1 g7.2.2.2.2.2.length (bF iV 0 g7.2.2.2.2.2)))],5⟩) (si m (λ _ m=>sq m cZ λ v41 m=>si m (λ _ m=>sq m cZ λ v42 m=>ck [20,22] (gK g1 ah) r (λ g8=>⟨[(0,.ptr 0 0 0),(3,.dR 1 0 g1.2.2.2.length false),(4,iV g1.1),(5,.ptr 2 0 0),(25,iV v41.1)],[(0,some (.box [ak g8.1,iV g8.2.1])),(1,some (.row 5 g1.2.2.2.length (bF OC aL g1.2.2.2))),(2,some (.box [iV g8.2.2.1,.dR 3 0 g8.2.2.2.1.length false,.dR 4 0 g8.2.2.2.2.length false,iV (0:Int),iV (0:Int)])),(3,some (.row 1 g8.2.2.2.1.length (bF iV 0 g8.2.2.2.1))),(4,some (.row 1 g8.2.2.2.2.length (bF iV 0 g8.2.2.2.2)))],5⟩) (sq m cZ λ v49 m=>si m (λ _ m=>sb m λ v50 aes m=>cl ((gU aes).le ⟨.refl _,(.sl rfl (λ _=>rfl) nofun (fK iV 0 [(3:Int),(4:Int),(8:Int)])),trivial⟩ ⟨oQ _,trivial⟩)<|lc [(2,some 58),(3,some 178),(4,some 258)] [] m) λ _ m=>si m (λ _ m=>sb m λ v51 arO m=>cl ((gU arO).le ⟨.refl _,(.sl rfl (λ _=>rfl) nofun (fK iV 0 [(2:Int),(3:Int)])),trivial⟩ ⟨oQ _,trivial⟩)<|lc [(2,some 58),(3,some 178),(4,some 274)] [] m) λ _ m=>si m (λ _ m=>lc [(2,some 58),(3,some 178),(4,some 266)] [] m) λ _ m=>si m (λ _ m=>sn m λ _ m=>sq m cZ λ v52 m=>sn m λ _ m=>lc [(2,some 58),(3,some 346),(4,some 354)] [] m) λ _ m=>lc [(2,some 58),(3,some 178),(4,some 282)] [] m) λ g8 m=>sq m cZ λ v47 m=>si m (λ _ m=>sb m λ v48 aa9 m=>cl ((gU aa9).le ⟨.refl _,(.sl rfl (λ _=>rfl) nofun (fK iV 0 [(24:Int),(48:Int),(96:Int)])),trivial⟩ ⟨oQ _,trivial⟩)<|le m) λ _ m=>le m) λ _ m=>lc [(2,some 58),(3,none),(4,some 42)] [] m) λ c37 m=>by
 refine ⟨(λ q0=>absurd q0 (vac c37)),?_⟩
 (conv=>whnf)
 refine aS m λ h28 m=>?_
 (conv=>whnf)
 exact ⟨(v28.2.L,v28.2.At,(1:Int),(0:Int),([]:azp),([v28.1]:azp)),[(2,some 58),(3,none),(4,some 42)],[],m,⟨rfl,⟨r4,aaZ,r2,r4,trivial⟩,⟨⟨sf,r2,trivial⟩,ab2,⟨r2,⟨rfl,rfl,rfl,rfl,rfl,rfl⟩,aaZ,r2,r2,trivial⟩,rfl,⟨rfl,rfl,(fK iV 0 [v28.1])⟩,trivial⟩⟩⟩) λ g7 m=>s2 m λ _ _ m=>lc [(1,some 29)] [] m) λ _ m=>by cases m;exact rt [1] []
theorem l5 {xW:Int} {z8:Int} {r:Int×dL} (m:kG xW z8 dD r):S 73 [.ptr 0 0 0,iV xW,iV z8] [.box [ak dD.L,iV dD.At]] (iV r.1) [.box [ak r.2.L,iV r.2.At]] :=sp Tryz.func73 rfl<|s2 m λ _ _ m=>sq m cZ λ v1 m=>sn m bO
theorem KA {r:azv×dL} (m:qG dD r):S 69 [.ptr 0 0 0] [.box [ak dD.L,iV dD.At]] (bf r.1) [.box [ak r.2.L,iV r.2.At]] :=spc [8] Tryz.func69 rfl<|sq m cZ λ v1 m=>XQ [8] m (λ g1=>⟨[(0,.ptr 0 0 0),(3,.dR 1 0 g1.2.2.2.length false),(4,iV g1.1)],[(0,some (.box [ak g1.2.1,iV g1.2.2.1])),(1,some (.row 5 g1.2.2.2.length (bF GN aD g1.2.2.2)))],2⟩) [(1,none)] [] <|λ ah g1 m=>si m (λ _ m=>sn m λ _ m=>sq m l5 λ v12 m=>sb m λ v13 NQ m=>cl ((gU NQ).le ⟨.refl _,(.sl rfl (λ _=>rfl) nofun (fK iV 0 [(0:Int),(0:Int),(100:Int),(300:Int)])),trivial⟩ ⟨oQ _,trivial⟩)<|sb m λ v14 RQ m=>cl ((gU RQ).le ⟨.refl _,(.sl rfl (λ _=>rfl) nofun (fK iV 0 [(100:Int),(300:Int),(1000:Int)])),trivial⟩ ⟨oQ _,trivial⟩)<|sq m cZ λ v15 m=>ck [8] (kS g1 ah v12 v14 v15) r (λ g4=>⟨[(0,.ptr 0 0 0),(3,.dR 1 0 g1.2.2.2.length false),(4,iV g1.1),(5,.ptr 2 0 0)],[(0,some (.box [ak v15.2.L,iV v15.2.At])),(1,some (.row 5 g1.2.2.2.length (bF GN aD g1.2.2.2))),(2,some (.box [iV v12.1,acK,iV g4,iV v14.1,.bool (v15.1==(7:Int))]))],3⟩) (si m (λ _ m=>lc [(2,some 138)] [] m) λ _ m=>lc [(2,some 138)] [] m) λ g4 m=>sq m cZ λ v16 m=>sn m λ _ m=>by
 rcases (by omega:v16.1=0∨v16.1=1∨v16.1=2∨v16.1=3∨v16.1=4) with e1 | e1 | e1 | e1 | e1
 ·rw [e1] at m ⊢
  (conv=>whnf)
  refine aS m λ h27 m=>?_
  (conv=>whnf)
  refine aS m λ h28 m=>?_
  (conv=>whnf)
  exact ⟨((g1.1 - (1:Int)),v16.2.L,v16.2.At,(g1.2.2.2++([(⟨v12.1,([(1000:Int),(1200:Int)]:azp),g4,v14.1,(v15.1==(7:Int))⟩:av)]:azv))),[(1,some 123)],[],m,⟨rfl,⟨r4,⟨rfl,rfl,rfl,oz,nofun⟩,r2,trivial⟩,⟨⟨sf,r2,trivial⟩,⟨rfl,oz,(iR rfl (λ _ _=>.refl _) rfl (Jy (Le.Aa ⟨(.refl _),(.sl rfl (λ _=>rfl) nofun (fK iV 0 [(1000:Int),(1200:Int)])),(.refl _),(.refl _),(.refl _),trivial⟩) (λ _ h=>absurd h (ahh _))))⟩,trivial⟩⟩⟩
 ·rw [e1] at m ⊢
  (conv=>whnf)
  refine aS m λ h29 m=>?_
  (conv=>whnf)
  refine aS m λ h30 m=>?_
  (conv=>whnf)
  exact ⟨((g1.1 - (1:Int)),v16.2.L,v16.2.At,(g1.2.2.2++([(⟨v12.1,([(1800:Int),(3300:Int)]:azp),g4,v14.1,(v15.1==(7:Int))⟩:av)]:azv))),[(1,some 123)],[],m,⟨rfl,⟨r4,⟨rfl,rfl,rfl,oz,nofun⟩,r2,trivial⟩,⟨⟨sf,r2,trivial⟩,⟨rfl,oz,(iR rfl (λ _ _=>.refl _) rfl (Jy (Le.Aa ⟨(.refl _),(.sl rfl (λ _=>rfl) nofun (fK iV 0 [(1800:Int),(3300:Int)])),(.refl _),(.refl _),(.refl _),trivial⟩) (λ _ h=>absurd h (ahh _))))⟩,trivial⟩⟩⟩
 ·rw [e1] at m ⊢
  (conv=>whnf)
  refine aS m λ h31 m=>?_
  (conv=>whnf)
  refine aS m λ h32 m=>?_
  (conv=>whnf)
  exact ⟨((g1.1 - (1:Int)),v16.2.L,v16.2.At,(g1.2.2.2++([(⟨v12.1,([(1000:Int),(1800:Int),(3300:Int)]:azp),g4,v14.1,(v15.1==(7:Int))⟩:av)]:azv))),[(1,some 123)],[],m,⟨rfl,⟨r4,⟨rfl,rfl,rfl,oz,nofun⟩,r2,trivial⟩,⟨⟨sf,r2,trivial⟩,⟨rfl,oz,(iR rfl (λ _ _=>.refl _) rfl (Jy (Le.Aa ⟨(.refl _),(.sl rfl (λ _=>rfl) nofun (fK iV 0 [(1000:Int),(1800:Int),(3300:Int)])),(.refl _),(.refl _),(.refl _),trivial⟩) (λ _ h=>absurd h (ahh _))))⟩,trivial⟩⟩⟩
 ·rw [e1] at m ⊢
  (conv=>whnf)
  refine aS m λ h33 m=>?_
  (conv=>whnf)
  refine aS m λ h34 m=>?_
  (conv=>whnf)
  exact ⟨((g1.1 - (1:Int)),v16.2.L,v16.2.At,(g1.2.2.2++([(⟨v12.1,([(3300:Int),(5000:Int)]:azp),g4,v14.1,(v15.1==(7:Int))⟩:av)]:azv))),[(1,some 123)],[],m,⟨rfl,⟨r4,⟨rfl,rfl,rfl,oz,nofun⟩,r2,trivial⟩,⟨⟨sf,r2,trivial⟩,⟨rfl,oz,(iR rfl (λ _ _=>.refl _) rfl (Jy (Le.Aa ⟨(.refl _),(.sl rfl (λ _=>rfl) nofun (fK iV 0 [(3300:Int),(5000:Int)])),(.refl _),(.refl _),(.refl _),trivial⟩) (λ _ h=>absurd h (ahh _))))⟩,trivial⟩⟩⟩
 rw [e1] at m ⊢
 (conv=>whnf)
 refine aS m λ h35 m=>?_
 (conv=>whnf)
 refine aS m λ h36 m=>?_
 (conv=>whnf)
 exact ⟨((g1.1 - (1:Int)),v16.2.L,v16.2.At,(g1.2.2.2++([(⟨v12.1,([(900:Int)]:azp),g4,v14.1,(v15.1==(7:Int))⟩:av)]:azv))),[(1,some 123)],[],m,⟨rfl,⟨r4,⟨rfl,rfl,rfl,oz,nofun⟩,r2,trivial⟩,⟨⟨sf,r2,trivial⟩,⟨rfl,oz,(iR rfl (λ _ _=>.refl _) rfl (Jy (Le.Aa ⟨(.refl _),(.sl rfl (λ _=>rfl) nofun (fK iV 0 [(900:Int)])),(.refl _),(.refl _),(.refl _),trivial⟩) (λ _ h=>absurd h (ahh _))))⟩,trivial⟩⟩⟩) λ _ m=>by cases m;exact rt [1] []
theorem pK  {r:azB} (m:pX r):S 138 [] [] (iI r) [] :=sp Tryz.func138 rfl<|by cases m;exact rt [8] []
theorem Ob {r:bR×dL} (m:uO dD r):S 70 [.ptr 0 0 0] [.box [ak dD.L,iV dD.At]] (qj r.1) [.box [ak r.2.L,iV r.2.At]] :=spc [13,17] Tryz.func70 rfl<|sq m l5 λ v1 m=>sq m cZ λ v2 m=>XQ [13,17] m (λ g1=>⟨[(0,.ptr 0 0 0),(2,.ptr 1 0 0),(3,.ptr 2 0 0),(4,iV g1.1)],[(0,some (.box [ak g1.2.1,iV g1.2.2.1])),(1,some (.box [iV (0:Int),acK])),(2,some (.box [iV v1.1,.dR 3 0 g1.2.2.2.length false])),(3,some (.row 3 g1.2.2.2.length (bF oU aN g1.2.2.2)))],4⟩) [(2,some 33),(3,none)] [] <|λ ah g1 m=>si m (λ _ m=>sn m λ _ m=>by
 refine ⟨(amK (es:=[.int .u8 (IntKind.u8.wrap ((97:Int)+(g1.2.2.2.length:Int)))]) rfl),?_⟩
 (conv=>whnf)
 refine aS m λ h74 m=>?_
 (conv=>whnf)
 refine dH m λ v35 arU m=>?_
 refine ⟨_,_,(cZ arU),?_⟩
 (conv=>whnf)
 refine nN (ct:=[13,17]) iD dk m (λ g12=>⟨[(0,.ptr 0 0 0),(2,.ptr 1 0 0),(3,.ptr 2 0 0),(4,iV g1.1),(5,.ptr 3 0 0),(6,iV v35.1),(7,iV g12.1)],[(0,some (.box [ak g12.2.1,iV g12.2.2.1])),(1,some (.box [iV (0:Int),acK])),(2,some (.box [iV v1.1,.dR 4 0 g1.2.2.2.length false])),(3,some (.box [.str (({ data:=#[103] }:ByteArray)++(strOf ([(IntKind.u8.wrap ((97:Int)+(g1.2.2.2.length:Int)))]:azp))),.dR 5 0 g12.2.2.2.length false,acK])),(4,some (.row 3 g1.2.2.2.length (bF oU aN g1.2.2.2))),(5,some (.row 1 g12.2.2.2.length (bF iV 0 g12.2.2.2)))],6⟩) [(3,some 92),(4,some 3),(5,none)] [] ⟨rfl,⟨r4,r4,r4,r2,r4,r2,r2,trivial⟩,⟨⟨sf,r2,trivial⟩,⟨r2,sr,trivial⟩,⟨r2,aaZ,trivial⟩,⟨rfl,⟨rfl,rfl,rfl,rfl,rfl,rfl⟩,sr,trivial⟩,ab2,rfl,trivial⟩⟩ ?_
 intro aif g12 m
 (conv=>whnf)
 refine fP m (λ c36 m=>?_) (λ c36 m=>?_)
 ·(conv=>whnf)
  refine dH m λ v38 hv38 m=>?_
  refine ⟨_,_,(l5 hv38),?_⟩
  (conv=>whnf)
  refine aS m λ h83 m=>?_
  (conv=>whnf)
  refine fP m (λ c37 m=>?_) (λ c37 m=>?_)
  ·(conv=>whnf)
   refine aS m λ h84 m=>?_
   (conv=>whnf)
   refine aS m λ h85 m=>?_
   (conv=>whnf)
   exact ⟨((g12.1+(1:Int)),v38.2.L,v38.2.At,(g12.2.2.2++([g12.1]:azp))),[(5,some 134)],[],m,⟨rfl,⟨r4,r4,r4,r2,r4,r2,r2,trivial⟩,⟨⟨sf,r2,trivial⟩,⟨r2,sr,trivial⟩,⟨r2,aaZ,trivial⟩,⟨rfl,⟨rfl,rfl,rfl,oz,nofun⟩,sr,trivial⟩,ab2,⟨rfl,oz,(iR rfl (λ _ _=>.refl _) rfl (fK iV 0 [g12.1]))⟩,trivial⟩⟩⟩
  (conv=>whnf)
  refine SH (ct:=[13,17]) iD dk dk (lV g1 ah v38) r (λ g13=>⟨[(0,.ptr 0 0 0),(2,.ptr 1 0 0),(3,.ptr 2 0 0),(4,iV g1.1),(5,.ptr 3 0 0),(40,iV v38.1)],[(0,some (.box [ak v38.2.L,iV v38.2.At])),(1,some (.box [iV (0:Int),acK])),(2,some (.box [iV v1.1,.dR 4 0 g1.2.2.2.length false])),(3,some (.box [.str (({ data:=#[103] }:ByteArray)++(strOf ([(IntKind.u8.wrap ((97:Int)+(g1.2.2.2.length:Int)))]:azp))),.dR 5 0 g13.length false,acK])),(4,some (.row 3 g1.2.2.2.length (bF oU aN g1.2.2.2))),(5,some (.row 1 g13.length (bF iV 0 g13)))],6⟩) ?_ (λ g13 m=>?_)
  ·(conv=>whnf)
   refine fP m (λ c41 m=>?_) (λ c41 m=>?_)
   ·(conv=>whnf)
    exact ⟨([v35.1]:azp),[(5,some 142)],[],m,⟨rfl,⟨r4,r4,r4,r2,r4,r2,trivial⟩,⟨⟨sr,r2,trivial⟩,⟨r2,sr,trivial⟩,⟨r2,aaZ,trivial⟩,⟨rfl,aaZ,sr,trivial⟩,ab2,⟨rfl,rfl,(fK iV 0 [v35.1])⟩,trivial⟩⟩⟩
   (conv=>whnf)
   exact ⟨g12.2.2.2,[],[],m,⟨rfl,⟨r4,r4,r4,r2,r4,r2,trivial⟩,⟨⟨sr,r2,trivial⟩,⟨r2,sr,trivial⟩,⟨r2,aaZ,trivial⟩,⟨rfl,aaZ,sr,trivial⟩,ab2,ab2,trivial⟩⟩⟩
  (conv=>whnf)
  refine dH m λ v39 hv39 m=>?_
  refine ⟨_,_,(cZ hv39),?_⟩
  (conv=>whnf)
  refine dH m λ v40 am9 m=>?_
  refine ⟨_,_,(pK am9),?_⟩
  (conv=>whnf)
  refine aS m λ h86 m=>?_
  (conv=>whnf)
  refine SH (ct:=[13,17]) iD dk dk (jv g1 ah g13) r (λ g14=>⟨[(0,.ptr 0 0 0),(2,.ptr 1 0 0),(3,.ptr 2 0 0),(4,iV g1.1),(5,.ptr 3 0 0),(40,iV v38.1)],[(0,some (.box [ak g14.1,iV g14.2.1])),(1,some (.box [iV (0:Int),acK])),(2,some (.box [iV v1.1,.dR 4 0 g1.2.2.2.length false])),(3,some (.box [.str (({ data:=#[103] }:ByteArray)++(strOf ([(IntKind.u8.wrap ((97:Int)+(g1.2.2.2.length:Int)))]:azp))),.dR 5 0 g13.length false,.dR 6 0 g14.2.2.length false])),(4,some (.row 3 g1.2.2.2.length (bF oU aN g1.2.2.2))),(5,some (.row 1 g13.length (bF iV 0 g13))),(6,some (.row 1 g14.2.2.length (bF AV.str ByteArray.empty g14.2.2)))],7⟩) ?_ (λ g14 m=>?_)
  ·(conv=>whnf)
   refine dH m λ v43 ana m=>?_
   refine ⟨_,_,(cZ ana),?_⟩
   (conv=>whnf)
   refine fP m (λ c40 m=>?_) (λ c40 m=>?_)
   ·(conv=>whnf)
    refine dH m λ v44 anb m=>?_
    refine ⟨_,_,(pK anb),?_⟩
    (conv=>whnf)
    refine aS m λ h93 m=>?_
    (conv=>whnf)
    refine aS m λ h94 m=>?_
    (conv=>whnf)
    refine aS m λ h95 m=>?_
    (conv=>whnf)
    refine aS m λ h96 m=>?_
    (conv=>whnf)
    exact ⟨(v43.2.L,v43.2.At,(([(v40.getD v39.1.toNat ByteArray.empty)]:azB)++([(v44.getD (((v39.1+(1:Int)).tmod (4:Int)).toNat) ByteArray.empty)]:azB))),[(6,some 182)],[],m,⟨rfl,⟨r4,r4,r4,r2,r4,r2,trivial⟩,⟨⟨sf,r2,trivial⟩,⟨r2,sr,trivial⟩,⟨r2,aaZ,trivial⟩,⟨rfl,aaZ,⟨rfl,rfl,rfl,oz,nofun⟩,trivial⟩,ab2,ab2,⟨rfl,oz,(iR rfl (fK AV.str ByteArray.empty [(v40.getD v39.1.toNat ByteArray.empty)]) rfl (fK AV.str ByteArray.empty [(v44.getD (((v39.1+(1:Int)).tmod (4:Int)).toNat) ByteArray.empty)]))⟩,trivial⟩⟩⟩
   (conv=>whnf)
   exact ⟨(v43.2.L,v43.2.At,([(v40.getD v39.1.toNat ByteArray.empty)]:azB)),[(6,some 62)],[],m,⟨rfl,⟨r4,r4,r4,r2,r4,r2,trivial⟩,⟨⟨sf,r2,trivial⟩,⟨r2,sr,trivial⟩,⟨r2,aaZ,trivial⟩,⟨rfl,aaZ,aaZ,trivial⟩,ab2,ab2,⟨rfl,rfl,(fK AV.str ByteArray.empty [(v40.getD v39.1.toNat ByteArray.empty)])⟩,trivial⟩⟩⟩
  (conv=>whnf)
  refine aS m λ h91 m=>?_
  (conv=>whnf)
  refine aS m λ h92 m=>?_
  (conv=>whnf)
  exact ⟨((g1.1 - (1:Int)),g14.1,g14.2.1,(g1.2.2.2++([(⟨(({ data:=#[103] }:ByteArray)++(strOf ([(IntKind.u8.wrap ((97:Int)+(g1.2.2.2.length:Int)))]:azp))),g13,g14.2.2⟩:dh)]:azG))),[(3,some 39)],[],m,⟨rfl,⟨r4,r4,r4,r2,trivial⟩,⟨⟨sf,r2,trivial⟩,⟨r2,sr,trivial⟩,⟨r2,⟨rfl,rfl,rfl,oz,nofun⟩,trivial⟩,⟨rfl,oz,(iR rfl (λ _ _=>.refl _) rfl (fK oU aN [(⟨(({ data:=#[103] }:ByteArray)++(strOf ([(IntKind.u8.wrap ((97:Int)+(g1.2.2.2.length:Int)))]:azp))),g13,g14.2.2⟩:dh)]))⟩,trivial⟩⟩⟩
 (conv=>whnf)
 refine ⟨(λ q0=>absurd q0 (vac c36)),?_⟩
 (conv=>whnf)
 refine ⟨(λ q0=>absurd q0 (vac c36)),?_⟩
 (conv=>whnf)
 refine aS m λ h97 m=>?_
 (conv=>whnf)
 refine SH (ct:=[13,17]) iD dk dk (kD g1 ah g12) r (λ g15=>⟨[(0,.ptr 0 0 0),(2,.ptr 1 0 0),(3,.ptr 2 0 0),(4,iV g1.1),(5,.ptr 3 0 0)],[(0,some (.box [ak g12.2.1,iV g12.2.2.1])),(1,some (.box [iV (0:Int),acK])),(2,some (.box [iV v1.1,.dR 4 0 g1.2.2.2.length false])),(3,some (.box [.str (({ data:=#[103] }:ByteArray)++(strOf ([(IntKind.u8.wrap ((97:Int)+(g1.2.2.2.length:Int)))]:azp))),.dR 5 0 g15.length false,acK])),(4,some (.row 3 g1.2.2.2.length (bF oU aN g1.2.2.2))),(5,some (.row 1 g15.length (bF iV 0 g15)))],6⟩) ?_ (λ g15 m=>?_)
 ·(conv=>whnf)
  refine fP m (λ c45 m=>?_) (λ c45 m=>?_)
  ·(conv=>whnf)
   exact ⟨([v35.1]:azp),[(5,some 142)],[],m,⟨rfl,⟨r4,r4,r4,r2,r4,trivial⟩,⟨⟨sr,r2,trivial⟩,⟨r2,sr,trivial⟩,⟨r2,aaZ,trivial⟩,⟨rfl,aaZ,sr,trivial⟩,ab2,⟨rfl,rfl,(fK iV 0 [v35.1])⟩,trivial⟩⟩⟩
  (conv=>whnf)
  exact ⟨g12.2.2.2,[],[],m,⟨rfl,⟨r4,r4,r4,r2,r4,trivial⟩,⟨⟨sr,r2,trivial⟩,⟨r2,sr,trivial⟩,⟨r2,aaZ,trivial⟩,⟨rfl,aaZ,sr,trivial⟩,ab2,ab2,trivial⟩⟩⟩
 (conv=>whnf)
 refine dH m λ v45 anc m=>?_
 refine ⟨_,_,(cZ anc),?_⟩
 (conv=>whnf)
 refine dH m λ v46 aio m=>?_
 refine ⟨_,_,(pK aio),?_⟩
 (conv=>whnf)
 refine aS m λ h98 m=>?_
 (conv=>whnf)
 refine SH (ct:=[13,17]) iD dk dk (iY g1 ah g15) r (λ g16=>⟨[(0,.ptr 0 0 0),(2,.ptr 1 0 0),(3,.ptr 2 0 0),(4,iV g1.1),(5,.ptr 3 0 0)],[(0,some (.box [ak g16.1,iV g16.2.1])),(1,some (.box [iV (0:Int),acK])),(2,some (.box [iV v1.1,.dR 4 0 g1.2.2.2.length false])),(3,some (.box [.str (({ data:=#[103] }:ByteArray)++(strOf ([(IntKind.u8.wrap ((97:Int)+(g1.2.2.2.length:Int)))]:azp))),.dR 5 0 g15.length false,.dR 6 0 g16.2.2.length false])),(4,some (.row 3 g1.2.2.2.length (bF oU aN g1.2.2.2))),(5,some (.row 1 g15.length (bF iV 0 g15))),(6,some (.row 1 g16.2.2.length (bF AV.str ByteArray.empty g16.2.2)))],7⟩) ?_ (λ g16 m=>?_)
 ·(conv=>whnf)
  refine dH m λ v49 ain m=>?_
  refine ⟨_,_,(cZ ain),?_⟩
  (conv=>whnf)
  refine fP m (λ c44 m=>?_) (λ c44 m=>?_)
  ·(conv=>whnf)
   refine dH m λ v50 aes m=>?_
   refine ⟨_,_,(pK aes),?_⟩
   (conv=>whnf)
   refine aS m λ aAV m=>?_
   (conv=>whnf)
   refine aS m λ aAW m=>?_
   (conv=>whnf)
   refine aS m λ aAX m=>?_
   (conv=>whnf)
   refine aS m λ aAY m=>?_
   (conv=>whnf)
   exact ⟨(v49.2.L,v49.2.At,(([(v46.getD v45.1.toNat ByteArray.empty)]:azB)++([(v50.getD (((v45.1+(1:Int)).tmod (4:Int)).toNat) ByteArray.empty)]:azB))),[(6,some 182)],[],m,⟨rfl,⟨r4,r4,r4,r2,r4,trivial⟩,⟨⟨sf,r2,trivial⟩,⟨r2,sr,trivial⟩,⟨r2,aaZ,trivial⟩,⟨rfl,aaZ,⟨rfl,rfl,rfl,oz,nofun⟩,trivial⟩,ab2,ab2,⟨rfl,oz,(iR rfl (fK AV.str ByteArray.empty [(v46.getD v45.1.toNat ByteArray.empty)]) rfl (fK AV.str ByteArray.empty [(v50.getD (((v45.1+(1:Int)).tmod (4:Int)).toNat) ByteArray.empty)]))⟩,trivial⟩⟩⟩
  (conv=>whnf)
  exact ⟨(v49.2.L,v49.2.At,([(v46.getD v45.1.toNat ByteArray.empty)]:azB)),[(6,some 62)],[],m,⟨rfl,⟨r4,r4,r4,r2,r4,trivial⟩,⟨⟨sf,r2,trivial⟩,⟨r2,sr,trivial⟩,⟨r2,aaZ,trivial⟩,⟨rfl,aaZ,aaZ,trivial⟩,ab2,ab2,⟨rfl,rfl,(fK AV.str ByteArray.empty [(v46.getD v45.1.toNat ByteArray.empty)])⟩,trivial⟩⟩⟩
 (conv=>whnf)
 refine aS m λ aAZ m=>?_
 (conv=>whnf)
 refine aS m λ aA0 m=>?_
 (conv=>whnf)
 exact ⟨((g1.1 - (1:Int)),g16.1,g16.2.1,(g1.2.2.2++([(⟨(({ data:=#[103] }:ByteArray)++(strOf ([(IntKind.u8.wrap ((97:Int)+(g1.2.2.2.length:Int)))]:azp))),g15,g16.2.2⟩:dh)]:azG))),[(3,some 39)],[],m,⟨rfl,⟨r4,r4,r4,r2,trivial⟩,⟨⟨sf,r2,trivial⟩,⟨r2,sr,trivial⟩,⟨r2,⟨rfl,rfl,rfl,oz,nofun⟩,trivial⟩,⟨rfl,oz,(iR rfl (λ _ _=>.refl _) rfl (fK oU aN [(⟨(({ data:=#[103] }:ByteArray)++(strOf ([(IntKind.u8.wrap ((97:Int)+(g1.2.2.2.length:Int)))]:azp))),g15,g16.2.2⟩:dh)]))⟩,trivial⟩⟩⟩) λ _ m=>by cases m;exact rt [3] []
theorem vE {k_:Int} {r:azp×dL} (m:lW n_ k_ dD r):S 77 [.ptr 0 0 0,iV n_,iV k_] [.box [ak dD.L,iV dD.At]] (ak r.1) [.box [ak r.2.L,iV r.2.At]] :=sp Tryz.func77 rfl<|lf m (λ g1=>⟨[(0,.ptr 0 0 0),(1,iV n_),(2,iV k_),(7,.dR 1 0 g1.2.2.2.length false),(8,iV g1.1)],[(0,some (.box [ak g1.2.1,iV g1.2.2.1])),(1,some (.row 1 g1.2.2.2.length (bF iV 0 g1.2.2.2)))],2⟩) [(1,none)] [] <|λ ah g1 m=>si m (λ _ m=>sq m cZ λ v3 m=>sn m λ _ m=>si m (λ _ m=>s2 m λ _ _ m=>lc [(1,some 98)] [] m) λ _ m=>sn m λ _ m=>le m) λ _ m=>by cases m;exact rt [1] []
variable {jy:Int}
theorem Oc {r:azC×dL} (m:uP jy dD r):S 71 [.ptr 0 0 0,iV jy] [.box [ak dD.L,iV dD.At]] (dz r.1) [.box [ak r.2.L,iV r.2.At]] :=sp Tryz.func71 rfl<|sn m λ _ m=>sq m cZ λ v1 m=>lf m (λ g1=>⟨[(0,.ptr 0 0 0),(5,.dR 1 0 g1.2.2.2.length false),(6,iV g1.1)],[(0,some (.box [ak g1.2.1,iV g1.2.2.1])),(1,some (.row 1 g1.2.2.2.length (bF aeh d9 g1.2.2.2)))],2⟩) [(1,none)] [] <|λ ah g1 m=>si m (λ _ m=>sq m vE λ v4 m=>s2 m λ _ _ m=>lc [(1,some 74)] [] m) λ _ m=>by cases m;exact rt [1] []
theorem LW {r:azD×dL} (m:sD jy dD r):S 72 [.ptr 0 0 0,iV jy] [.box [ak dD.L,iV dD.At]] (bZ r.1) [.box [ak r.2.L,iV r.2.At]] :=sp Tryz.func72 rfl<|sn m λ _ m=>sq m cZ λ v1 m=>lf m (λ g1=>⟨[(0,.ptr 0 0 0),(5,.dR 1 0 g1.2.2.2.length false),(6,iV g1.1)],[(0,some (.box [ak g1.2.1,iV g1.2.2.1])),(1,some (.row 2 g1.2.2.2.length (bF ajp eZ g1.2.2.2)))],2⟩) [(1,none)] [] <|λ ah g1 m=>si m (λ _ m=>sn m λ _ m=>sq m l5 λ v6 m=>sq m cZ λ v7 m=>s2 m λ _ _ m=>lc [(1,some 106)] [] m) λ _ m=>by cases m;exact rt [1] []
theorem QU {r:aV×dL} (m:wu dD r):S 21 [.ptr 0 0 0] [.box [ak dD.L,iV dD.At]] (jf r.1) [.box [ak r.2.L,iV r.2.At]] :=sp Tryz.func21 rfl<|sq m Oa λ v1 m=>sq m KA λ v2 m=>sq m Ob λ v3 m=>sq m Oc λ v4 m=>sq m LW λ v5 m=>bG m
theorem QV {r:aZ×dL} (m:wz b_ dD r):S 74 [.ptr 0 0 0,jf b_] [.box [ak dD.L,iV dD.At]] (yK r.1) [.box [ak r.2.L,iV r.2.At]] :=sp Tryz.func74 rfl<|sq m cZ λ v1 m=>sb m λ v2 hv2 m=>cl ((gU hv2).le ⟨.refl _,(.sl rfl (λ _=>rfl) nofun (fK iV 0 [(0:Int),(0:Int),(6:Int),(12:Int),(24:Int)])),trivial⟩ ⟨oQ _,trivial⟩)<|sb m λ v3 hv3 m=>cl ((gU hv3).le ⟨.refl _,(.sl rfl (λ _=>rfl) nofun (fK iV 0 [(24:Int),(48:Int),(100:Int),(300:Int)])),trivial⟩ ⟨oQ _,trivial⟩)<|bG m
theorem Sy {r:bL×dL} (m:zh b_ dD r):S 75 [.ptr 0 0 0,jf b_] [.box [ak dD.L,iV dD.At]] (Jz r.1) [.box [ak r.2.L,iV r.2.At]] :=sp Tryz.func75 rfl<|sq m cZ λ v1 m=>sb m λ v2 hv2 m=>cl ((gU hv2).le ⟨.refl _,(.sl rfl (λ _=>rfl) nofun (fK iV 0 [(0:Int),(900:Int),(1000:Int),(1800:Int)])),trivial⟩ ⟨oQ _,trivial⟩)<|sb m λ v3 hv3 m=>cl ((gU hv3).le ⟨.refl _,(.sl rfl (λ _=>rfl) nofun (fK iV 0 [(1800:Int),(3300:Int),(5000:Int)])),trivial⟩ ⟨oQ _,trivial⟩)<|sb m λ v4 hv4 m=>cl ((gU hv4).le ⟨.refl _,(.sl rfl (λ _=>rfl) nofun (fK iV 0 [(0:Int),(10:Int),(50:Int),(200:Int)])),trivial⟩ ⟨oQ _,trivial⟩)<|bG m
theorem Sz {l_:azB} {r:ByteArray×dL} (m:zi l_ dD r):S 139 [.ptr 0 0 0,iI l_] [.box [ak dD.L,iV dD.At]] (.str r.1) [.box [ak r.2.L,iV r.2.At]] :=sp Tryz.func139 rfl<|sq m cZ λ v1 m=>sn m bO
theorem LX {r:azB×dL} (m:sF jy dD r):S 76 [.ptr 0 0 0,iV jy] [.box [ak dD.L,iV dD.At]] (iI r.1) [.box [ak r.2.L,iV r.2.At]] :=sp Tryz.func76 rfl<|sn m λ _ m=>sq m cZ λ v1 m=>lf m (λ g1=>⟨[(0,.ptr 0 0 0),(5,.dR 1 0 g1.2.2.2.length false),(6,iV g1.1)],[(0,some (.box [ak g1.2.1,iV g1.2.2.1])),(1,some (.row 1 g1.2.2.2.length (bF AV.str ByteArray.empty g1.2.2.2)))],2⟩) [(1,none)] [] <|λ ah g1 m=>si m (λ _ m=>sq m pK λ v6 m=>sq m Sz λ v7 m=>s2 m λ _ _ m=>lc [(1,some 58)] [] m) λ _ m=>by cases m;exact rt [1] []
theorem LY {r:azu×dL} (m:sG b_ jy dD r):S 22 [.ptr 0 0 0,jf b_,iV jy] [.box [ak dD.L,iV dD.At]] (dX r.1) [.box [ak r.2.L,iV r.2.At]] :=spc [9,11,13,18,19] Tryz.func22 rfl<|sn m λ _ m=>sq m cZ λ v1 m=>XQ [9,11,13,18,19] m (λ g1=>⟨[(0,.ptr 0 0 0),(4,.ptr 1 0 0),(7,.dR 2 0 g1.2.2.2.length false),(8,iV v1.1),(9,iV g1.1)],[(0,some (.box [ak g1.2.1,iV g1.2.2.1])),(1,some (.box [bg b_.bP,bf b_.bI,iV b_.aU.cu,bE b_.aU.aH,dz b_.bH,bZ b_.bX])),(2,some (.row 6 g1.2.2.2.length (bF Dy bK g1.2.2.2)))],3⟩) [(2,none)] [] <|λ ah g1 m=>si m (λ _ m=>sn m λ _ m=>sq m l5 λ v46 m=>ck [9,11,13,18,19] (jW b_ v1 g1 ah v46) r (λ g14=>⟨[(0,.ptr 0 0 0),(4,.ptr 1 0 0),(7,.dR 2 0 g1.2.2.2.length false),(8,iV v1.1),(9,iV g1.1),(10,.ptr 3 0 0)],[(0,some (.box [ak g14.1,iV g14.2.1])),(1,some (.box [bg b_.bP,bf b_.bI,iV b_.aU.cu,bE b_.aU.aH,dz b_.bH,bZ b_.bX])),(2,some (.row 6 g1.2.2.2.length (bF Dy bK g1.2.2.2))),(3,some (.box [.dR 4 0 g14.2.2.length false,acK,acK,acK,iV v46.1,acK])),(4,some (.row 3 g14.2.2.length (bF yK dN g14.2.2)))],5⟩) (si m (λ _ m=>sq m cZ λ v66 m=>si m (λ _ m=>sq m QV λ v67 m=>sn m λ _ m=>lc [(3,some 83),(4,some 219)] [] m) λ _ m=>lc [(3,some 83),(4,none)] [] m) λ c50 m=>by
 refine ⟨(λ q0=>absurd q0 (vac c50)),?_⟩
 (conv=>whnf)
 refine aS m λ h34 m=>?_
 (conv=>whnf)
 exact ⟨(v46.2.L,v46.2.At,([]:azz)),[(3,some 83),(4,none)],[],m,⟨rfl,⟨r4,r4,aaZ,r2,r2,r4,trivial⟩,⟨⟨sf,r2,trivial⟩,⟨sr,sr,r2,sr,sr,sr,trivial⟩,ab2,⟨⟨rfl,rfl,rfl,rfl,rfl,rfl⟩,sr,sr,sr,r2,sr,trivial⟩,rfl,trivial⟩⟩⟩) λ g14 m=>ck [9,11,13,18,19] (jI b_ v1 g1 ah v46 g14) r (λ g15=>⟨[(0,.ptr 0 0 0),(4,.ptr 1 0 0),(7,.dR 2 0 g1.2.2.2.length false),(8,iV v1.1),(9,iV g1.1),(10,.ptr 3 0 0)],[(0,some (.box [ak g15.1,iV g15.2.1])),(1,some (.box [bg b_.bP,bf b_.bI,iV b_.aU.cu,bE b_.aU.aH,dz b_.bH,bZ b_.bX])),(2,some (.row 6 g1.2.2.2.length (bF Dy bK g1.2.2.2))),(3,some (.box [.dR 4 0 g14.2.2.length false,.dR 5 0 g15.2.2.length false,acK,acK,iV v46.1,acK])),(4,some (.row 3 g14.2.2.length (bF yK dN g14.2.2))),(5,some (.row 4 g15.2.2.length (bF Jz eu g15.2.2)))],6⟩) (si m (λ _ m=>sq m cZ λ v64 m=>si m (λ _ m=>sq m Sy λ v65 m=>sn m λ _ m=>lc [(5,some 125)] [] m) λ _ m=>lc [(5,none)] [] m) λ c48 m=>by
 refine ⟨(λ q0=>absurd q0 (vac c48)),?_⟩
 (conv=>whnf)
 refine aS m λ h32 m=>?_
 (conv=>whnf)
 exact ⟨(g14.1,g14.2.1,([]:azy)),[(5,none)],[],m,⟨rfl,⟨r4,r4,aaZ,r2,r2,r4,trivial⟩,⟨⟨sf,r2,trivial⟩,⟨sr,sr,r2,sr,sr,sr,trivial⟩,ab2,⟨aaZ,⟨rfl,rfl,rfl,rfl,rfl,rfl⟩,sr,sr,r2,sr,trivial⟩,ab2,rfl,trivial⟩⟩⟩) λ g15 m=>ck [9,11,13,18,19] (kV b_ v1 g1 ah v46 g14 g15) r (λ g16=>⟨[(0,.ptr 0 0 0),(4,.ptr 1 0 0),(7,.dR 2 0 g1.2.2.2.length false),(8,iV v1.1),(9,iV g1.1),(10,.ptr 3 0 0)],[(0,some (.box [ak g16.1,iV g16.2.1])),(1,some (.box [bg b_.bP,bf b_.bI,iV b_.aU.cu,bE b_.aU.aH,dz b_.bH,bZ b_.bX])),(2,some (.row 6 g1.2.2.2.length (bF Dy bK g1.2.2.2))),(3,some (.box [.dR 4 0 g14.2.2.length false,.dR 5 0 g15.2.2.length false,iI g16.2.2,acK,iV v46.1,acK])),(4,some (.row 3 g14.2.2.length (bF yK dN g14.2.2))),(5,some (.row 4 g15.2.2.length (bF Jz eu g15.2.2)))],6⟩) (sq m cZ λ v62 m=>si m (λ _ m=>sq m LX λ v63 m=>le m) λ _ m=>le m) λ g16 m=>sq m vE λ v53 m=>ck [9,11,13,18,19] (kT g1 ah v46 g14 g15 g16 v53) r (λ g18=>⟨[(0,.ptr 0 0 0),(4,.ptr 1 0 0),(7,.dR 2 0 g1.2.2.2.length false),(8,iV v1.1),(9,iV g1.1),(10,.ptr 3 0 0)],[(0,some (.box [ak g18.1,iV g18.2.1])),(1,some (.box [bg b_.bP,bf b_.bI,iV b_.aU.cu,bE b_.aU.aH,dz b_.bH,bZ b_.bX])),(2,some (.row 6 g1.2.2.2.length (bF Dy bK g1.2.2.2))),(3,some (.box [.dR 4 0 g14.2.2.length false,.dR 5 0 g15.2.2.length false,iI g16.2.2,ak v53.1,iV v46.1,ak g18.2.2])),(4,some (.row 3 g14.2.2.length (bF yK dN g14.2.2))),(5,some (.row 4 g15.2.2.length (bF Jz eu g15.2.2)))],6⟩) (sq m cZ λ v58 m=>si m (λ _ m=>ck [9,11,13,18,19] (kU g1 ah v46 g14 g15 g16 v53) r (λ g19=>⟨[(0,.ptr 0 0 0),(4,.ptr 1 0 0),(7,.dR 2 0 g1.2.2.2.length false),(8,iV v1.1),(9,iV g1.1),(10,.ptr 3 0 0),(11,iV g19.1)],[(0,some (.box [ak g19.2.1,iV g19.2.2])),(1,some (.box [bg b_.bP,bf b_.bI,iV b_.aU.cu,bE b_.aU.aH,dz b_.bH,bZ b_.bX])),(2,some (.row 6 g1.2.2.2.length (bF Dy bK g1.2.2.2))),(3,some (.box [.dR 4 0 g14.2.2.length false,.dR 5 0 g15.2.2.length false,iI g16.2.2,ak v53.1,iV v46.1,acK])),(4,some (.row 3 g14.2.2.length (bF yK dN g14.2.2))),(5,some (.row 4 g15.2.2.length (bF Jz eu g15.2.2)))],6⟩) (sq m cZ λ v61 m=>si m (λ _ m=>le m) λ _ m=>le m) λ g19 m=>sq m vE λ v60 m=>le m) λ _ m=>le m) λ g18 m=>s2 m λ _ _ m=>lc [(2,some 30)] [] m) λ _ m=>si m (λ _ m=>sq m cZ λ v68 m=>si m (λ _ m=>sn m λ _ m=>XQ [9,11,13,18,19] m (λ g20=>⟨[(7,.dR 1 0 g20.2.2.length false),(8,iV v1.1),(12,iV g20.1),(13,iV g20.2.1)],[(0,some (.box [ak v68.2.L,iV v68.2.At])),(1,some (.row 6 g20.2.2.length (bF Dy bK g20.2.2)))],2⟩) [(1,some 2)] [] <|λ aij g20 m=>si m (λ _ m=>s2 m λ _ _ m=>s2 m λ _ _ m=>s2 m λ _ _ m=>le m) λ _ m=>XQ [9,11,13,18,19] m (λ g21=>⟨[(7,.dR 1 0 g21.2.length false),(8,iV v1.1),(126,iV (g20.2.2.length:Int)),(127,iV g21.1)],[(0,some (.box [ak v68.2.L,iV v68.2.At])),(1,some (.row 6 g21.2.length (bF Dy bK g21.2)))],2⟩) [] [] <|λ aa4 g21 m=>si m (λ _ m=>s2 m λ _ _ m=>XQ [9,11,13,18,19] m (λ g24=>⟨[(7,.dR 1 0 g21.2.length false),(8,iV v1.1),(14,iV g21.1),(15,.dR 2 0 g24.2.length false),(16,iV g24.1),(126,iV (g20.2.2.length:Int)),(127,iV g21.1)],[(0,some (.box [ak v68.2.L,iV v68.2.At])),(1,some (.row 6 g21.2.length (bF Dy bK g21.2))),(2,some (.row 1 g24.2.length (bF iV 0 g24.2)))],3⟩) [(2,none)] [] <|λ aii g24 m=>si m (λ _ m=>s2 m λ _ _ m=>s2 m λ _ _ m=>s2 m λ _ _ m=>lc [(2,some 123)] [] m) λ _ m=>s2 m λ _ _ m=>le m) λ _ m=>by cases m;exact rt [1] []) λ _ m=>by cases m;exact rt [2] []) λ c52 m=>by
 refine ⟨(λ q0=>absurd q0 (vac c52)),?_⟩
 (conv=>whnf)
 refine aS m λ aA4 m=>?_
 (conv=>whnf)
 have m:r=(g1.2.2.2,(⟨g1.2.1,g1.2.2.1⟩:dL)):=m
 subst m
 refine ⟨[2],[],?_⟩
 (conv=>whnf)
 exact ⟨⟨rfl,trivial,⟨⟨sf,r2,trivial⟩,trivial⟩⟩,sf⟩
theorem afe {l_:azp} {x_:Int} (m:aad l_ x_ r):S 272 [ak l_,iV x_] [] (.bool r) [] :=sp Tryz.func272 rfl<|l0 m (λ g1=>⟨[(0,ak l_),(1,iV x_),(5,iV g1)],[],0⟩) <|λ ah g1 m=>si m (λ _ m=>sn m λ _ m=>si m bO λ _ m=>sn m λ _ m=>le m) bO
theorem nZ {l_:azp} {xW:Int} {z8:Int} (m:mq l_ xW z8 r):S 263 [ak l_,iV xW,iV z8] [] (.bool r) [] :=sp Tryz.func263 rfl<|l0 m (λ g1=>⟨[(0,ak l_),(1,iV xW),(2,iV z8),(9,ak l_),(10,iV (l_.length:Int)),(11,iV g1)],[],0⟩) <|λ ah g1 m=>si m (λ _ m=>s2 m λ _ _ m=>sb m λ v3 hv3 m=>cl (λ q0=>((afe (hv3 q0)).le ⟨(.sl oz (λ _=>rfl) nofun (kN (f:=iV) (d:=0) (by first | omega | exact ajb _ _ | exact afQ (ajb _ _) om | (simp; omega)))),.refl _,trivial⟩ trivial))<|si m bO λ _ m=>sn m λ _ m=>le m) bO
theorem QW {a_:azp} {b_:azp} (m:JI a_ b_ r):S 134 [ak a_,ak b_] [] (.bool r) [] :=sp Tryz.func134 rfl<|si m bO λ _ m=>l0 m (λ g1=>⟨[(0,ak a_),(1,ak b_),(5,iV g1)],[],0⟩) <|λ ah g1 m=>si m (λ _ m=>s2 m λ _ _ m=>si m bO λ _ m=>sn m λ _ m=>le m) bO
theorem UQ {c_:aF} (m:Bv c_ r):S 239 [OC c_] [] (.bool r) [] :=sp Tryz.func239 rfl<|si m (λ _ m=>s2 m λ _ _ m=>bG m) λ _ m=>si m (λ _ m=>si m (λ _ m=>sb m λ v1 hv1 m=>cl (λ q0=>(nZ (hv1 q0)))<|bG m) λ _ m=>si m (λ _ m=>sn m λ _ m=>sb m λ v2 hv2 m=>cl (λ q0=>(nZ (hv2 q0)))<|bG m) λ _ m=>si m (λ _ m=>si m (λ _ m=>sb m λ v3 hv3 m=>cl (λ q0=>((QW (hv3 q0)).le ⟨.refl _,(.sl rfl (λ _=>rfl) nofun (fK iV 0 [(0:Int),(1:Int)])),trivial⟩ trivial))<|bG m) λ c6 m=>by
 refine ⟨.bool false,[],(λ q0=>absurd q0 (vac c6)),?_⟩
 (conv=>whnf)
 have m:r=(((c_.aW.length:Int)==(1:Int))&&false):=m
 subst m
 refine ⟨[],[],?_⟩
 (conv=>whnf)
 exact ⟨⟨rfl,trivial,trivial⟩,rfl⟩) bO) λ _ m=>si m (λ _ m=>sb m λ v4 hv4 m=>cl (λ q0=>(nZ (hv4 q0)))<|bG m) λ _ m=>si m (λ _ m=>sn m λ _ m=>sb m λ v5 hv5 m=>cl (λ q0=>(nZ (hv5 q0)))<|bG m) λ _ m=>si m (λ _ m=>si m (λ _ m=>sb m λ v6 hv6 m=>cl (λ q0=>((QW (hv6 q0)).le ⟨.refl _,(.sl rfl (λ _=>rfl) nofun (fK iV 0 [(0:Int),(1:Int)])),trivial⟩ trivial))<|bG m) λ c10 m=>by
 refine ⟨.bool false,[],(λ q0=>absurd q0 (vac c10)),?_⟩
 (conv=>whnf)
 have m:r=(((c_.aW.length:Int)==(1:Int))&&false):=m
 subst m
 refine ⟨[],[],?_⟩
 (conv=>whnf)
 exact ⟨⟨rfl,trivial,trivial⟩,rfl⟩) bO
theorem UR {l_:azs} {r:azp} (m:Bw l_ r):S 240 [bg l_] [] (ak r) [] :=spc [13] Tryz.func240 rfl<|XQ [13] m (λ g1=>⟨[(3,.dR 0 0 g1.2.length false),(9,bg l_),(10,iV (l_.length:Int)),(11,iV g1.1)],[(0,some (.row 1 g1.2.length (bF iV 0 g1.2)))],1⟩) [(0,none)] [] <|λ ah g1 m=>si m (λ _ m=>sn m λ _ m=>XQ [13] m (λ g6=>⟨[(3,.dR 0 0 g1.2.length false),(5,.ptr 1 0 0),(6,iV g6.1),(9,bg l_),(10,iV (l_.length:Int)),(11,iV g1.1),(16,ak ((l_.getD g1.1.toNat aL).aW)),(17,iV ((((l_.getD g1.1.toNat aL).aW).length:Nat):Int)),(18,iV g6.2)],[(0,some (.row 1 g1.2.length (bF iV 0 g1.2))),(1,some (.box [iV ((l_.getD g1.1.toNat aL).dG),ak ((l_.getD g1.1.toNat aL).aW),ak ((l_.getD g1.1.toNat aL).aO),iV ((l_.getD g1.1.toNat aL).lC),iV ((l_.getD g1.1.toNat aL).fI)]))],2⟩) [(1,some 25)] [] <|λ jQ g6 m=>si m (λ _ m=>s2 m λ _ _ m=>sn m λ _ m=>le m) λ _ m=>ck [13] (nU g1 ah) r (λ g7=>⟨[(3,.dR 0 0 g1.2.length false),(6,iV g7),(9,bg l_),(10,iV (l_.length:Int)),(11,iV g1.1)],[(0,some (.row 1 g1.2.length (bF iV 0 g1.2)))],1⟩) (si m (λ _ m=>sn m λ _ m=>le m) λ _ m=>le m) λ g7 m=>s2 m λ _ _ m=>lc [(0,some 25)] [] m) λ _ m=>by cases m;exact rt [0] []
theorem uX {l_:azs} {r:Int} (m:tN l_ r):S 187 [bg l_] [] (iV r) [] :=sp Tryz.func187 rfl<|si m bO λ _ m=>l0 m (λ g1=>⟨[(0,bg l_),(15,bg l_),(16,iV (l_.length:Int)),(17,iV g1)],[],0⟩) <|λ ah g1 m=>si m (λ _ m=>sn m λ _ m=>si m bO λ _ m=>sn m λ _ m=>le m) λ _ m=>l0 m (λ g2=>⟨[(0,bg l_),(5,iV g2.1),(32,bg l_),(33,iV (l_.length:Int)),(34,iV g2.2)],[],0⟩) <|λ dY g2 m=>si m (λ _ m=>sn m λ _ m=>lf m (λ g5=>⟨[(0,bg l_),(5,iV g2.1),(6,iV g2.2),(7,.ptr 0 0 0),(32,bg l_),(33,iV (l_.length:Int)),(34,iV g2.2),(40,ak ((l_.getD g2.2.toNat aL).aW)),(41,iV ((((l_.getD g2.2.toNat aL).aW).length:Nat):Int)),(42,iV g5)],[(0,some (.box [iV ((l_.getD g2.2.toNat aL).dG),ak ((l_.getD g2.2.toNat aL).aW),ak ((l_.getD g2.2.toNat aL).aO),iV ((l_.getD g2.2.toNat aL).lC),iV ((l_.getD g2.2.toNat aL).fI)]))],1⟩) [(0,some 32)] [] <|λ nP g5 m=>si m (λ _ m=>sn m λ _ m=>si m bO λ _ m=>sn m λ _ m=>le m) λ _ m=>sq m UQ λ v3 m=>si m bO λ _ m=>s2 m λ _ _ m=>le m) λ _ m=>si m bO λ _ m=>sq m UR λ v4 m=>l0 m (λ g6=>⟨[(84,ak v4),(85,iV (v4.length:Int)),(86,iV g6)],[],0⟩) <|λ jQ g6 m=>si m (λ _ m=>sn m λ _ m=>si m bO λ _ m=>sn m λ _ m=>le m) bO
theorem lN {x_:Int} {xW:Int} {z8:Int} (m:ru x_ xW z8 r):S 198 [iV x_,iV xW,iV z8] [] (.bool r) [] :=sp Tryz.func198 rfl<|bG m
theorem uY {l_:azv} {r:Int} (m:tO l_ r):S 126 [bf l_] [] (iV r) [] :=sp Tryz.func126 rfl<|si m bO λ _ m=>l0 m (λ g1=>⟨[(0,bf l_),(12,bf l_),(13,iV (l_.length:Int)),(14,iV g1)],[],0⟩) <|λ ah g1 m=>si m (λ _ m=>sn m λ _ m=>si m bO λ _ m=>sn m λ _ m=>le m) λ _ m=>l0 m (λ g2=>⟨[(23,bf l_),(24,iV (l_.length:Int)),(25,iV g2)],[],0⟩) <|λ dY g2 m=>si m (λ _ m=>s2 m λ _ _ m=>sq m lN λ v13 m=>sb m λ v14 RQ m=>cl (λ q0=>(lN (RQ q0)))<|sb m λ v15 acj m=>cl (λ q0=>(lN (acj q0)))<|si m bO λ _ m=>lf m (λ g5=>⟨[(6,.ptr 0 0 0),(23,bf l_),(24,iV (l_.length:Int)),(25,iV g2),(65,ak ((l_.getD g2.toNat aD).cK)),(66,iV ((((l_.getD g2.toNat aD).cK).length:Nat):Int)),(67,iV g5)],[(0,some (.box [iV ((l_.getD g2.toNat aD).aT),ak ((l_.getD g2.toNat aD).cK),iV ((l_.getD g2.toNat aD).iw),iV ((l_.getD g2.toNat aD).iG),.bool ((l_.getD g2.toNat aD).gF)]))],1⟩) [(0,some 32)] [] <|λ nP g5 m=>si m (λ _ m=>sn m λ _ m=>sq m lN λ v18 m=>s2 m λ _ _ m=>si m bO λ _ m=>sn m λ _ m=>le m) λ _ m=>sn m λ _ m=>le m) bO
theorem wJ {s_:ByteArray} (m:wV s_ r):S 190 [.str s_] [] (.bool r) [] :=sp Tryz.func190 rfl<|s2 m λ _ _ m=>si m bO λ _ m=>l0 m (λ g1=>⟨[(0,.str s_),(3,iV g1)],[],0⟩) <|λ ah g1 m=>si m (λ _ m=>s2 m λ _ _ m=>s2 m λ _ _ m=>sn m λ _ m=>si m bO λ _ m=>sn m λ _ m=>le m) bO
theorem X8 {p_:bR} {i_:Int} {r:Int} (m:Ho p_ i_ r):S 241 [qj p_,iV i_] [] (iV r) [] :=sp Tryz.func241 rfl<|sn m λ _ m=>sq m wJ λ v1 m=>si m bO λ _ m=>lf m (λ g1=>⟨[(1,iV i_),(2,.ptr 0 0 0),(5,.ptr 1 0 0),(6,iV g1)],[(0,some (.box [iV p_.cu,bE p_.aH])),(1,some (.box [.str ((p_.aH.getD i_.toNat aN).yw),ak ((p_.aH.getD i_.toNat aN).cu),iI ((p_.aH.getD i_.toNat aN).au)]))],2⟩) [(1,some 56)] [] <|λ ah g1 m=>si m (λ _ m=>sn m λ _ m=>si m bO λ _ m=>sn m λ _ m=>le m) λ _ m=>si m bO λ _ m=>si m bO λ _ m=>l0 m (λ g2=>⟨[(2,.ptr 0 0 0),(5,.ptr 1 0 0),(7,iV g2)],[(0,some (.box [iV p_.cu,bE p_.aH])),(1,some (.box [.str ((p_.aH.getD i_.toNat aN).yw),ak ((p_.aH.getD i_.toNat aN).cu),iI ((p_.aH.getD i_.toNat aN).au)]))],2⟩) <|λ dY g2 m=>si m (λ _ m=>s2 m λ _ _ m=>si m bO λ _ m=>sn m λ _ m=>le m) λ _ m=>lf m (λ g3=>⟨[(5,.ptr 0 0 0),(8,iV g3)],[(0,some (.box [.str ((p_.aH.getD i_.toNat aN).yw),ak ((p_.aH.getD i_.toNat aN).cu),iI ((p_.aH.getD i_.toNat aN).au)]))],1⟩) [(0,some 1)] [] <|λ nE g3 m=>si m (λ _ m=>s2 m λ _ _ m=>sn m λ _ m=>si m bO λ _ m=>sn m λ _ m=>le m) λ _ m=>l0 m (λ g4=>⟨[(5,.ptr 0 0 0),(9,iV g4)],[(0,some (.box [.str ((p_.aH.getD i_.toNat aN).yw),ak ((p_.aH.getD i_.toNat aN).cu),iI ((p_.aH.getD i_.toNat aN).au)]))],1⟩) <|λ gW g4 m=>si m (λ _ m=>sn m λ _ m=>sq m wJ λ v4 m=>si m bO λ _ m=>sn m λ _ m=>le m) λ _ m=>l0 m (λ g5=>⟨[(5,.ptr 0 0 0),(10,iV g5)],[(0,some (.box [.str ((p_.aH.getD i_.toNat aN).yw),ak ((p_.aH.getD i_.toNat aN).cu),iI ((p_.aH.getD i_.toNat aN).au)]))],1⟩) <|λ nP g5 m=>si m (λ _ m=>l0 m (λ g8=>⟨[(5,.ptr 0 0 0),(10,iV g5),(11,iV g8)],[(0,some (.box [.str ((p_.aH.getD i_.toNat aN).yw),ak ((p_.aH.getD i_.toNat aN).cu),iI ((p_.aH.getD i_.toNat aN).au)]))],1⟩) <|λ aa6 g8 m=>si m (λ _ m=>s2 m λ _ _ m=>si m bO λ _ m=>sn m λ _ m=>le m) λ _ m=>sn m λ _ m=>le m) bO
theorem Bh {p_:bR} {r:Int} (m:xM p_ r):S 188 [qj p_] [] (iV r) [] :=sp Tryz.func188 rfl<|si m bO λ _ m=>si m bO λ _ m=>l0 m (λ g1=>⟨[(1,.ptr 0 0 0),(3,iV g1)],[(0,some (.box [iV p_.cu,bE p_.aH]))],1⟩) <|λ ah g1 m=>si m (λ _ m=>sq m X8 λ v3 m=>si m bO λ _ m=>sn m λ _ m=>le m) bO
theorem Bj {l_:azC} {r:Int} (m:xO l_ r):S 189 [dz l_] [] (iV r) [] :=sp Tryz.func189 rfl<|si m bO λ _ m=>l0 m (λ g1=>⟨[(0,dz l_),(3,iV g1)],[],0⟩) <|λ ah g1 m=>si m (λ _ m=>l0 m (λ g6=>⟨[(0,dz l_),(3,iV g1),(4,iV g6)],[],0⟩) <|λ jQ g6 m=>sn m λ _ m=>si m (λ _ m=>s2 m λ _ _ m=>s2 m λ _ _ m=>si m bO λ _ m=>sn m λ _ m=>le m) λ _ m=>l0 m (λ g7=>⟨[(0,dz l_),(3,iV g1),(5,iV g7)],[],0⟩) <|λ oJ g7 m=>sn m λ _ m=>si m (λ _ m=>s2 m λ _ _ m=>s2 m λ _ _ m=>sn m λ _ m=>si m bO λ _ m=>sn m λ _ m=>le m) λ _ m=>sn m λ _ m=>le m) bO
theorem Bl {l_:azD} {r:Int} (m:xP l_ r):S 136 [bZ l_] [] (iV r) [] :=sp Tryz.func136 rfl<|si m bO λ _ m=>l0 m (λ g1=>⟨[(0,bZ l_),(3,iV g1)],[],0⟩) <|λ ah g1 m=>si m (λ _ m=>s2 m λ _ _ m=>si m bO λ _ m=>sn m λ _ m=>le m) bO
theorem X9 {r:Int} (m:Hq b_ r):S 111 [jf b_] [] (iV r) [] :=sp Tryz.func111 rfl<|sq m uX λ v1 m=>si m bO λ _ m=>sq m uY λ v2 m=>si m bO λ _ m=>sq m Bh λ v3 m=>si m bO λ _ m=>sq m Bj λ v4 m=>si m bO λ _ m=>sq m Bl λ v5 m=>bG m
theorem ZF {x_:aR} {r:Int} (m:K8 b_ l_ x_ r):S 112 [jf b_,dX l_,Dy x_] [] (iV r) [] :=sp Tryz.func112 rfl<|si m bO λ _ m=>lf m (λ g1=>⟨[(1,dX l_),(3,.ptr 0 0 0),(5,.ptr 1 0 0),(35,eF x_.dx),(36,iV (x_.dx.length:Int)),(37,iV g1)],[(0,some (.box [bg b_.bP,bf b_.bI,iV b_.aU.cu,bE b_.aU.aH,dz b_.bH,bZ b_.bX])),(1,some (.box [eF x_.dx,fZ x_.fJ,iI x_.au,ak x_.bH,iV x_.fV,ak x_.cO]))],2⟩) [(1,some 8)] [] <|λ ah g1 m=>si m (λ _ m=>sn m λ _ m=>si m bO λ _ m=>sn m λ _ m=>le m) λ _ m=>l0 m (λ g2=>⟨[(1,dX l_),(3,.ptr 0 0 0),(5,.ptr 1 0 0),(71,fZ x_.fJ),(72,iV (x_.fJ.length:Int)),(73,iV g2)],[(0,some (.box [bg b_.bP,bf b_.bI,iV b_.aU.cu,bE b_.aU.aH,dz b_.bH,bZ b_.bX])),(1,some (.box [eF x_.dx,fZ x_.fJ,iI x_.au,ak x_.bH,iV x_.fV,ak x_.cO]))],2⟩) <|λ dY g2 m=>si m (λ _ m=>sn m λ _ m=>si m bO λ _ m=>sn m λ _ m=>le m) λ _ m=>l0 m (λ g3=>⟨[(1,dX l_),(3,.ptr 0 0 0),(5,.ptr 1 0 0),(117,iI x_.au),(118,iV (x_.au.length:Int)),(119,iV g3)],[(0,some (.box [bg b_.bP,bf b_.bI,iV b_.aU.cu,bE b_.aU.aH,dz b_.bH,bZ b_.bX])),(1,some (.box [eF x_.dx,fZ x_.fJ,iI x_.au,ak x_.bH,iV x_.fV,ak x_.cO]))],2⟩) <|λ nE g3 m=>si m (λ _ m=>sn m λ _ m=>sq m wJ λ v3 m=>si m bO λ _ m=>sn m λ _ m=>le m) λ _ m=>l0 m (λ g4=>⟨[(1,dX l_),(3,.ptr 0 0 0),(5,.ptr 1 0 0),(128,ak x_.bH),(129,iV (x_.bH.length:Int)),(130,iV g4)],[(0,some (.box [bg b_.bP,bf b_.bI,iV b_.aU.cu,bE b_.aU.aH,dz b_.bH,bZ b_.bX])),(1,some (.box [eF x_.dx,fZ x_.fJ,iI x_.au,ak x_.bH,iV x_.fV,ak x_.cO]))],2⟩) <|λ gW g4 m=>si m (λ _ m=>sn m λ _ m=>si m bO λ _ m=>sn m λ _ m=>le m) λ _ m=>si m bO λ _ m=>lf m (λ g5=>⟨[(1,dX l_),(5,.ptr 0 0 0),(156,ak x_.cO),(157,iV (x_.cO.length:Int)),(158,iV g5)],[(0,some (.box [eF x_.dx,fZ x_.fJ,iI x_.au,ak x_.bH,iV x_.fV,ak x_.cO]))],1⟩) [(0,some 1)] [] <|λ nP g5 m=>si m (λ _ m=>sn m λ _ m=>si m bO λ _ m=>sn m λ _ m=>le m) λ _ m=>l0 m (λ g6=>⟨[(5,.ptr 0 0 0),(17,iV g6)],[(0,some (.box [eF x_.dx,fZ x_.fJ,iI x_.au,ak x_.bH,iV x_.fV,ak x_.cO]))],1⟩) <|λ jQ g6 m=>si m (λ _ m=>s2 m λ _ _ m=>sn m λ _ m=>si m bO λ _ m=>sn m λ _ m=>le m) bO
theorem wK {r:Int} (m:wW b_ l_ r):S 47 [jf b_,dX l_] [] (iV r) [] :=sp Tryz.func47 rfl<|sq m X9 λ v1 m=>si m bO λ _ m=>si m bO λ _ m=>l0 m (λ g1=>⟨[(1,dX l_),(2,.ptr 0 0 0),(6,iV g1)],[(0,some (.box [bg b_.bP,bf b_.bI,iV b_.aU.cu,bE b_.aU.aH,dz b_.bH,bZ b_.bX]))],1⟩) <|λ ah g1 m=>si m (λ _ m=>sn m λ _ m=>sq m ZF λ v4 m=>si m bO λ _ m=>sn m λ _ m=>le m) bO
end Go.Proofs.YtifekdmmpbcdgaaGreatDoor
namespace Go.Proofs.YtifekdmmpbcdgaaGreatDoor
open Go.Ab
theorem ozz {p:Prop} (h:p:=by first | omega | (simp [jG]; done) | (simp [jG,Va]; done) | (simp [jG]; omega) | (simp [jG,Va]; omega)):p:=h
end Go.Proofs.YtifekdmmpbcdgaaGreatDoor

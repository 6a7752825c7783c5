/- A part of the proof. -/
import Derived.Test.YtifekdmmpbcdgaaGreatDoorA8
set_option linter.unusedVariables false
set_option linter.unusedSimpArgs false
namespace Go.Proofs.YtifekdmmpbcdgaaGreatDoor
open Go.Ab
set_option maxRecDepth 100000
set_option maxHeartbeats 20000000
variable {b_:aY} {l_:List aS} {aj:List Int} {g_:aR}
theorem Ux {gI:Bool} {r:Int} (hm:C9 b_ l_ aj g_ gI r):S 150 [iX b_,dV l_,av aj,iw g_,.bool gI] [] (iV r) [] :=sp Tryz.func150 rfl<|sq hm Ch λ v1 hm=>si hm (λ _ hm=>by cases hm;exact re) λ _ hm=>sq hm oW λ v2 hm=>by cases hm;exact re
variable {r:Bool}
theorem Jq (hm:AU b_ l_ aj g_ r):S 87 [iX b_,dV l_,av aj,iw g_] [] (.bool r) [] :=sp Tryz.func87 rfl<|sq hm Ux λ v1 hm=>by cases hm;exact re
theorem uS {l_:List aP} {r:dR→Option Int} (hm:oF l_ r):S 30 [bL l_] [] (.mref 0) [.map (.int .i64) [(.int .i64)] r] :=sp Tryz.func30 rfl<|lf hm (λ g1=>⟨[(3,.mref 0),(7,bL l_),(8,iV (l_.length:Int)),(9,iV g1.1)],[(0,some (.map (.int .i64) [(.int .i64)] g1.2))],1⟩) [(0,some 8)] [] <|λ ah g1 hm=>si hm (λ _ hm=>s2 hm λ _ _ hm=>sn hm λ _ hm=>le hm) λ _ hm=>by cases hm;exact re
variable {s_:List aP}
theorem EM {v_:aP} {r:Int} (hm:rG s_ v_ r):S 151 [bL s_,mM v_] [] (iV r) [] :=sp Tryz.func151 rfl<|l0 hm (λ g1=>⟨[(0,bL s_),(3,.ptr 0 0 0),(7,iV (s_.length:Int)),(8,iV g1)],[(0,some (.box [iV v_.gG,iV v_.jd.dz,iV v_.jd.dM]))],1⟩) <|λ ah g1 hm=>si hm (λ _ hm=>sn hm λ _ hm=>si hm (λ _ hm=>by cases hm;exact re) λ _ hm=>sn hm λ _ hm=>le hm) λ _ hm=>by cases hm;exact re
theorem Bu {v_:aP} (hm:nP s_ v_ r):S 88 [bL s_,mM v_] [] (.bool r) [] :=sp Tryz.func88 rfl<|sq hm EM λ v1 hm=>by cases hm;exact re
variable {from_:aR} {kD:List Int}
theorem Sy {jH:aR} {r:Int} (hm:Aa b_ l_ from_ jH kD r):S 29 [iX b_,dV l_,iw from_,iw jH,av kD] [] (iV r) [] :=sp Tryz.func29 rfl<|sq hm Ch λ v1 hm=>si hm (λ _ hm=>by cases hm;exact re) λ _ hm=>lf hm (λ g1=>⟨[(1,dV l_),(4,av kD),(5,.ptr 0 0 0),(7,.ptr 1 0 0),(8,.ptr 2 0 0),(25,av kD),(26,iV (kD.length:Int)),(27,iV g1)],[(0,some (.box [aW b_.bS,aV b_.bI,iV b_.aZ.bZ,bg b_.aZ.aH,dA b_.bA,bV b_.dD])),(1,some (.box [av from_.Setting,aL from_.bX.On,av from_.bX.bJ,bL from_.Uses,aL from_.Released,aL from_.cO])),(2,some (.box [av jH.Setting,aL jH.bX.On,av jH.bX.bJ,bL jH.Uses,aL jH.Released,aL jH.cO]))],3⟩) [(1,some 8),(2,some 16)] [] <|λ ah g1 hm=>si hm (λ _ hm=>s2 hm λ _ _ hm=>sb hm λ v4 hv4 hm=>cl (λ q0=>((kU (hv4 q0)).le ⟨(.sl oz (λ _=>rfl) nofun (lX (f:=iV) (d:=0) (by first | omega | exact Nat.min_le_left _ _ | exact Nat.le_trans (Nat.min_le_left _ _) om | (simp; omega)))),.refl _,trivial⟩ trivial))<|si hm (λ _ hm=>by cases hm;exact re) λ _ hm=>sn hm λ _ hm=>le hm) λ _ hm=>sq hm Jq λ v5 hm=>sb hm λ v6 hv6 hm=>cl (λ q0=>(Jq (hv6 q0)))<|si hm (λ _ hm=>by cases hm;exact re) λ _ hm=>sq hm uS λ v7 hm=>lf hm (λ g2=>⟨[(4,av kD),(8,.ptr 0 0 0),(14,.mref 1),(66,bL from_.Uses),(67,iV (from_.Uses.length:Int)),(68,iV g2)],[(0,some (.box [av jH.Setting,aL jH.bX.On,av jH.bX.bJ,bL jH.Uses,aL jH.Released,aL jH.cO])),(1,some (.map (.int .i64) [(.int .i64)] v7))],2⟩) [(0,some 2),(1,some 139)] [] <|λ dY g2 hm=>si hm (λ _ hm=>s2 hm λ _ _ hm=>sb hm λ v12 TL hm=>cl (λ q0=>(kU (TL q0)))<|sb hm λ v13 R8 hm=>cl (λ q0 q1=>(Bu (R8 q0 q1)))<|si hm (λ _ hm=>by cases hm;exact re) λ _ hm=>sn hm λ _ hm=>le hm) λ _ hm=>by cases hm;exact re
theorem iO {dx:List aN} {r:List aN} (hm:gP dx r):S 32 [.dQ 0 0 dx.length false] [.row 3 dx.length (bC fE dI dx)] (.jQ []) [.row 3 r.length (bC fE dI r)] :=sp Tryz.func32 rfl<|sn hm λ _ hm=>l0 hm (λ g1=>⟨[(0,.dQ 0 0 g1.2.2.length false),(2,iV g1.1),(3,iV g1.2.1)],[(0,some (.row 3 g1.2.2.length (bC fE dI g1.2.2)))],1⟩) <|λ ah g1 hm=>si hm (λ _ hm=>s2 hm λ _ _ hm=>s2 hm λ _ _ hm=>s2 hm λ _ _ hm=>le hm) λ _ hm=>by cases hm;exact re
variable {nO:List Int} {l9:List Bool} {yg:List Int} {zh:List aP} {sQ:List Bool} {yh:List Bool} {CX:List Int} {vW:List Bool} {Np:List Int} {P9:List aP} {Ea:List Bool} {Nq:List Bool}
theorem CF {ql:Int} {r:List aN} (hm:sU ql nO l9 yg zh sQ yh CX vW Np P9 Ea Nq r):S 31 [iV ql,.ro [av nO,aL l9,av yg,bL zh,aL sQ,aL yh],.ro [av CX,aL vW,av Np,bL P9,aL Ea,aL Nq]] [] (iC r) [] :=sp Tryz.func31 rfl<|lf hm (λ g1=>⟨[(0,iV ql),(1,.ro [av nO,aL l9,av yg,bL zh,aL sQ,aL yh]),(2,.ro [av CX,aL vW,av Np,bL P9,aL Ea,aL Nq]),(5,.dQ 0 0 g1.2.length false),(9,iV (sQ.length:Int)),(10,iV g1.1)],[(0,some (.row 3 g1.2.length (bC fE dI g1.2)))],1⟩) [(0,none)] [] <|λ ah g1 hm=>si hm (λ _ hm=>s2 hm λ _ _ hm=>sn hm λ _ hm=>si hm (λ _ hm=>s2 hm λ _ _ hm=>lc [(0,some 233)] [] hm) λ _ hm=>sn hm λ _ hm=>le hm) λ _ hm=>si hm (λ _ hm=>sq hm iO λ v1 hm=>by
 have h19:=hm.1
 have hm:=hm.2
 have hm:r=(v1.take (g1.2.length)):=hm
 subst hm
 refine ⟨[0],[],?_⟩
 (conv=>whnf)
 exact ⟨⟨rfl,trivial,trivial⟩,⟨oz,(λ _=>rfl),nofun,(lX (f:=fE) (d:=dI) (by first | omega | exact Nat.min_le_left _ _ | exact Nat.le_trans (Nat.min_le_left _ _) om | (simp; omega)))⟩⟩) λ _ hm=>by cases hm;exact rt [0] []
theorem Qu {p8:List Int} {ug:List Bool} {GN:List Int} {GQ:List aP} {GR:List Bool} {EZ:List Bool} {acj:List Int} {acn:List Bool} {aco:List Int} {acp:List aP} {Tn:List Bool} {Tq:List Bool} {r:List aN×Int} (hm:Eb p8 ug GN GQ GR EZ acj acn aco acp Tn Tq r):S 34 [.ro [.fn 31 [.ro [av p8,aL ug,av GN,bL GQ,aL GR,aL EZ],.ro [av acj,aL acn,av aco,bL acp,aL Tn,aL Tq]]]] [] (.jQ [iC r.1,iV r.2]) [] :=sp Tryz.func34 rfl<|sq hm CF λ v1 hm=>by cases hm;exact re
theorem CG {some_:dR→Option Int} {JX:dR→Option Int} {WS:Int} {r:List aN} (hm:sV some_ JX WS r):S 33 [.pm (.int .i64) [(.int .i64)] some_,.pm (.int .i64) [(.int .i64)] JX,iV WS] [] (iC r) [] :=sp Tryz.func33 rfl<|lf hm (λ g1=>⟨[(0,.pm (.int .i64) [(.int .i64)] some_),(1,.pm (.int .i64) [(.int .i64)] JX),(2,iV WS),(7,.dQ 0 0 g1.2.length false),(10,iV g1.1)],[(0,some (.row 3 g1.2.length (bC fE dI g1.2)))],1⟩) [(0,none)] [] <|λ ah g1 hm=>si hm (λ _ hm=>si hm (λ _ hm=>s2 hm λ _ _ hm=>sn hm λ _ hm=>lc [(0,some 177)] [] hm) λ _ hm=>sn hm λ _ hm=>le hm) λ _ hm=>by cases hm;exact rt [0] []
variable {a2_:dR→Option Int}
theorem Qv {lQ:dR→Option Int} {r:List aN×Int} (hm:Ec lQ a2_ r):S 35 [.ro [.fn 33 []],.ro [.pm (.int .i64) [(.int .i64)] lQ],.ro [.pm (.int .i64) [(.int .i64)] a2_]] [] (.jQ [iC r.1,iV r.2]) [] :=sp Tryz.func35 rfl<|sq hm CG λ v1 hm=>by cases hm;exact re
theorem Sz {n_:aS} {r:List bU} (hm:QX n_ r):S 97 [Cn n_] [] (fT r) [] :=sp Tryz.func97 rfl<|by cases hm;exact re
theorem Fe {r:List bU} (hm:sW l_ aj r):S 96 [dV l_,av aj,.fn 97 []] [] (fT r) [] :=sp Tryz.func96 rfl<|lf hm (λ g1=>⟨[(0,dV l_),(2,.fn 97 []),(7,.dQ 0 0 g1.2.length false),(10,av aj),(11,iV (aj.length:Int)),(12,iV g1.1)],[(0,some (.row 4 g1.2.length (bC Ij eD g1.2)))],1⟩) [(0,none)] [] <|λ ah g1 hm=>si hm (λ _ hm=>sn hm λ _ hm=>si hm (λ _ hm=>sn hm λ _ hm=>sq hm Sz λ v3 hm=>s2 hm λ _ _ hm=>lc [(0,some 153)] [] hm) λ _ hm=>sn hm λ _ hm=>le hm) λ _ hm=>by cases hm;exact rt [0] []
theorem VX {r:List bU} (hm:FK l_ aj r):S 38 [dV l_,av aj] [] (fT r) [] :=sp Tryz.func38 rfl<|sq hm Fe λ v1 hm=>by cases hm;exact re
theorem Uy {r_:bD} {lQ:List aF} (hm:yt r_ lQ r):S 154 [pX r_,.ro [aV lQ]] [] (.bool r) [] :=sp Tryz.func154 rfl<|sq hm Gr λ v1 hm=>by cases hm;exact re
theorem zT {s_:List bD} {f_:List aF} {r:Int} (hm:mY s_ f_ r):S 219 [Ym s_,.fn 154 [.ro [aV f_]]] [] (iV r) [] :=sp Tryz.func219 rfl<|l0 hm (λ g1=>⟨[(0,Ym s_),(1,.fn 154 [.ro [aV f_]]),(7,iV (s_.length:Int)),(8,iV g1)],[],0⟩) <|λ ah g1 hm=>si hm (λ _ hm=>sn hm λ _ hm=>sq hm Uy λ v3 hm=>si hm (λ _ hm=>by cases hm;exact re) λ _ hm=>sn hm λ _ hm=>le hm) λ _ hm=>by cases hm;exact re
theorem xw {s_:List bD} {f_:List aF} (hm:qN s_ f_ r):S 153 [Ym s_,.fn 154 [.ro [aV f_]]] [] (.bool r) [] :=sp Tryz.func153 rfl<|sq hm zT λ v1 hm=>by cases hm;exact re
theorem XW {l_:List aF} {acr:List bD} {r:Int} (hm:JY l_ acr r):S 89 [aV l_,Ym acr] [] (iV r) [] :=sp Tryz.func89 rfl<|sq hm sw λ v1 hm=>si hm (λ _ hm=>by cases hm;exact re) λ _ hm=>sq hm xw λ v2 hm=>si hm (λ _ hm=>by cases hm;exact re) λ _ hm=>by cases hm;exact re
theorem Jr {r_:bD} {r:List Bool×List Int} (hm:AX r_ r):S 93 [pX r_] [] (.agg [.dQ 0 0 r.1.length false,.dQ 1 0 r.2.length false]) [.row 1 r.1.length (bC AV.bool false r.1),.row 1 r.2.length (bC iV 0 r.2)] :=sp Tryz.func93 rfl<|sq hm mq λ v1 hm=>sq hm rP λ v2 hm=>by cases hm;exact rt [] [(0,some 32),(1,some 56)]
theorem Z0 {a_:bD} {b_:bD} {r:bD} (hm:Pt a_ b_ r):S 92 [pX a_,pX b_] [] (pX r) [] :=sp Tryz.func92 rfl<|sq hm Jr λ v1 hm=>lf hm (λ g1=>⟨[(2,.ptr 0 0 0),(3,.ptr 1 0 0),(4,.ptr 2 0 0),(5,.ptr 3 0 0),(11,iV (v1.1.length:Int)),(12,iV g1.1)],[(0,some (.box [aL a_.On,av a_.bJ])),(1,some (.box [aL b_.On,av b_.bJ])),(2,some (.box [.sl 0 0 true dN,.sl 0 0 true dN])),(3,some (.box [.dQ 4 0 g1.2.1.length false,.dQ 5 0 g1.2.2.length false])),(4,some (.row 1 g1.2.1.length (bC AV.bool false g1.2.1))),(5,some (.row 1 g1.2.2.length (bC iV 0 g1.2.2)))],6⟩) [(1,some 8),(2,some 16),(3,some 40),(4,some 32),(5,some 33)] [] <|λ ah g1 hm=>si hm (λ _ hm=>s2 hm λ _ _ hm=>si hm (λ _ hm=>s2 hm λ _ _ hm=>s2 hm λ _ _ hm=>le hm) λ _ hm=>sn hm λ _ hm=>si hm (λ _ hm=>s2 hm λ _ _ hm=>s2 hm λ _ _ hm=>le hm) λ _ hm=>sn hm λ _ hm=>le hm) λ _ hm=>by cases hm;exact rt [4,5] []
theorem uP {lJ:Int} {ql:Int} {pE:Nat} {pF:Nat} {GU:List Bool} {wM:List Int} {qO:List aN} {r:Nat×Nat×List Int×List aN} (hm:lq lJ ql pE pF GU wM qO r):S 94 [.ptr 0 0 0,iV lJ,iV ql] [.box [.dQ 1 0 pE false,.dQ 2 0 pF false,.dQ 3 0 qO.length false],.row 1 GU.length (bC AV.bool false GU),.row 1 wM.length (bC iV 0 wM),.row 3 qO.length (bC fE dI qO)] (.jQ []) [.box [.dQ 1 0 r.1 false,.dQ 2 0 r.2.1 false,.dQ 4 0 r.2.2.2.length false],.row 1 GU.length (bC AV.bool false GU),.row 1 r.2.2.1.length (bC iV 0 r.2.2.1),aaV,.row 3 r.2.2.2.length (bC fE dI r.2.2.2)] :=sp Tryz.func94 rfl<|by
 have h4:=hm.1
 have hm:=hm.2
 refine aO hm λ h1 hm=>?_
 (conv=>whnf)
 refine fQ hm (λ c1 hm=>?_) (λ c1 hm=>?_)
 ·(conv=>whnf)
  refine aO hm λ h2 hm=>?_
  (conv=>whnf)
  refine aO hm λ h3 hm=>?_
  (conv=>whnf)
  have hm:r=(pE,pF,(wM.set (lJ.toNat) ql),(qO++([(⟨(2:Int),lJ,ql⟩:aN)]:List aN))):=hm
  subst hm
  refine ⟨[],[(4,some 228)],?_⟩
  (conv=>whnf)
  exact ⟨⟨rfl,trivial,⟨⟨⟨rfl,rfl,rfl,rfl,nofun⟩,⟨rfl,rfl,rfl,rfl,nofun⟩,⟨rfl,rfl,rfl,oz,nofun⟩,trivial⟩,⟨rfl,rfl,(λ _ _=>.refl _)⟩,⟨rfl,oz,(rR (λ _ _=>.refl _) rfl (.refl _))⟩,⟨rfl,oz,(iL rfl (λ _ _=>.refl _) rfl (fM fE dI [(⟨(2:Int),lJ,ql⟩:aN)]))⟩,trivial⟩⟩,trivial⟩
 ·(conv=>whnf)
  have hm:r=(pE,pF,wM,qO):=hm
  subst hm
  refine ⟨[],[(4,some 3)],?_⟩
  (conv=>whnf)
  exact ⟨⟨rfl,trivial,⟨⟨⟨rfl,rfl,rfl,rfl,nofun⟩,⟨rfl,rfl,rfl,rfl,nofun⟩,⟨rfl,rfl,rfl,rfl,nofun⟩,trivial⟩,⟨rfl,rfl,(λ _ _=>.refl _)⟩,⟨rfl,rfl,(λ _ _=>.refl _)⟩,⟨rfl,rfl,(λ _ _=>.refl _)⟩,trivial⟩⟩,trivial⟩
theorem tN {lJ:Int} {nW:Bool} {pE:Nat} {pF:Nat} {GU:List Bool} {wM:List Int} {qO:List aN} {r:Nat×Nat×List Bool×List aN} (hm:kE lJ nW pE pF GU wM qO r):S 95 [.ptr 0 0 0,iV lJ,.bool nW] [.box [.dQ 1 0 pE false,.dQ 2 0 pF false,.dQ 3 0 qO.length false],.row 1 GU.length (bC AV.bool false GU),.row 1 wM.length (bC iV 0 wM),.row 3 qO.length (bC fE dI qO)] (.jQ []) [.box [.dQ 1 0 r.1 false,.dQ 2 0 r.2.1 false,.dQ 4 0 r.2.2.2.length false],.row 1 r.2.2.1.length (bC AV.bool false r.2.2.1),.row 1 wM.length (bC iV 0 wM),aaV,.row 3 r.2.2.2.length (bC fE dI r.2.2.2)] :=spc [5] Tryz.func95 rfl<|by
 have h5:=hm.1
 have hm:=hm.2
 refine aO hm λ h1 hm=>?_
 (conv=>whnf)
 refine fQ hm (λ c1 hm=>?_) (λ c1 hm=>?_)
 ·(conv=>whnf)
  have hm:r=(pE,pF,GU,qO):=hm
  subst hm
  refine ⟨[],[(4,some 3)],?_⟩
  (conv=>whnf)
  exact ⟨⟨rfl,trivial,⟨⟨⟨rfl,rfl,rfl,rfl,nofun⟩,⟨rfl,rfl,rfl,rfl,nofun⟩,⟨rfl,rfl,rfl,rfl,nofun⟩,trivial⟩,⟨rfl,rfl,(λ _ _=>.refl _)⟩,⟨rfl,rfl,(λ _ _=>.refl _)⟩,⟨rfl,rfl,(λ _ _=>.refl _)⟩,trivial⟩⟩,trivial⟩
 ·(conv=>whnf)
  refine aO hm λ h2 hm=>?_
  (conv=>whnf)
  refine QO (ct:=[5]) gZ dk dk (jF lJ wM qO) r (λ g1=>⟨[(0,.ptr 0 0 0),(1,iV lJ),(6,iV g1.1)],[(0,some (.box [.dQ 1 0 g1.2.1 false,.dQ 2 0 g1.2.2.1 false,.dQ 3 0 qO.length false])),(1,some (.row 1 g1.2.2.2.length (bC AV.bool false g1.2.2.2))),(2,some (.row 1 wM.length (bC iV 0 wM))),(3,some (.row 3 qO.length (bC fE dI qO)))],4⟩) ?_ (λ g1 hm=>?_)
  ·(conv=>whnf)
   refine fQ hm (λ c3 hm=>?_) (λ c3 hm=>?_)
   ·(conv=>whnf)
    exact ⟨((1:Int),pE,pF,(GU.set (lJ.toNat) nW)),[],[],hm,⟨rfl,⟨r4,r2,r2,trivial⟩,⟨⟨⟨rfl,rfl,rfl,rfl,nofun⟩,⟨rfl,rfl,rfl,rfl,nofun⟩,⟨rfl,rfl,rfl,rfl,nofun⟩,trivial⟩,⟨rfl,oz,(rR (λ _ _=>.refl _) rfl (.refl _))⟩,⟨rfl,rfl,(λ _ _=>.refl _)⟩,⟨rfl,rfl,(λ _ _=>.refl _)⟩,trivial⟩⟩⟩
   ·(conv=>whnf)
    exact ⟨((0:Int),pE,pF,(GU.set (lJ.toNat) nW)),[],[],hm,⟨rfl,⟨r4,r2,r2,trivial⟩,⟨⟨⟨rfl,rfl,rfl,rfl,nofun⟩,⟨rfl,rfl,rfl,rfl,nofun⟩,⟨rfl,rfl,rfl,rfl,nofun⟩,trivial⟩,⟨rfl,oz,(rR (λ _ _=>.refl _) rfl (.refl _))⟩,⟨rfl,rfl,(λ _ _=>.refl _)⟩,⟨rfl,rfl,(λ _ _=>.refl _)⟩,trivial⟩⟩⟩
  ·(conv=>whnf)
   have h4:=hm.1
   have hm:=hm.2
   refine aO hm λ h3 hm=>?_
   (conv=>whnf)
   have hm:r=(g1.2.1,g1.2.2.1,g1.2.2.2,(qO++([(⟨(3:Int),lJ,g1.1⟩:aN)]:List aN))):=hm
   subst hm
   refine ⟨[],[(4,some 76)],?_⟩
   (conv=>whnf)
   exact ⟨⟨rfl,trivial,⟨⟨⟨rfl,rfl,rfl,rfl,nofun⟩,⟨rfl,rfl,rfl,rfl,nofun⟩,⟨rfl,rfl,rfl,oz,nofun⟩,trivial⟩,⟨rfl,rfl,(λ _ _=>.refl _)⟩,⟨rfl,rfl,(λ _ _=>.refl _)⟩,⟨rfl,oz,(iL rfl (λ _ _=>.refl _) rfl (fM fE dI [(⟨(3:Int),lJ,g1.1⟩:aN)]))⟩,trivial⟩⟩,trivial⟩
theorem Z4 {l_:List aF} {from_:bD} {jH:bD} {d_:List bU} {r:List aN×Int} (hm:Pv l_ from_ jH d_ r):S 37 [aV l_,pX from_,pX jH,fT d_] [] (.jQ [iC r.1,iV r.2]) [] :=spc [22] Tryz.func37 rfl<|sb hm λ v1 hv1 hm=>cl ((XW hv1).le ⟨.refl _,(.sl rfl (λ _=>rfl) nofun (fM pX JR [from_,jH])),trivial⟩ trivial)<|si hm (λ _ hm=>by cases hm;exact re) λ _ hm=>sq hm Gs λ v2 hm=>si hm (λ _ hm=>by cases hm;exact re) λ _ hm=>sq hm yX λ v3 hm=>sb hm λ v4 hv4 hm=>cl (λ q0=>(yX (hv4 q0)))<|si hm (λ _ hm=>by cases hm;exact re) λ _ hm=>sq hm Z0 λ v5 hm=>sq hm Jr λ v6 hm=>Xk [22] hm (λ g1=>⟨[(0,aV l_),(6,.ptr 0 0 0),(11,.ptr 1 0 0),(12,.ptr 2 0 0),(49,iV (l_.length:Int)),(50,iV g1.1)],[(0,some (.box [aL jH.On,av jH.bJ])),(1,some (.box [aL v5.On,av v5.bJ])),(2,some (.box [.dQ 3 0 g1.2.1 false,.dQ 4 0 g1.2.2.1 false,.dQ 5 0 g1.2.2.2.2.2.length false])),(3,some (.row 1 g1.2.2.2.1.length (bC AV.bool false g1.2.2.2.1))),(4,some (.row 1 g1.2.2.2.2.1.length (bC iV 0 g1.2.2.2.2.1))),(5,some (.row 3 g1.2.2.2.2.2.length (bC fE dI g1.2.2.2.2.2)))],6⟩) [(0,some 8),(1,some 264),(2,some 304),(3,some 288),(4,some 289),(5,none)] [] <|λ ah g1 hm=>by
 have h45:=hm.1
 have hm:=hm.2
 refine fQ hm (λ c8 hm=>?_) (λ c8 hm=>?_)
 ·(conv=>whnf)
  refine aO hm λ h13 hm=>?_
  (conv=>whnf)
  refine fQ hm (λ c9 hm=>?_) (λ c9 hm=>?_)
  ·(conv=>whnf)
   refine aO hm λ h14 hm=>?_
   (conv=>whnf)
   refine dh hm λ v11 akZ hm=>?_
   refine ⟨_,_,(uP akZ),?_⟩
   (conv=>whnf)
   have h15:=hm.1
   have hm:=hm.2
   refine dh hm λ v12 TL hm=>?_
   refine ⟨_,_,(tN TL),?_⟩
   (conv=>whnf)
   have h16:=hm.1
   have hm:=hm.2
   refine aO hm λ h17 hm=>?_
   (conv=>whnf)
   exact ⟨((g1.1+(1:Int)),v12.1,v12.2.1,v12.2.2.1,v11.2.2.1,v12.2.2.2),[(5,some 150)],[],hm,⟨rfl,⟨sr,r4,r4,r4,r2,r2,trivial⟩,⟨⟨sr,sr,trivial⟩,⟨sr,sr,trivial⟩,⟨⟨rfl,rfl,rfl,rfl,nofun⟩,⟨rfl,rfl,rfl,rfl,nofun⟩,⟨rfl,rfl,rfl,rfl,nofun⟩,trivial⟩,⟨rfl,rfl,(λ _ _=>.refl _)⟩,⟨rfl,rfl,(λ _ _=>.refl _)⟩,⟨rfl,rfl,(λ _ _=>.refl _)⟩,trivial⟩⟩⟩
  ·(conv=>whnf)
   refine aO hm λ h18 hm=>?_
   (conv=>whnf)
   exact ⟨((g1.1+(1:Int)),g1.2.1,g1.2.2.1,g1.2.2.2.1,g1.2.2.2.2.1,g1.2.2.2.2.2),[],[],hm,⟨rfl,⟨sr,r4,r4,r4,r2,r2,trivial⟩,⟨⟨sr,sr,trivial⟩,⟨sr,sr,trivial⟩,⟨⟨rfl,rfl,rfl,rfl,nofun⟩,⟨rfl,rfl,rfl,rfl,nofun⟩,⟨rfl,rfl,rfl,rfl,nofun⟩,trivial⟩,⟨rfl,rfl,(λ _ _=>.refl _)⟩,⟨rfl,rfl,(λ _ _=>.refl _)⟩,⟨rfl,rfl,(λ _ _=>.refl _)⟩,trivial⟩⟩⟩
 ·(conv=>whnf)
  refine aO hm λ h19 hm=>?_
  (conv=>whnf)
  refine nk (ct:=[22]) gZ dk hm (λ g2=>⟨[(6,.ptr 0 0 0),(12,.ptr 1 0 0),(14,iV g2.1)],[(0,some (.box [aL jH.On,av jH.bJ])),(1,some (.box [.dQ 2 0 g2.2.1 false,.dQ 3 0 g2.2.2.1 false,.dQ 4 0 g2.2.2.2.2.2.length false])),(2,some (.row 1 g2.2.2.2.1.length (bC AV.bool false g2.2.2.2.1))),(3,some (.row 1 g2.2.2.2.2.1.length (bC iV 0 g2.2.2.2.2.1))),(4,some (.row 3 g2.2.2.2.2.2.length (bC fE dI g2.2.2.2.2.2)))],5⟩) [(1,some 2),(2,some 3),(3,some 4),(4,some 5)] [] ⟨rfl,⟨r4,r4,r2,trivial⟩,⟨⟨sr,sr,trivial⟩,⟨⟨rfl,rfl,rfl,rfl,nofun⟩,⟨rfl,rfl,rfl,rfl,nofun⟩,⟨rfl,rfl,rfl,rfl,nofun⟩,trivial⟩,⟨rfl,rfl,(λ _ _=>.refl _)⟩,⟨rfl,rfl,(λ _ _=>.refl _)⟩,⟨rfl,rfl,(λ _ _=>.refl _)⟩,trivial⟩⟩ ?_
  intro dY g2 hm
  (conv=>whnf)
  have h44:=hm.1
  have hm:=hm.2
  refine fQ hm (λ c16 hm=>?_) (λ c16 hm=>?_)
  ·(conv=>whnf)
   refine QO (ct:=[22]) gZ dk dk (u6 jH g2 dY) r (λ g5=>⟨[(6,.ptr 0 0 0),(12,.ptr 1 0 0),(14,iV g2.1)],[(0,some (.box [aL jH.On,av jH.bJ])),(1,some (.box [.dQ 2 0 g5.1 false,.dQ 3 0 g5.2.1 false,.dQ 4 0 g5.2.2.2.length false])),(2,some (.row 1 g5.2.2.1.length (bC AV.bool false g5.2.2.1))),(3,some (.row 1 g2.2.2.2.2.1.length (bC iV 0 g2.2.2.2.2.1))),(4,some (.row 3 g5.2.2.2.length (bC fE dI g5.2.2.2)))],5⟩) ?_ (λ g5 hm=>?_)
   ·(conv=>whnf)
    refine aO hm λ h42 hm=>?_
    (conv=>whnf)
    refine fQ hm (λ c18 hm=>?_) (λ c18 hm=>?_)
    ·(conv=>whnf)
     refine dh hm λ v21 ave hm=>?_
     refine ⟨_,_,(tN ave),?_⟩
     (conv=>whnf)
     have h43:=hm.1
     have hm:=hm.2
     exact ⟨(v21.1,v21.2.1,v21.2.2.1,v21.2.2.2),[(4,some 85)],[],hm,⟨rfl,⟨r4,r4,r2,trivial⟩,⟨⟨sr,sr,trivial⟩,⟨⟨rfl,rfl,rfl,rfl,nofun⟩,⟨rfl,rfl,rfl,rfl,nofun⟩,⟨rfl,rfl,rfl,rfl,nofun⟩,trivial⟩,⟨rfl,rfl,(λ _ _=>.refl _)⟩,⟨rfl,rfl,(λ _ _=>.refl _)⟩,⟨rfl,rfl,(λ _ _=>.refl _)⟩,trivial⟩⟩⟩
    ·(conv=>whnf)
     exact ⟨(g2.2.1,g2.2.2.1,g2.2.2.2.1,g2.2.2.2.2.2),[],[],hm,⟨rfl,⟨r4,r4,r2,trivial⟩,⟨⟨sr,sr,trivial⟩,⟨⟨rfl,rfl,rfl,rfl,nofun⟩,⟨rfl,rfl,rfl,rfl,nofun⟩,⟨rfl,rfl,rfl,rfl,nofun⟩,trivial⟩,⟨rfl,rfl,(λ _ _=>.refl _)⟩,⟨rfl,rfl,(λ _ _=>.refl _)⟩,⟨rfl,rfl,(λ _ _=>.refl _)⟩,trivial⟩⟩⟩
   ·(conv=>whnf)
    have h41:=hm.1
    have hm:=hm.2
    refine aO hm λ h38 hm=>?_
    (conv=>whnf)
    refine dh hm λ v20 avf hm=>?_
    refine ⟨_,_,(uP avf),?_⟩
    (conv=>whnf)
    have h39:=hm.1
    have hm:=hm.2
    refine aO hm λ h40 hm=>?_
    (conv=>whnf)
    exact ⟨((g2.1 - (1:Int)),v20.1,v20.2.1,g5.2.2.1,v20.2.2.1,v20.2.2.2),[(4,some 61)],[],hm,⟨rfl,⟨r4,r4,r2,trivial⟩,⟨⟨sr,sr,trivial⟩,⟨⟨rfl,rfl,rfl,rfl,nofun⟩,⟨rfl,rfl,rfl,rfl,nofun⟩,⟨rfl,rfl,rfl,rfl,nofun⟩,trivial⟩,⟨rfl,rfl,(λ _ _=>.refl _)⟩,⟨rfl,rfl,(λ _ _=>.refl _)⟩,⟨rfl,rfl,(λ _ _=>.refl _)⟩,trivial⟩⟩⟩
  ·(conv=>whnf)
   have hm:r=(g2.2.2.2.2.2,(0:Int)):=hm
   subst hm
   refine ⟨[4],[],?_⟩
   (conv=>whnf)
   exact ⟨⟨rfl,trivial,trivial⟩,(by (conv=>whnf); exact ⟨(by (conv=>whnf); exact sf),(by (conv=>whnf); exact ⟨(by first | ((conv=>whnf); exact r2) | exact r2),trivial⟩)⟩)⟩
variable {p8:List ay} {ug:List aF} {GQ:List cB} {GR:List eF} {EZ:List dO}
theorem Qw {GN:Int} {a3_:List aS} {a4_:List Int} {r:List aN×Int} (hm:Ed p8 ug GN GQ GR EZ nO l9 yg zh sQ yh CX vW Np P9 Ea Nq a3_ a4_ r):S 36 [.ro [aW p8,aV ug,iV GN,bg GQ,dA GR,bV EZ],.ro [av nO,aL l9,av yg,bL zh,aL sQ,aL yh],.ro [av CX,aL vW,av Np,bL P9,aL Ea,aL Nq],.ro [dV a3_],.ro [av a4_]] [] (.jQ [iC r.1,iV r.2]) [] :=sp Tryz.func36 rfl<|sq hm VX λ v1 hm=>sq hm Z4 λ v2 hm=>by cases hm;exact re
theorem Qx {n_:aS} {r:List aX} (hm:Nr n_ r):S 104 [Cn n_] [] (eu r) [] :=sp Tryz.func104 rfl<|by cases hm;exact re
theorem EN {r:List aX} (hm:rH l_ aj r):S 103 [dV l_,av aj,.fn 104 []] [] (eu r) [] :=sp Tryz.func103 rfl<|lf hm (λ g1=>⟨[(0,dV l_),(2,.fn 104 []),(7,.dQ 0 0 g1.2.length false),(10,av aj),(11,iV (aj.length:Int)),(12,iV g1.1)],[(0,some (.row 3 g1.2.length (bC xS dK g1.2)))],1⟩) [(0,none)] [] <|λ ah g1 hm=>si hm (λ _ hm=>sn hm λ _ hm=>si hm (λ _ hm=>sn hm λ _ hm=>sq hm Qx λ v3 hm=>s2 hm λ _ _ hm=>lc [(0,some 153)] [] hm) λ _ hm=>sn hm λ _ hm=>le hm) λ _ hm=>by cases hm;exact rt [0] []
theorem Uz {r:List aX} (hm:Da l_ aj r):S 41 [dV l_,av aj] [] (eu r) [] :=sp Tryz.func41 rfl<|sq hm EN λ v1 hm=>by cases hm;exact re
theorem EO {l_:List ay} {s_:List Int} (hm:vg l_ s_ r):S 166 [aW l_,av s_] [] (.bool r) [] :=sp Tryz.func166 rfl<|sq hm mE λ v1 hm=>sb hm λ v2 hv2 hm=>cl (λ q0=>(qD (hv2 q0)))<|by cases hm;exact re
theorem SA {x_:aX} {lQ:List bK} (hm:vk x_ lQ r):S 231 [xS x_,.ro [mX lQ]] [] (.bool r) [] :=sp Tryz.func231 rfl<|s2 hm λ _ _ hm=>sb hm λ v1 hv1 hm=>cl (λ q0=>(oV (hv1 q0)))<|by cases hm;exact re
theorem xA {s_:List aX} {f_:List bK} {r:Int} (hm:qP s_ f_ r):S 256 [eu s_,.fn 231 [.ro [mX f_]]] [] (iV r) [] :=sp Tryz.func256 rfl<|l0 hm (λ g1=>⟨[(0,eu s_),(1,.fn 231 [.ro [mX f_]]),(7,iV (s_.length:Int)),(8,iV g1)],[],0⟩) <|λ ah g1 hm=>si hm (λ _ hm=>sn hm λ _ hm=>sq hm SA λ v3 hm=>si hm (λ _ hm=>by cases hm;exact re) λ _ hm=>sn hm λ _ hm=>le hm) λ _ hm=>by cases hm;exact re
theorem lZ {s_:List aX} {f_:List bK} (hm:je s_ f_ r):S 225 [eu s_,.fn 231 [.ro [mX f_]]] [] (.bool r) [] :=sp Tryz.func225 rfl<|sq hm xA λ v1 hm=>by cases hm;exact re
variable {oG:List aX}
theorem Js {l_:List ay} {s_:List Int} (hm:FL l_ s_ oG r):S 167 [aW l_,av s_,eu oG] [] (.bool r) [] :=sp Tryz.func167 rfl<|sq hm Jm λ v1 hm=>lf hm (λ g1=>⟨[(2,eu oG),(7,.ptr 0 0 0),(17,aW l_),(18,iV (l_.length:Int)),(19,iV g1)],[(0,some (.box [mX v1.1]))],1⟩) [(0,some 56)] [] <|λ ah g1 hm=>si hm (λ _ hm=>s2 hm λ _ _ hm=>sn hm λ _ hm=>sb hm λ v4 hv4 hm=>cl (λ q0=>(oV (hv4 q0)))<|si hm (λ _ hm=>by cases hm;exact re) λ _ hm=>sn hm λ _ hm=>le hm) λ _ hm=>sq hm lZ λ v5 hm=>by cases hm;exact re
theorem UA {l_:List ay} {from_:List Int} {jH:List Int} {r:(List ay×List aX×Int×(dR→Option Int))} (hm:Db l_ from_ jH oG r):S 98 [aW l_,av from_,av jH,eu oG] [] (.jQ [.agg [aW r.1,eu r.2.1,.mref 0],iV r.2.2.1]) [.map (.int .i64) [.bool] r.2.2.2] :=sp Tryz.func98 rfl<|sq hm mE λ v1 hm=>by
 have c1:=hm.1
 have hm:=hm.2
 refine fG (λ q=>Bool.noConfusion (c1.symm.trans q)) (λ _=>?_)
 (conv=>whnf)
 refine dh hm λ v3 hv3 hm=>?_
 refine ⟨_,_,(Gp hv3),?_⟩
 (conv=>whnf)
 refine dh hm λ v4 hv4 hm=>?_
 refine ⟨_,_,(λ q0=>(EO (hv4 q0))),?_⟩
 (conv=>whnf)
 refine dh hm λ v5 hv5 hm=>?_
 refine ⟨_,_,(λ q0=>(EO (hv5 q0))),?_⟩
 (conv=>whnf)
 have c2:=hm.1
 have hm:=hm.2
 refine fG (λ q=>Bool.noConfusion (c2.symm.trans q)) (λ _=>?_)
 (conv=>whnf)
 refine dh hm λ v6 hv6 hm=>?_
 refine ⟨_,_,(Js hv6),?_⟩
 (conv=>whnf)
 have c3:=hm.1
 have hm:=hm.2
 refine fG (λ _=>?_) (λ q=>Bool.noConfusion (q.symm.trans c3))
 (conv=>whnf)
 refine dh hm λ v7 hv7 hm=>?_
 refine ⟨_,_,(Js hv7),?_⟩
 (conv=>whnf)
 have c4:=hm.1
 have hm:=hm.2
 refine fG (λ q=>Bool.noConfusion (c4.symm.trans q)) (λ _=>?_)
 (conv=>whnf)
 have hm:r=(l_,oG,(0:Int),(λ _=>none)):=hm
 subst hm
 refine ⟨[],[(0,some 304)],?_⟩
 (conv=>whnf)
 exact ⟨⟨rfl,trivial,⟨⟨rfl,rfl,rfl⟩,trivial⟩⟩,⟨⟨sf,sf,r2,trivial⟩,r2,trivial⟩⟩
variable {jL:List ay} {AY:List aX}
theorem kW {x2_:dR→Option Int} {s_:List Int} {r:Int} (hm:jr jL AY x2_ s_ r):S 100 [.agg [aW jL,eu AY,.pm (.int .i64) [.bool] x2_],av s_] [] (iV r) [] :=sp Tryz.func100 rfl<|l0 hm (λ g1=>⟨[(2,.ptr 0 0 0),(5,iV g1.1),(8,av s_),(9,iV (s_.length:Int)),(10,iV g1.2)],[(0,some (.box [aW jL,eu AY,.pm (.int .i64) [.bool] x2_]))],1⟩) <|λ ah g1 hm=>si hm (λ _ hm=>s2 hm λ _ _ hm=>s2 hm λ _ _ hm=>sn hm λ _ hm=>le hm) λ _ hm=>by cases hm;exact re
variable {n_:Int}
theorem mZ {dx:dR→Option Int} {r:List Int} (hm:jM jL AY n_ dx r):S 169 [.agg [aW jL,eu AY,.mref 0],iV n_] [.map (.int .i64) [.bool] dx] (.dQ 1 0 r.length false) [.map (.int .i64) [.bool] dx,.row 1 r.length (bC iV 0 r)] :=sp Tryz.func169 rfl<|s2 hm λ _ _ hm=>lf hm (λ g1=>⟨[(1,iV g1.1),(2,.ptr 1 0 0),(5,.dQ 2 0 g1.2.2.length false),(6,iV g1.2.1)],[(0,some (.map (.int .i64) [.bool] dx)),(1,some (.box [aW jL,eu AY,.mref 0])),(2,some (.row 1 g1.2.2.length (bC iV 0 g1.2.2)))],3⟩) [(2,some 41)] [] <|λ ah g1 hm=>si hm (λ _ hm=>s2 hm λ _ _ hm=>s2 hm λ _ _ hm=>sn hm λ _ hm=>le hm) λ _ hm=>by cases hm;exact rt [] [(1,some 2)]
theorem Qy {l_:List ay} {dx:List Int} {r:List bK} (hm:yw l_ dx r):S 257 [aW l_,.dQ 0 0 dx.length false] [.row 1 dx.length (bC iV 0 dx)] (mX r) [.row 1 dx.length (bC iV 0 dx)] :=sp Tryz.func257 rfl<|sn hm λ _ hm=>lf hm (λ g1=>⟨[(0,aW l_),(1,.dQ 0 0 dx.length false),(5,.dQ 1 0 g1.2.length false),(13,aW l_),(14,iV (l_.length:Int)),(15,iV g1.1)],[(0,some (.row 1 dx.length (bC iV 0 dx))),(1,some (.row 2 g1.2.length (bC rT dW g1.2)))],2⟩) [(1,some 25)] [] <|λ ah g1 hm=>si hm (λ _ hm=>s2 hm λ _ _ hm=>sn hm λ _ hm=>sq hm Gq λ v7 hm=>si hm (λ _ hm=>s2 hm λ _ _ hm=>le hm) λ _ hm=>sn hm λ _ hm=>si hm (λ _ hm=>s2 hm λ _ _ hm=>le hm) λ _ hm=>si hm (λ _ hm=>sn hm λ _ hm=>sq hm OW λ v8 hm=>s2 hm λ _ _ hm=>le hm) λ _ hm=>si hm (λ _ hm=>sn hm λ _ hm=>sq hm LZ λ v9 hm=>s2 hm λ _ _ hm=>le hm) λ _ hm=>s2 hm λ _ _ hm=>sn hm λ _ hm=>le hm) λ _ hm=>by cases hm;exact rt [1] []
theorem Qz {l_:List ay} {dx:List Int} {r:List bK×Int} (hm:yx l_ dx r):S 229 [aW l_,.dQ 0 0 dx.length false] [.row 1 dx.length (bC iV 0 dx)] (.jQ [mX r.1,iV r.2]) [.row 1 dx.length (bC iV 0 dx)] :=sp Tryz.func229 rfl<|sq hm mE λ v1 hm=>si hm (λ _ hm=>by cases hm;exact re) λ _ hm=>sq hm qD λ v2 hm=>si hm (λ _ hm=>by cases hm;exact re) λ _ hm=>sq hm Qy λ v3 hm=>by cases hm;exact re
theorem QA {l_:List ay} {dx:List Int} (hm:Ef l_ oG dx r):S 167 [aW l_,.dQ 0 0 dx.length false,eu oG] [.row 1 dx.length (bC iV 0 dx)] (.bool r) [.row 1 dx.length (bC iV 0 dx)] :=sp Tryz.func167 rfl<|sq hm Qz λ v1 hm=>lf hm (λ g1=>⟨[(2,eu oG),(7,.ptr 1 0 0),(17,aW l_),(18,iV (l_.length:Int)),(19,iV g1)],[(0,some (.row 1 dx.length (bC iV 0 dx))),(1,some (.box [mX v1.1]))],2⟩) [(1,some 57)] [] <|λ ah g1 hm=>si hm (λ _ hm=>s2 hm λ _ _ hm=>sn hm λ _ hm=>sb hm λ v4 hv4 hm=>cl (λ q0=>(oV (hv4 q0)))<|si hm (λ _ hm=>by cases hm;exact re) λ _ hm=>sn hm λ _ hm=>le hm) λ _ hm=>sq hm lZ λ v5 hm=>by cases hm;exact re
theorem yZ {dx:dR→Option Int} {r:(Bool×(dR→Option Int))} (hm:nE jL AY n_ dx r):S 170 [.agg [aW jL,eu AY,.mref 0],iV n_] [.map (.int .i64) [.bool] dx] (.bool r.1) [.map (.int .i64) [.bool] r.2] :=sp Tryz.func170 rfl<|si hm (λ _ hm=>sq hm mZ λ v1 hm=>sq hm QA λ v2 hm=>by cases hm;exact re) λ _ hm=>by cases hm;exact re
variable {qO:List Int}
theorem Ck {vG:aN} {jH:Int} {KW:Nat} {KX:Nat} {wM:dR→Option Int} {r:(Nat×Nat×(dR→Option Int)×List Int)} (hm:jN vG jH KW KX wM qO r):S 168 [fE vG,iV jH,.ptr 0 0 0,.ptr 1 0 0] [.box [.mref 2],.box [.dQ 3 KW KX false],.map (.int .i64) [(.int .i64)] wM,.row 1 qO.length (bC iV 0 qO)] (.jQ []) [.box [.mref 2],.box [.dQ 4 r.1 r.2.1 false],.map (.int .i64) [(.int .i64)] r.2.2.1,aaV,.row 1 r.2.2.2.length (bC iV 0 r.2.2.2)] :=sp Tryz.func168 rfl<|by
 have h4:=hm.1
 have hm:=hm.2
 refine fQ hm (λ c1 hm=>?_) (λ c1 hm=>?_)
 ·(conv=>whnf)
  refine aO hm λ h1 hm=>?_
  (conv=>whnf)
  refine aO hm λ h2 hm=>?_
  (conv=>whnf)
  refine aO hm λ h3 hm=>?_
  (conv=>whnf)
  have hm:r=(0,(KX+1),(BD wM (.i jH) ((jU wM (.i (qO.getD (addN KW 0) 0)))+(1:Int))),(((qO.drop (KW)).take (KX))++([jH]:List Int))):=hm
  subst hm
  refine ⟨[],[(4,some 188)],?_⟩
  (conv=>whnf)
  exact ⟨⟨rfl,trivial,⟨⟨r2,trivial⟩,⟨⟨rfl,rfl,rfl,rfl,nofun⟩,trivial⟩,⟨rfl,rfl,rfl⟩,⟨rfl,oz,(iL oz (aia (a:=KW) (N:=qO.length) (λ _ _=>.refl _) (by first | omega | (simp; omega))) rfl (fM iV 0 [jH]))⟩,trivial⟩⟩,trivial⟩
 ·(conv=>whnf)
  have hm:r=(KW,KX,wM,qO):=hm
  subst hm
  refine ⟨[],[(4,some 3)],?_⟩
  (conv=>whnf)
  exact ⟨⟨rfl,trivial,⟨⟨r2,trivial⟩,⟨⟨rfl,rfl,rfl,rfl,nofun⟩,trivial⟩,⟨rfl,rfl,rfl⟩,⟨rfl,rfl,(λ _ _=>.refl _)⟩,trivial⟩⟩,trivial⟩
theorem Fg {dx:dR→Option Int} {aeh:Nat} {aei:Nat} {qO:dR→Option Int} {QZ:List Int} {r:((dR→Option Int)×Nat×Nat×(dR→Option Int)×List Int)} (hm:nG jL AY n_ dx aeh aei qO QZ r):S 101 [.agg [aW jL,eu AY,.mref 0],iV n_,.fn 168 [.ptr 1 0 0,.ptr 2 0 0]] [.map (.int .i64) [.bool] dx,.box [.mref 3],.box [.dQ 4 aeh aei false],.map (.int .i64) [(.int .i64)] qO,.row 1 QZ.length (bC iV 0 QZ)] (.jQ []) [.map (.int .i64) [.bool] r.1,.box [.mref 3],.box [.dQ 5 r.2.1 r.2.2.1 false],.map (.int .i64) [(.int .i64)] r.2.2.2.1,aaV,.row 1 r.2.2.2.2.length (bC iV 0 r.2.2.2.2)] :=sp Tryz.func101 rfl<|by
 have h71:=hm.1
 have hm:=hm.2
 refine dh hm λ v1 hv1 hm=>?_
 refine ⟨_,_,(mZ hv1),?_⟩
 (conv=>whnf)
 refine nk (ct:=[]) gZ dk hm (λ g1=>⟨[(2,.fn 168 [.ptr 1 0 0,.ptr 2 0 0]),(3,.ptr 5 0 0),(6,.dQ 6 0 g1.2.2.2.2.2.1.length false),(16,aW jL),(17,iV (jL.length:Int)),(18,iV g1.1)],[(0,some (.map (.int .i64) [.bool] g1.2.1)),(1,some (.box [.mref 3])),(2,some (.box [.dQ 7 g1.2.2.1 g1.2.2.2.1 false])),(3,some (.map (.int .i64) [(.int .i64)] g1.2.2.2.2.1)),(5,some (.box [aW jL,eu AY,.mref 0])),(6,some (.row 1 g1.2.2.2.2.2.1.length (bC iV 0 g1.2.2.2.2.2.1))),(7,some (.row 1 g1.2.2.2.2.2.2.length (bC iV 0 g1.2.2.2.2.2.2)))],8⟩) [(6,some 29),(7,some 4)] [] ⟨rfl,⟨⟨rfl,r4,r4,trivial⟩,r4,⟨rfl,rfl,rfl,rfl,nofun⟩,sr,r2,r2,trivial⟩,⟨⟨rfl,rfl,rfl⟩,⟨r2,trivial⟩,⟨⟨rfl,rfl,rfl,rfl,nofun⟩,trivial⟩,⟨rfl,rfl,rfl⟩,⟨sr,sr,r2,trivial⟩,⟨rfl,rfl,(λ _ _=>.refl _)⟩,⟨rfl,rfl,(λ _ _=>.refl _)⟩,trivial⟩⟩ ?_
 intro ah g1 hm
 (conv=>whnf)
 have h70:=hm.1
 have hm:=hm.2
 refine fQ hm (λ c21 hm=>?_) (λ c21 hm=>?_)
 ·(conv=>whnf)
  refine aO hm λ h47 hm=>?_
  (conv=>whnf)
  refine aO hm λ h48 hm=>?_
  (conv=>whnf)
  refine nk (ct:=[]) gZ dk hm (λ g4=>⟨[(2,.fn 168 [.ptr 1 0 0,.ptr 2 0 0]),(3,.ptr 5 0 0),(6,.dQ 6 0 g4.2.2.2.2.2.1.length false),(7,iV g1.1),(9,iV (g1.2.2.2.2.2.1.getD g1.1.toNat 0)),(16,aW jL),(17,iV (jL.length:Int)),(18,iV g1.1),(29,iV ((((jL.getD g1.1.toNat aI).aK).length:Nat):Int)),(30,iV g4.1)],[(0,some (.map (.int .i64) [.bool] g4.2.1)),(1,some (.box [.mref 3])),(2,some (.box [.dQ 7 g4.2.2.1 g4.2.2.2.1 false])),(3,some (.map (.int .i64) [(.int .i64)] g4.2.2.2.2.1)),(5,some (.box [aW jL,eu AY,.mref 0])),(6,some (.row 1 g4.2.2.2.2.2.1.length (bC iV 0 g4.2.2.2.2.2.1))),(7,some (.row 1 g4.2.2.2.2.2.2.length (bC iV 0 g4.2.2.2.2.2.2)))],8⟩) [] [] ⟨rfl,⟨⟨rfl,r4,r4,trivial⟩,r4,⟨rfl,rfl,rfl,rfl,nofun⟩,r2,r2,sr,r2,r2,r2,r2,trivial⟩,⟨⟨rfl,rfl,rfl⟩,⟨r2,trivial⟩,⟨⟨rfl,rfl,rfl,rfl,nofun⟩,trivial⟩,⟨rfl,rfl,rfl⟩,⟨sr,sr,r2,trivial⟩,⟨rfl,rfl,(λ _ _=>.refl _)⟩,⟨rfl,rfl,(λ _ _=>.refl _)⟩,trivial⟩⟩ ?_
  intro iN g4 hm
  (conv=>whnf)
  have h69:=hm.1
  have hm:=hm.2
  refine fQ hm (λ c28 hm=>?_) (λ c28 hm=>?_)
  ·(conv=>whnf)
   refine aO hm λ h61 hm=>?_
   (conv=>whnf)
   refine dh hm λ v26 alp hm=>?_
   refine ⟨_,_,((kW alp).le ⟨.refl _,(.sl oz (λ _=>rfl) nofun (rR (λ _ _=>.refl _) rfl (.refl _))),trivial⟩ trivial),?_⟩
   (conv=>whnf)
   refine fQ hm (λ c29 hm=>?_) (λ c29 hm=>?_)
   ·(conv=>whnf)
    refine dh hm λ v27 hv27 hm=>?_
    refine ⟨_,_,(yZ hv27),?_⟩
    (conv=>whnf)
    refine fQ hm (λ c30 hm=>?_) (λ c30 hm=>?_)
    ·(conv=>whnf)
     refine dh hm λ v28 hv28 hm=>?_
     refine ⟨_,_,(Ck hv28),?_⟩
     (conv=>whnf)
     have h62:=hm.1
     have hm:=hm.2
     refine aO hm λ h63 hm=>?_
     (conv=>whnf)
     exact ⟨((g4.1+(1:Int)),v27.2,v28.1,v28.2.1,v28.2.2.1,(g4.2.2.2.2.2.1.set (g1.1.toNat) g4.1),v28.2.2.2),[(7,some 208)],[],hm,⟨rfl,⟨⟨rfl,r4,r4,trivial⟩,r4,⟨rfl,rfl,rfl,oz,nofun⟩,r2,r2,sr,r2,r2,r2,r2,trivial⟩,⟨⟨rfl,rfl,rfl⟩,⟨r2,trivial⟩,⟨⟨rfl,rfl,rfl,rfl,nofun⟩,trivial⟩,⟨rfl,rfl,rfl⟩,⟨sr,sr,r2,trivial⟩,⟨rfl,oz,(rR (λ _ _=>.refl _) rfl (.refl _))⟩,⟨rfl,rfl,(λ _ _=>.refl _)⟩,trivial⟩⟩⟩
    ·(conv=>whnf)
     refine aO hm λ h64 hm=>?_
     (conv=>whnf)
     exact ⟨((g4.1+(1:Int)),v27.2,g4.2.2.1,g4.2.2.2.1,g4.2.2.2.2.1,(g4.2.2.2.2.2.1.set (g1.1.toNat) g4.1),g4.2.2.2.2.2.2),[],[],hm,⟨rfl,⟨⟨rfl,r4,r4,trivial⟩,r4,⟨rfl,rfl,rfl,oz,nofun⟩,r2,r2,sr,r2,r2,r2,r2,trivial⟩,⟨⟨rfl,rfl,rfl⟩,⟨r2,trivial⟩,⟨⟨rfl,rfl,rfl,rfl,nofun⟩,trivial⟩,⟨rfl,rfl,rfl⟩,⟨sr,sr,r2,trivial⟩,⟨rfl,oz,(rR (λ _ _=>.refl _) rfl (.refl _))⟩,⟨rfl,rfl,(λ _ _=>.refl _)⟩,trivial⟩⟩⟩
   ·(conv=>whnf)
    refine aO hm λ h65 hm=>?_
    (conv=>whnf)
    refine aO hm λ h66 hm=>?_
    (conv=>whnf)
    exact ⟨((g4.1+(1:Int)),g4.2.1,g4.2.2.1,g4.2.2.2.1,g4.2.2.2.2.1,(g4.2.2.2.2.2.1.set (g1.1.toNat) g4.1),g4.2.2.2.2.2.2),[],[],hm,⟨rfl,⟨⟨rfl,r4,r4,trivial⟩,r4,⟨rfl,rfl,rfl,oz,nofun⟩,r2,r2,sr,r2,r2,r2,r2,trivial⟩,⟨⟨rfl,rfl,rfl⟩,⟨r2,trivial⟩,⟨⟨rfl,rfl,rfl,rfl,nofun⟩,trivial⟩,⟨rfl,rfl,rfl⟩,⟨sr,sr,r2,trivial⟩,⟨rfl,oz,(rR (λ _ _=>.refl _) rfl (.refl _))⟩,⟨rfl,rfl,(λ _ _=>.refl _)⟩,trivial⟩⟩⟩
  ·(conv=>whnf)
   refine aO hm λ h67 hm=>?_
   (conv=>whnf)
   refine aO hm λ h68 hm=>?_
   (conv=>whnf)
   exact ⟨((g1.1+(1:Int)),g4.2.1,g4.2.2.1,g4.2.2.2.1,g4.2.2.2.2.1,(g4.2.2.2.2.2.1.set (g1.1.toNat) (g1.2.2.2.2.2.1.getD g1.1.toNat 0)),g4.2.2.2.2.2.2),[],[],hm,⟨rfl,⟨⟨rfl,r4,r4,trivial⟩,r4,⟨rfl,rfl,rfl,oz,nofun⟩,sr,r2,r2,trivial⟩,⟨⟨rfl,rfl,rfl⟩,⟨r2,trivial⟩,⟨⟨rfl,rfl,rfl,rfl,nofun⟩,trivial⟩,⟨rfl,rfl,rfl⟩,⟨sr,sr,r2,trivial⟩,⟨rfl,oz,(rR (λ _ _=>.refl _) rfl (.refl _))⟩,⟨rfl,rfl,(λ _ _=>.refl _)⟩,trivial⟩⟩⟩
 ·(conv=>whnf)
  have hm:r=(g1.2.1,g1.2.2.1,g1.2.2.2.1,g1.2.2.2.2.1,g1.2.2.2.2.2.2):=hm
  subst hm
  refine ⟨[],[(5,some 7)],?_⟩
  (conv=>whnf)
  exact ⟨⟨rfl,trivial,⟨⟨rfl,rfl,rfl⟩,⟨r2,trivial⟩,⟨⟨rfl,rfl,rfl,rfl,nofun⟩,trivial⟩,⟨rfl,rfl,rfl⟩,⟨rfl,rfl,(λ _ _=>.refl _)⟩,trivial⟩⟩,trivial⟩
theorem Jt {from_:Int} {dx:dR→Option Int} {r:((dR→Option Int)×(dR→Option Int))} (hm:qm jL AY from_ dx r):S 99 [.agg [aW jL,eu AY,.mref 0],iV from_] [.map (.int .i64) [.bool] dx] (.mref 1) [.map (.int .i64) [.bool] r.1,.map (.int .i64) [(.int .i64)] r.2] :=sp Tryz.func99 rfl<|lf hm (λ g1=>⟨[(2,.ptr 1 0 0),(5,.ptr 2 0 0),(6,.ptr 3 0 0)],[(0,some (.map (.int .i64) [.bool] g1.1)),(1,some (.box [aW jL,eu AY,.mref 0])),(2,some (.box [.mref 4])),(3,some (.box [.dQ 5 g1.2.1 g1.2.2.1 false])),(4,some (.map (.int .i64) [(.int .i64)] g1.2.2.2.1)),(5,some (.row 1 g1.2.2.2.2.length (bC iV 0 g1.2.2.2.2)))],6⟩) [(2,some 49),(3,some 81),(4,some 17),(5,some 73)] [] <|λ ah g1 hm=>by
 have h9:=hm.1
 have hm:=hm.2
 refine fQ hm (λ c3 hm=>?_) (λ c3 hm=>?_)
 ·(conv=>whnf)
  refine aO hm λ h6 hm=>?_
  (conv=>whnf)
  refine dh hm λ v3 hv3 hm=>?_
  refine ⟨_,_,(Fg hv3),?_⟩
  (conv=>whnf)
  have h7:=hm.1
  have hm:=hm.2
  refine aO hm λ h8 hm=>?_
  (conv=>whnf)
  exact ⟨(v3.1,(v3.2.1+1),(v3.2.2.1 - 1),v3.2.2.2.1,v3.2.2.2.2),[(3,some 86),(5,some 70)],[],hm,⟨rfl,⟨r4,r4,r4,trivial⟩,⟨⟨rfl,rfl,rfl⟩,⟨sr,sr,r2,trivial⟩,⟨r2,trivial⟩,⟨⟨rfl,rfl,rfl,rfl,nofun⟩,trivial⟩,⟨rfl,rfl,rfl⟩,⟨rfl,rfl,(λ _ _=>.refl _)⟩,trivial⟩⟩⟩
 ·(conv=>whnf)
  have hm:r=(g1.1,g1.2.2.2.1):=hm
  subst hm
  refine ⟨[],[(1,some 4)],?_⟩
  (conv=>whnf)
  exact ⟨⟨rfl,trivial,⟨⟨rfl,rfl,rfl⟩,⟨rfl,rfl,rfl⟩,trivial⟩⟩,r2⟩
theorem Mr {w_:aN} {jH:Int} {dx:Int} {wM:Int} {QZ:dR→Option Int} {Mx:List aN} {r:Int×List aN} (hm:uw w_ jH dx wM QZ Mx r):S 102 [fE w_,iV jH,.ptr 0 0 0,.ptr 1 0 0,.ptr 2 0 0,.ptr 3 0 0] [.box [iV dx],.box [.mref 4],.box [iV wM],.box [.dQ 5 0 Mx.length false],.map (.int .i64) [(.int .i64)] QZ,.row 3 Mx.length (bC fE dI Mx)] (.jQ []) [.box [iV r.1],.box [.mref 4],.box [iV wM],.box [.dQ 6 0 r.2.length false],.map (.int .i64) [(.int .i64)] QZ,aaV,.row 3 r.2.length (bC fE dI r.2)] :=sp Tryz.func102 rfl<|sn hm λ _ hm=>si hm (λ _ hm=>sn hm λ _ hm=>by cases hm;exact rt [] [(6,some 150)]) λ _ hm=>by cases hm;exact rt [] [(6,some 5)]
theorem Fh {dx:dR→Option Int} {GU:Int} {qO:Int} {Mx:dR→Option Int} {Yn:List aN} {r:((dR→Option Int)×Int×List aN)} (hm:nH jL AY n_ dx GU qO Mx Yn r):S 101 [.agg [aW jL,eu AY,.mref 0],iV n_,.fn 102 [.ptr 1 0 0,.ptr 2 0 0,.ptr 3 0 0,.ptr 4 0 0]] [.map (.int .i64) [.bool] dx,.box [iV GU],.box [.mref 5],.box [iV qO],.box [.dQ 6 0 Yn.length false],.map (.int .i64) [(.int .i64)] Mx,.row 3 Yn.length (bC fE dI Yn)] (.jQ []) [.map (.int .i64) [.bool] r.1,.box [iV r.2.1],.box [.mref 5],.box [iV qO],.box [.dQ 7 0 r.2.2.length false],.map (.int .i64) [(.int .i64)] Mx,aaV,.row 3 r.2.2.length (bC fE dI r.2.2)] :=sp Tryz.func101 rfl<|sq hm mZ λ v1 hm=>lf hm (λ g1=>⟨[(2,.fn 102 [.ptr 1 0 0,.ptr 2 0 0,.ptr 3 0 0,.ptr 4 0 0]),(3,.ptr 7 0 0),(6,.dQ 8 0 g1.2.2.2.1.length false),(16,aW jL),(17,iV (jL.length:Int)),(18,iV g1.1)],[(0,some (.map (.int .i64) [.bool] g1.2.1)),(1,some (.box [iV g1.2.2.1])),(2,some (.box [.mref 5])),(3,some (.box [iV qO])),(4,some (.box [.dQ 9 0 g1.2.2.2.2.length false])),(5,some (.map (.int .i64) [(.int .i64)] Mx)),(7,some (.box [aW jL,eu AY,.mref 0])),(8,some (.row 1 g1.2.2.2.1.length (bC iV 0 g1.2.2.2.1))),(9,some (.row 3 g1.2.2.2.2.length (bC fE dI g1.2.2.2.2)))],10⟩) [(8,some 31),(9,some 6)] [] <|λ ah g1 hm=>si hm (λ _ hm=>s2 hm λ _ _ hm=>l0 hm (λ g4=>⟨[(2,.fn 102 [.ptr 1 0 0,.ptr 2 0 0,.ptr 3 0 0,.ptr 4 0 0]),(3,.ptr 7 0 0),(6,.dQ 8 0 g4.2.2.2.1.length false),(7,iV g1.1),(9,iV (g1.2.2.2.1.getD g1.1.toNat 0)),(16,aW jL),(17,iV (jL.length:Int)),(18,iV g1.1),(29,iV ((((jL.getD g1.1.toNat aI).aK).length:Nat):Int)),(30,iV g4.1)],[(0,some (.map (.int .i64) [.bool] g4.2.1)),(1,some (.box [iV g4.2.2.1])),(2,some (.box [.mref 5])),(3,some (.box [iV qO])),(4,some (.box [.dQ 9 0 g4.2.2.2.2.length false])),(5,some (.map (.int .i64) [(.int .i64)] Mx)),(7,some (.box [aW jL,eu AY,.mref 0])),(8,some (.row 1 g4.2.2.2.1.length (bC iV 0 g4.2.2.2.1))),(9,some (.row 3 g4.2.2.2.2.length (bC fE dI g4.2.2.2.2)))],10⟩) <|λ iN g4 hm=>si hm (λ _ hm=>sn hm λ _ hm=>sb hm λ v26 alp hm=>cl ((kW alp).le ⟨.refl _,(.sl oz (λ _=>rfl) nofun (rR (λ _ _=>.refl _) rfl (.refl _))),trivial⟩ trivial)<|si hm (λ _ hm=>sq hm yZ λ v27 hm=>si hm (λ _ hm=>sq hm Mr λ v28 hm=>sn hm λ _ hm=>lc [(9,some 210)] [] hm) λ _ hm=>sn hm λ _ hm=>le hm) λ _ hm=>s2 hm λ _ _ hm=>le hm) λ _ hm=>s2 hm λ _ _ hm=>le hm) λ _ hm=>by cases hm;exact rt [] [(7,some 9)]
theorem VY {l_:List ay} {from_:List Int} {jH:List Int} {r:List aN×Int} (hm:FN l_ from_ jH oG r):S 40 [aW l_,av from_,av jH,eu oG] [] (.jQ [iC r.1,iV r.2]) [] :=sp Tryz.func40 rfl<|sq hm UA λ v1 hm=>si hm (λ _ hm=>by cases hm;exact re) λ _ hm=>sq hm kW λ v2 hm=>sq hm Jt λ v3 hm=>sq hm kW λ v4 hm=>si hm (λ _ hm=>by cases hm;exact re) λ _ hm=>lf hm (λ g1=>⟨[(10,.ptr 0 0 0),(12,.ptr 1 0 0),(13,iV g1.1),(16,.ptr 2 0 0)],[(0,some (.box [aW v1.1,eu v1.2.1,.mref 3])),(1,some (.box [.mref 4])),(2,some (.box [.dQ 5 0 g1.2.2.length false])),(3,some (.map (.int .i64) [.bool] g1.2.1)),(4,some (.map (.int .i64) [(.int .i64)] v3.2)),(5,some (.row 3 g1.2.2.length (bC fE dI g1.2.2)))],6⟩) [(0,some 80),(1,some 160),(2,some 288),(3,some 48),(4,some 152),(5,none)] [] <|λ ah g1 hm=>si hm (λ _ hm=>sq hm Fh λ v7 hm=>lc [(5,some 102)] [] hm) λ _ hm=>by cases hm;exact rt [5] []
theorem QB {GN:Int} {a3_:List aS} {a4_:List Int} {r:List aN×Int} (hm:Eh p8 ug GN GQ GR EZ nO l9 yg zh sQ yh CX vW Np P9 Ea Nq a3_ a4_ r):S 39 [.ro [aW p8,aV ug,iV GN,bg GQ,dA GR,bV EZ],.ro [av nO,aL l9,av yg,bL zh,aL sQ,aL yh],.ro [av CX,aL vW,av Np,bL P9,aL Ea,aL Nq],.ro [dV a3_],.ro [av a4_]] [] (.jQ [iC r.1,iV r.2]) [] :=sp Tryz.func39 rfl<|sq hm Uz λ v1 hm=>sq hm VY λ v2 hm=>by cases hm;exact re
theorem VZ {l_:List dO} {from_:List Bool} {jH:List Bool} {r:List aN×Int} (hm:FP l_ from_ jH r):S 43 [bV l_,aL from_,aL jH] [] (.jQ [iC r.1,iV r.2]) [] :=sp Tryz.func43 rfl<|sq hm yT λ v1 hm=>si hm (λ _ hm=>by cases hm;exact re) λ _ hm=>sq hm yY λ v2 hm=>sb hm λ v3 hv3 hm=>cl (λ q0=>(yY (hv3 q0)))<|si hm (λ _ hm=>by cases hm;exact re) λ _ hm=>lf hm (λ g1=>⟨[(1,aL from_),(2,aL jH),(8,.dQ 0 0 g1.2.1.length false),(9,.dQ 1 0 g1.2.2.length false),(25,iV (l_.length:Int)),(26,iV g1.1)],[(0,some (.row 3 g1.2.1.length (bC fE dI g1.2.1))),(1,some (.row 3 g1.2.2.length (bC fE dI g1.2.2)))],2⟩) [(0,none),(1,none)] [] <|λ ah g1 hm=>si hm (λ _ hm=>s2 hm λ _ _ hm=>si hm (λ _ hm=>s2 hm λ _ _ hm=>lc [(0,some 154)] [] hm) λ _ hm=>s2 hm λ _ _ hm=>si hm (λ _ hm=>s2 hm λ _ _ hm=>lc [(1,some 250)] [] hm) λ _ hm=>sn hm λ _ hm=>le hm) λ _ hm=>sq hm iO λ v4 hm=>by
 have h28:=hm.1
 have hm:=hm.2
 refine aO hm λ h29 hm=>?_
 (conv=>whnf)
 have hm:r=(((v4.take (g1.2.1.length))++g1.2.2),(0:Int)):=hm
 subst hm
 refine ⟨[42],[],?_⟩
 (conv=>whnf)
 exact ⟨⟨rfl,trivial,trivial⟩,(by (conv=>whnf); exact ⟨(by (conv=>whnf); exact ⟨oz,(λ _=>rfl),nofun,(iL oz (lX (f:=fE) (d:=dI) (by first | omega | exact Nat.min_le_left _ _ | exact Nat.le_trans (Nat.min_le_left _ _) om | (simp; omega))) rfl (λ _ _=>.refl _))⟩),(by (conv=>whnf); exact ⟨(by first | ((conv=>whnf); exact r2) | exact r2),trivial⟩)⟩)⟩
theorem QC {GN:Int} {r:List aN×Int} (hm:Ei p8 ug GN GQ GR EZ nO l9 yg zh sQ yh CX vW Np P9 Ea Nq r):S 42 [.ro [aW p8,aV ug,iV GN,bg GQ,dA GR,bV EZ],.ro [av nO,aL l9,av yg,bL zh,aL sQ,aL yh],.ro [av CX,aL vW,av Np,bL P9,aL Ea,aL Nq]] [] (.jQ [iC r.1,iV r.2]) [] :=sp Tryz.func42 rfl<|sq hm VZ λ v1 hm=>by cases hm;exact re
theorem QD {lQ:dR→Option Int} {r:List aN×Int} (hm:Ej lQ a2_ r):S 44 [.ro [.fn 33 []],.ro [.pm (.int .i64) [(.int .i64)] lQ],.ro [.pm (.int .i64) [(.int .i64)] a2_]] [] (.jQ [iC r.1,iV r.2]) [] :=sp Tryz.func44 rfl<|sq hm CG λ v1 hm=>by cases hm;exact re
theorem QE {p8:List Int} {ug:List Bool} {GN:List Int} {GQ:List aP} {GR:List Bool} {EZ:List Bool} {acj:List Int} {acn:List Bool} {aco:List Int} {acp:List aP} {Tn:List Bool} {Tq:List Bool} {r:List aN×Int} (hm:El p8 ug GN GQ GR EZ acj acn aco acp Tn Tq r):S 45 [.ro [.fn 31 [.ro [av p8,aL ug,av GN,bL GQ,aL GR,aL EZ],.ro [av acj,aL acn,av aco,bL acp,aL Tn,aL Tq]]]] [] (.jQ [iC r.1,iV r.2]) [] :=sp Tryz.func45 rfl<|sq hm CF λ v1 hm=>by cases hm;exact re
theorem sD {jH:aR} {r:Int×List aN} (hm:qo b_ l_ from_ jH kD r):S 10 [iX b_,dV l_,iw from_,iw jH,av kD] [] (.jQ [.dQ 0 0 r.2.length false,iV r.1]) [.row 3 r.2.length (bC fE dI r.2)] :=sp Tryz.func10 rfl<|sq hm Sy λ v1 hm=>si hm (λ _ hm=>by cases hm;exact rt [] [(0,none)]) λ _ hm=>sq hm uS λ v2 hm=>sq hm uS λ v3 hm=>by
 refine WR 8 ?_
 refine jg (ct:=[]) gZ dk ?_
 (conv=>whnf)
 refine aO hm λ h1 hm=>?_
 (conv=>whnf)
 refine dh hm λ v4 hv4 hm=>?_
 refine ⟨_,_,(Qu hv4),?_⟩
 (conv=>whnf)
 refine fQ hm (λ c2 hm=>?_) (λ c2 hm=>?_)
 ·(conv=>whnf)
  have hm:r=(v4.2,([]:List aN)):=hm
  subst hm
  refine ⟨[],[(0,none)],?_⟩
  (conv=>whnf)
  exact ⟨⟨rfl,trivial,⟨rfl,trivial⟩⟩,⟨⟨rfl,rfl,rfl,rfl,rfl,rfl⟩,r2,trivial⟩⟩
 ·(conv=>whnf)
  refine aO hm λ h2 hm=>?_
  (conv=>whnf)
  refine aO hm λ h3 hm=>?_
  (conv=>whnf)
  refine jg (ct:=[]) gZ dk ?_
  (conv=>whnf)
  refine aO hm λ h4 hm=>?_
  (conv=>whnf)
  refine dh hm λ v5 hv5 hm=>?_
  refine ⟨_,_,(Qv hv5),?_⟩
  (conv=>whnf)
  refine fQ hm (λ c3 hm=>?_) (λ c3 hm=>?_)
  ·(conv=>whnf)
   have hm:r=(v5.2,([]:List aN)):=hm
   subst hm
   refine ⟨[],[(0,none)],?_⟩
   (conv=>whnf)
   exact ⟨⟨rfl,trivial,⟨rfl,trivial⟩⟩,⟨⟨rfl,rfl,rfl,rfl,rfl,rfl⟩,r2,trivial⟩⟩
  ·(conv=>whnf)
   refine aO hm λ h5 hm=>?_
   (conv=>whnf)
   refine aO hm λ h6 hm=>?_
   (conv=>whnf)
   refine jg (ct:=[]) gZ dk ?_
   (conv=>whnf)
   refine aO hm λ h7 hm=>?_
   (conv=>whnf)
   refine dh hm λ v6 hv6 hm=>?_
   refine ⟨_,_,(Qw hv6),?_⟩
   (conv=>whnf)
   refine fQ hm (λ c4 hm=>?_) (λ c4 hm=>?_)
   ·(conv=>whnf)
    have hm:r=(v6.2,([]:List aN)):=hm
    subst hm
    refine ⟨[],[(0,none)],?_⟩
    (conv=>whnf)
    exact ⟨⟨rfl,trivial,⟨rfl,trivial⟩⟩,⟨⟨rfl,rfl,rfl,rfl,rfl,rfl⟩,r2,trivial⟩⟩
   ·(conv=>whnf)
    refine aO hm λ h8 hm=>?_
    (conv=>whnf)
    refine aO hm λ h9 hm=>?_
    (conv=>whnf)
    refine jg (ct:=[]) gZ dk ?_
    (conv=>whnf)
    refine aO hm λ h10 hm=>?_
    (conv=>whnf)
    refine dh hm λ v7 hv7 hm=>?_
    refine ⟨_,_,(QB hv7),?_⟩
    (conv=>whnf)
    refine fQ hm (λ c5 hm=>?_) (λ c5 hm=>?_)
    ·(conv=>whnf)
     have hm:r=(v7.2,([]:List aN)):=hm
     subst hm
     refine ⟨[],[(0,none)],?_⟩
     (conv=>whnf)
     exact ⟨⟨rfl,trivial,⟨rfl,trivial⟩⟩,⟨⟨rfl,rfl,rfl,rfl,rfl,rfl⟩,r2,trivial⟩⟩
    ·(conv=>whnf)
     refine aO hm λ h11 hm=>?_
     (conv=>whnf)
     refine aO hm λ h12 hm=>?_
     (conv=>whnf)
     refine jg (ct:=[]) gZ dk ?_
     (conv=>whnf)
     refine aO hm λ h13 hm=>?_
     (conv=>whnf)
     refine dh hm λ v8 DJ hm=>?_
     refine ⟨_,_,(QC DJ),?_⟩
     (conv=>whnf)
     refine fQ hm (λ c6 hm=>?_) (λ c6 hm=>?_)
     ·(conv=>whnf)
      have hm:r=(v8.2,([]:List aN)):=hm
      subst hm
      refine ⟨[],[(0,none)],?_⟩
      (conv=>whnf)
      exact ⟨⟨rfl,trivial,⟨rfl,trivial⟩⟩,⟨⟨rfl,rfl,rfl,rfl,rfl,rfl⟩,r2,trivial⟩⟩
     ·(conv=>whnf)
      refine aO hm λ h14 hm=>?_
      (conv=>whnf)
      refine aO hm λ h15 hm=>?_
      (conv=>whnf)
      refine jg (ct:=[]) gZ dk ?_
      (conv=>whnf)
      refine aO hm λ h16 hm=>?_
      (conv=>whnf)
      refine dh hm λ v9 hv9 hm=>?_
      refine ⟨_,_,(QD hv9),?_⟩
      (conv=>whnf)
      refine fQ hm (λ c7 hm=>?_) (λ c7 hm=>?_)
      ·(conv=>whnf)
       have hm:r=(v9.2,([]:List aN)):=hm
       subst hm
       refine ⟨[],[(0,none)],?_⟩
       (conv=>whnf)
       exact ⟨⟨rfl,trivial,⟨rfl,trivial⟩⟩,⟨⟨rfl,rfl,rfl,rfl,rfl,rfl⟩,r2,trivial⟩⟩
      ·(conv=>whnf)
       refine aO hm λ h17 hm=>?_
       (conv=>whnf)
       refine aO hm λ h18 hm=>?_
       (conv=>whnf)
       refine jg (ct:=[]) gZ dk ?_
       (conv=>whnf)
       refine aO hm λ h19 hm=>?_
       (conv=>whnf)
       refine dh hm λ v10 Jc hm=>?_
       refine ⟨_,_,(QE Jc),?_⟩
       (conv=>whnf)
       refine fQ hm (λ c8 hm=>?_) (λ c8 hm=>?_)
       ·(conv=>whnf)
        have hm:r=(v10.2,([]:List aN)):=hm
        subst hm
        refine ⟨[],[(0,none)],?_⟩
        (conv=>whnf)
        exact ⟨⟨rfl,trivial,⟨rfl,trivial⟩⟩,⟨⟨rfl,rfl,rfl,rfl,rfl,rfl⟩,r2,trivial⟩⟩
       ·(conv=>whnf)
        refine aO hm λ h20 hm=>?_
        (conv=>whnf)
        refine aO hm λ h21 hm=>?_
        (conv=>whnf)
        refine jg (ct:=[]) gZ dk ?_
        (conv=>whnf)
        refine fQ hm (λ c9 hm=>?_) (λ c9 hm=>?_)
        ·(conv=>whnf)
         have hm:r=((3:Int),([]:List aN)):=hm
         subst hm
         refine ⟨[],[(0,none)],?_⟩
         (conv=>whnf)
         exact ⟨⟨rfl,trivial,⟨rfl,trivial⟩⟩,⟨⟨rfl,rfl,rfl,rfl,rfl,rfl⟩,r2,trivial⟩⟩
        ·(conv=>whnf)
         have hm:r=((0:Int),((((((v4.1++v5.1)++v6.1)++v7.1)++v8.1)++v9.1)++v10.1)):=hm
         subst hm
         refine ⟨[],[(0,some 1384)],?_⟩
         (conv=>whnf)
         exact ⟨⟨rfl,trivial,⟨⟨rfl,oz,(iL oz (iL oz (iL oz (iL oz (iL oz (iL rfl (λ _ _=>.refl _) rfl (λ _ _=>.refl _)) rfl (λ _ _=>.refl _)) rfl (λ _ _=>.refl _)) rfl (λ _ _=>.refl _)) rfl (λ _ _=>.refl _)) rfl (λ _ _=>.refl _))⟩,trivial⟩⟩,⟨⟨rfl,rfl,rfl,oz,nofun⟩,r2,trivial⟩⟩
theorem EP {r:List aP} (hm:zx s_ r):S 173 [bL s_] [] (.dQ 0 0 r.length false) [.row 3 r.length (bC mM bF r)] :=by
 obtain ⟨h1,hm⟩:=hm
 have hm:r=s_:=hm
 subst hm
 refine vS (ct:=[1]) gZ Tryz.func173 rfl rfl (Nat.le_of_ble_eq_true rfl) dk (Nat.le_of_ble_eq_true rfl) ?_
 (conv=>whnf)
 refine Y9 (ct:=[]) gZ (gZ.slice (t:=39) (e:=65) rfl rfl rfl).1 dk dk dk dk dk [(2,.sl 0 0 true dN),(0,bL r)] [] 8 rfl ?_ (λ hn=>?_) ?_
 ·exact rfl
 ·(conv=>whnf)
  have hn:r.length=0:=hn
  refine ⟨[],[(0,none)],?_⟩
  (conv=>whnf)
  exact ⟨⟨rfl,trivial,⟨hn,trivial⟩⟩,⟨rfl,rfl,rfl,rfl,rfl,hn⟩⟩
 ·(conv=>whnf)
  refine ⟨by rw [Nat.zero_add]; exact h1,?_⟩
  (conv=>whnf)
  refine ⟨[],[(0,some 24)],?_⟩
  (conv=>whnf)
  exact ⟨⟨rfl,trivial,⟨⟨rfl,Nat.zero_add _,iL (l:=[]) rfl (λ _ h=>absurd h (Nat.not_lt_zero _)) rfl (λ _ _=>.refl _)⟩,trivial⟩⟩,⟨rfl,rfl,rfl,Nat.zero_add _,nofun⟩⟩
theorem tO {r:List Int×List Bool×List Int×List aP×List Bool×List Bool} (hm:DF g_ r):S 108 [iw g_] [] (.agg [.dQ 0 0 r.1.length false,.dQ 1 0 r.2.1.length false,.dQ 2 0 r.2.2.1.length false,.dQ 3 0 r.2.2.2.1.length false,.dQ 4 0 r.2.2.2.2.1.length false,.dQ 5 0 r.2.2.2.2.2.length false]) [.row 1 r.1.length (bC iV 0 r.1),.row 1 r.2.1.length (bC AV.bool false r.2.1),.row 1 r.2.2.1.length (bC iV 0 r.2.2.1),.row 3 r.2.2.2.1.length (bC mM bF r.2.2.2.1),.row 1 r.2.2.2.2.1.length (bC AV.bool false r.2.2.2.2.1),.row 1 r.2.2.2.2.2.length (bC AV.bool false r.2.2.2.2.2)] :=sp Tryz.func108 rfl<|sq hm rP λ v1 hm=>sq hm OX λ v2 hm=>sq hm EP λ v3 hm=>sq hm mq λ v4 hm=>sq hm mq λ v5 hm=>by cases hm;exact rt [] [(0,some 32),(1,some 56),(2,some 57),(3,some 80),(4,some 104),(5,some 128)]
theorem CJ {at_:Int} {x_:Bool} {dx:List Bool} {r:Bool×List Bool} (hm:Em at_ x_ dx r):S 183 [.dQ 0 0 dx.length false,iV at_,.bool x_] [.row 1 dx.length (bC AV.bool false dx)] (.bool r.1) [.row 1 r.2.length (bC AV.bool false r.2)] :=sp Tryz.func183 rfl<|by
 have c1:=hm.1
 have hm:=hm.2
 refine fG (λ q=>Bool.noConfusion (c1.symm.trans q)) (λ _=>?_)
 (conv=>whnf)
 refine aO hm λ h1 hm=>?_
 (conv=>whnf)
 have hm:r=(true,(dx.set (at_.toNat) x_)):=hm
 subst hm
 refine ⟨[],[],?_⟩
 (conv=>whnf)
 exact ⟨⟨rfl,trivial,⟨⟨rfl,oz,(rR (λ _ _=>.refl _) rfl (.refl _))⟩,trivial⟩⟩,rfl⟩
theorem V3 {w_:aN} {GU:List Int} {wM:List Bool} {QZ:List aP} {Mx:List Bool} {Yn:List Bool} {r:Bool×List Bool} (hm:WT w_ GU wM qO QZ Mx Yn r):S 110 [.ptr 0 0 0,fE w_] [.box [.dQ 1 0 GU.length false,.dQ 2 0 wM.length false,.dQ 3 0 qO.length false,.dQ 4 0 QZ.length false,.dQ 5 0 Mx.length false,.dQ 6 0 Yn.length false],.row 1 GU.length (bC iV 0 GU),.row 1 wM.length (bC AV.bool false wM),.row 1 qO.length (bC iV 0 qO),.row 3 QZ.length (bC mM bF QZ),.row 1 Mx.length (bC AV.bool false Mx),.row 1 Yn.length (bC AV.bool false Yn)] (.bool r.1) [.box [.dQ 1 0 GU.length false,.dQ 2 0 wM.length false,.dQ 3 0 qO.length false,.dQ 4 0 QZ.length false,.dQ 5 0 r.2.length false,.dQ 6 0 Yn.length false],.row 1 GU.length (bC iV 0 GU),.row 1 wM.length (bC AV.bool false wM),.row 1 qO.length (bC iV 0 qO),.row 3 QZ.length (bC mM bF QZ),.row 1 r.2.length (bC AV.bool false r.2),.row 1 Yn.length (bC AV.bool false Yn)] :=sp Tryz.func110 rfl<|by
 have c1:=hm.1
 have hm:=hm.2
 refine fG (λ q=>Bool.noConfusion (c1.symm.trans q)) (λ _=>?_)
 (conv=>whnf)
 have c2:=hm.1
 have hm:=hm.2
 refine fG (λ q=>Bool.noConfusion (c2.symm.trans q)) (λ _=>?_)
 (conv=>whnf)
 have c3:=hm.1
 have hm:=hm.2
 refine fG (λ q=>Bool.noConfusion (c3.symm.trans q)) (λ _=>?_)
 (conv=>whnf)
 have c4:=hm.1
 have hm:=hm.2
 refine fG (λ q=>Bool.noConfusion (c4.symm.trans q)) (λ _=>?_)
 (conv=>whnf)
 have c5:=hm.1
 have hm:=hm.2
 refine fG (λ _=>?_) (λ q=>Bool.noConfusion (q.symm.trans c5))
 (conv=>whnf)
 have c6:=hm.1
 have hm:=hm.2
 refine fG (λ _=>?_) (λ q=>Bool.noConfusion (q.symm.trans c6))
 (conv=>whnf)
 refine dh hm λ v1 hv1 hm=>?_
 refine ⟨_,_,(CJ hv1),?_⟩
 (conv=>whnf)
 have h1:=hm.1
 have hm:=hm.2
 have hm:r=(((decide (w_.Value≤(1:Int)))&&v1.1),v1.2):=hm
 subst hm
 refine ⟨[],[],?_⟩
 (conv=>whnf)
 exact ⟨⟨rfl,trivial,⟨⟨⟨rfl,rfl,rfl,rfl,nofun⟩,⟨rfl,rfl,rfl,rfl,nofun⟩,⟨rfl,rfl,rfl,rfl,nofun⟩,⟨rfl,rfl,rfl,rfl,nofun⟩,⟨rfl,rfl,rfl,(by first | omega | (simp; omega)),nofun⟩,⟨rfl,rfl,rfl,rfl,nofun⟩,trivial⟩,⟨rfl,rfl,(λ _ _=>.refl _)⟩,⟨rfl,rfl,(λ _ _=>.refl _)⟩,⟨rfl,rfl,(λ _ _=>.refl _)⟩,⟨rfl,rfl,(λ _ _=>.refl _)⟩,⟨rfl,rfl,(λ _ _=>.refl _)⟩,⟨rfl,rfl,(λ _ _=>.refl _)⟩,trivial⟩⟩,rfl⟩
theorem zU {w_:aN} {r:aR×Int} (hm:FQ b_ g_ w_ r):S 122 [iX b_,iw g_,fE w_] [] (.jQ [iw r.1,iV r.2]) [] :=sp Tryz.func122 rfl<|sq hm tO λ v1 hm=>sq hm V3 λ v2 hm=>by
 have h1:=hm.1
 have hm:=hm.2
 have c1:=hm.1
 have hm:=hm.2
 refine fG (λ q=>Bool.noConfusion (c1.symm.trans q)) (λ _=>?_)
 (conv=>whnf)
 have hm:r=((⟨v1.1,(⟨v1.2.1,v1.2.2.1⟩:bD),v1.2.2.2.1,v2.2,v1.2.2.2.2.2⟩:aR),(0:Int)):=hm
 subst hm
 refine ⟨[48,49,50,51,52,53],[],?_⟩
 (conv=>whnf)
 exact ⟨⟨rfl,trivial,trivial⟩,(by (conv=>whnf); exact ⟨(by (conv=>whnf); exact ⟨(by (conv=>whnf); exact sf),(by (conv=>whnf); exact ⟨(by (conv=>whnf); exact sf),(by (conv=>whnf); exact ⟨(by (conv=>whnf); exact sf),(by (conv=>whnf); exact ⟨(by (conv=>whnf); exact sf),(by (conv=>whnf); exact ⟨(by (conv=>whnf); exact sf),(by (conv=>whnf); exact ⟨(by (conv=>whnf); exact sf),trivial⟩)⟩)⟩)⟩)⟩)⟩),(by (conv=>whnf); exact ⟨(by first | ((conv=>whnf); exact r2) | exact r2),trivial⟩)⟩)⟩
theorem OY {is_:Bool} {r:Int} (hm:KZ is_ r):S 197 [.bool is_] [] (iV r) [] :=sp Tryz.func197 rfl<|si hm (λ _ hm=>by cases hm;exact re) λ _ hm=>by cases hm;exact re
theorem wC {w_:aN} {r:Int} (hm:Ac g_ w_ r):S 123 [iw g_,fE w_] [] (iV r) [] :=sp Tryz.func123 rfl<|by
 have c1:=hm.1
 have hm:=hm.2
 refine fG (λ q=>Bool.noConfusion (c1.symm.trans q)) (λ _=>?_)
 (conv=>whnf)
 have c2:=hm.1
 have hm:=hm.2
 refine fG (λ q=>Bool.noConfusion (c2.symm.trans q)) (λ _=>?_)
 (conv=>whnf)
 have c3:=hm.1
 have hm:=hm.2
 refine fG (λ q=>Bool.noConfusion (c3.symm.trans q)) (λ _=>?_)
 (conv=>whnf)
 have c4:=hm.1
 have hm:=hm.2
 refine fG (λ _=>?_) (λ q=>Bool.noConfusion (q.symm.trans c4))
 (conv=>whnf)
 refine aO hm λ h1 hm=>?_
 (conv=>whnf)
 refine dh hm λ v1 hv1 hm=>?_
 refine ⟨_,_,(OY hv1),?_⟩
 (conv=>whnf)
 have hm:r=v1:=hm
 subst hm
 refine ⟨[],[],?_⟩
 (conv=>whnf)
 exact ⟨⟨rfl,trivial,trivial⟩,r2⟩
theorem ER {dx:List aN} {r:aR×List aN×Int} (hm:GX b_ g_ dx r):S 50 [iX b_,iw g_,.dQ 0 0 dx.length false] [.row 3 dx.length (bC fE dI dx)] (.jQ [iw r.1,iC r.2.1,iV r.2.2]) [.row 3 dx.length (bC fE dI dx)] :=sp Tryz.func50 rfl<|lf hm (λ g1=>⟨[(3,.ptr 1 0 0),(4,.ptr 2 0 0),(6,.ptr 3 0 0),(9,.dQ 4 0 g1.2.2.2.2.2.2.2.length false),(14,.dQ 0 0 dx.length false),(15,iV (dx.length:Int)),(16,iV g1.1)],[(0,some (.row 3 dx.length (bC fE dI dx))),(1,some (.box [aW b_.bS,aV b_.bI,iV b_.aZ.bZ,bg b_.aZ.aH,dA b_.bA,bV b_.dD])),(2,some (.box [av g1.2.1,aL g1.2.2.1,av g1.2.2.2.1,bL g1.2.2.2.2.1,aL g1.2.2.2.2.2.1,aL g1.2.2.2.2.2.2.1])),(3,some (.box [.sl 0 0 true dN,.sl 0 0 true dN,.sl 0 0 true dN,.sl 0 0 true dN,.sl 0 0 true dN,.sl 0 0 true dN])),(4,some (.row 3 g1.2.2.2.2.2.2.2.length (bC fE dI g1.2.2.2.2.2.2.2)))],5⟩) [(2,some 9),(3,some 17),(4,none)] [] <|λ ah g1 hm=>si hm (λ _ hm=>sn hm λ _ hm=>sq hm zU λ v5 hm=>by
 have c6:=hm.1
 have hm:=hm.2
 refine fG (λ q=>Bool.noConfusion (c6.symm.trans q)) (λ _=>?_)
 (conv=>whnf)
 refine dh hm λ v6 hv6 hm=>?_
 refine ⟨_,_,(wC hv6),?_⟩
 (conv=>whnf)
 refine aO hm λ h8 hm=>?_
 (conv=>whnf)
 refine aO hm λ h9 hm=>?_
 (conv=>whnf)
 exact ⟨((g1.1+(1:Int)),v5.1.Setting,v5.1.bX.On,v5.1.bX.bJ,v5.1.Uses,v5.1.Released,v5.1.cO,(g1.2.2.2.2.2.2.2++([(⟨(dx.getD g1.1.toNat dI).fC,(dx.getD g1.1.toNat dI).Unit,v6⟩:aN)]:List aN))),[(4,some 221)],[],hm,⟨rfl,⟨r4,r4,r4,⟨rfl,rfl,rfl,oz,nofun⟩,⟨rfl,rfl,rfl,rfl,nofun⟩,r2,r2,trivial⟩,⟨⟨rfl,rfl,(λ _ _=>.refl _)⟩,⟨sr,sr,r2,sr,sr,sr,trivial⟩,⟨sf,sf,sf,sf,sf,sf,trivial⟩,⟨sr,sr,sr,sr,sr,sr,trivial⟩,⟨rfl,oz,(iL rfl (λ _ _=>.refl _) rfl (fM fE dI [(⟨(dx.getD g1.1.toNat dI).fC,(dx.getD g1.1.toNat dI).Unit,v6⟩:aN)]))⟩,trivial⟩⟩⟩) λ _ hm=>sq hm iO λ v7 hm=>by
 have h10:=hm.1
 have hm:=hm.2
 refine dh hm λ v8 DJ hm=>?_
 refine ⟨_,_,(tO DJ),?_⟩
 (conv=>whnf)
 have hm:r=((⟨v8.1,(⟨v8.2.1,v8.2.2.1⟩:bD),v8.2.2.2.1,v8.2.2.2.2.1,v8.2.2.2.2.2⟩:aR),(v7.take (g1.2.2.2.2.2.2.2.length)),(0:Int)):=hm
 subst hm
 refine ⟨[37,38,39,40,41,42,4],[],?_⟩
 (conv=>whnf)
 exact ⟨⟨rfl,trivial,⟨⟨rfl,rfl,(λ _ _=>.refl _)⟩,trivial⟩⟩,(by (conv=>whnf); exact ⟨(by (conv=>whnf); exact ⟨(by (conv=>whnf); exact sf),(by (conv=>whnf); exact ⟨(by (conv=>whnf); exact sf),(by (conv=>whnf); exact ⟨(by (conv=>whnf); exact sf),(by (conv=>whnf); exact ⟨(by (conv=>whnf); exact sf),(by (conv=>whnf); exact ⟨(by (conv=>whnf); exact sf),(by (conv=>whnf); exact ⟨(by (conv=>whnf); exact sf),trivial⟩)⟩)⟩)⟩)⟩)⟩),(by (conv=>whnf); exact ⟨(by (conv=>whnf); exact ⟨oz,(λ _=>rfl),nofun,(lX (f:=fE) (d:=dI) (by first | omega | exact Nat.min_le_left _ _ | exact Nat.le_trans (Nat.min_le_left _ _) om | (simp; omega)))⟩),(by (conv=>whnf); exact ⟨(by first | ((conv=>whnf); exact r2) | exact r2),trivial⟩)⟩)⟩)⟩
theorem UC {dx:List aN} {r:List aN×Int} (hm:Tw b_ from_ dx r):S 13 [iX b_,iw from_,.dQ 0 0 dx.length false] [.row 3 dx.length (bC fE dI dx)] (.jQ [iC r.1,iV r.2]) [.row 3 dx.length (bC fE dI dx)] :=sp Tryz.func13 rfl<|sq hm ER λ v1 hm=>by cases hm;exact re
variable {w_:List aN}
theorem mQ {r:aR×List aN×Int} (hm:oH b_ g_ w_ r):S 50 [iX b_,iw g_,iC w_] [] (.jQ [iw r.1,iC r.2.1,iV r.2.2]) [] :=sp Tryz.func50 rfl<|lf hm (λ g1=>⟨[(3,.ptr 0 0 0),(4,.ptr 1 0 0),(6,.ptr 2 0 0),(9,.dQ 3 0 g1.2.2.2.2.2.2.2.length false),(14,iC w_),(15,iV (w_.length:Int)),(16,iV g1.1)],[(0,some (.box [aW b_.bS,aV b_.bI,iV b_.aZ.bZ,bg b_.aZ.aH,dA b_.bA,bV b_.dD])),(1,some (.box [av g1.2.1,aL g1.2.2.1,av g1.2.2.2.1,bL g1.2.2.2.2.1,aL g1.2.2.2.2.2.1,aL g1.2.2.2.2.2.2.1])),(2,some (.box [.sl 0 0 true dN,.sl 0 0 true dN,.sl 0 0 true dN,.sl 0 0 true dN,.sl 0 0 true dN,.sl 0 0 true dN])),(3,some (.row 3 g1.2.2.2.2.2.2.2.length (bC fE dI g1.2.2.2.2.2.2.2)))],4⟩) [(1,some 8),(2,some 16),(3,none)] [] <|λ ah g1 hm=>si hm (λ _ hm=>sn hm λ _ hm=>sq hm zU λ v5 hm=>by
 have c6:=hm.1
 have hm:=hm.2
 refine fG (λ q=>Bool.noConfusion (c6.symm.trans q)) (λ _=>?_)
 (conv=>whnf)
 refine dh hm λ v6 hv6 hm=>?_
 refine ⟨_,_,(wC hv6),?_⟩
 (conv=>whnf)
 refine aO hm λ h8 hm=>?_
 (conv=>whnf)
 refine aO hm λ h9 hm=>?_
 (conv=>whnf)
 exact ⟨((g1.1+(1:Int)),v5.1.Setting,v5.1.bX.On,v5.1.bX.bJ,v5.1.Uses,v5.1.Released,v5.1.cO,(g1.2.2.2.2.2.2.2++([(⟨(w_.getD g1.1.toNat dI).fC,(w_.getD g1.1.toNat dI).Unit,v6⟩:aN)]:List aN))),[(3,some 220)],[],hm,⟨rfl,⟨r4,r4,r4,⟨rfl,rfl,rfl,oz,nofun⟩,sr,r2,r2,trivial⟩,⟨⟨sr,sr,r2,sr,sr,sr,trivial⟩,⟨sf,sf,sf,sf,sf,sf,trivial⟩,⟨sr,sr,sr,sr,sr,sr,trivial⟩,⟨rfl,oz,(iL rfl (λ _ _=>.refl _) rfl (fM fE dI [(⟨(w_.getD g1.1.toNat dI).fC,(w_.getD g1.1.toNat dI).Unit,v6⟩:aN)]))⟩,trivial⟩⟩⟩) λ _ hm=>sq hm iO λ v7 hm=>by
 have h10:=hm.1
 have hm:=hm.2
 refine dh hm λ v8 DJ hm=>?_
 refine ⟨_,_,(tO DJ),?_⟩
 (conv=>whnf)
 have hm:r=((⟨v8.1,(⟨v8.2.1,v8.2.2.1⟩:bD),v8.2.2.2.1,v8.2.2.2.2.1,v8.2.2.2.2.2⟩:aR),(v7.take (g1.2.2.2.2.2.2.2.length)),(0:Int)):=hm
 subst hm
 refine ⟨[36,37,38,39,40,41,3],[],?_⟩
 (conv=>whnf)
 exact ⟨⟨rfl,trivial,trivial⟩,(by (conv=>whnf); exact ⟨(by (conv=>whnf); exact ⟨(by (conv=>whnf); exact sf),(by (conv=>whnf); exact ⟨(by (conv=>whnf); exact sf),(by (conv=>whnf); exact ⟨(by (conv=>whnf); exact sf),(by (conv=>whnf); exact ⟨(by (conv=>whnf); exact sf),(by (conv=>whnf); exact ⟨(by (conv=>whnf); exact sf),(by (conv=>whnf); exact ⟨(by (conv=>whnf); exact sf),trivial⟩)⟩)⟩)⟩)⟩)⟩),(by (conv=>whnf); exact ⟨(by (conv=>whnf); exact ⟨oz,(λ _=>rfl),nofun,(lX (f:=fE) (d:=dI) (by first | omega | exact Nat.min_le_left _ _ | exact Nat.le_trans (Nat.min_le_left _ _) om | (simp; omega)))⟩),(by (conv=>whnf); exact ⟨(by first | ((conv=>whnf); exact r2) | exact r2),trivial⟩)⟩)⟩)⟩
theorem UD {AZ:Int} {r:aR×Bool×Int} (hm:Tx b_ from_ w_ AZ r):S 15 [iX b_,iw from_,iC w_,iV AZ] [] (.jQ [iw r.1,.bool r.2.1,iV r.2.2]) [] :=sp Tryz.func15 rfl<|sq hm mQ λ v1 hm=>by
 have c1:=hm.1
 have hm:=hm.2
 refine fG (λ q=>Bool.noConfusion (c1.symm.trans q)) (λ _=>?_)
 (conv=>whnf)
 have c2:=hm.1
 have hm:=hm.2
 refine fG (λ q=>Bool.noConfusion (c2.symm.trans q)) (λ _=>?_)
 (conv=>whnf)
 refine aO hm λ h1 hm=>?_
 (conv=>whnf)
 refine dh hm λ v2 hv2 hm=>?_
 refine ⟨_,_,((mQ hv2).le ⟨.refl _,.refl _,(.sl oz (λ _=>rfl) nofun (lX (f:=fE) (d:=dI) (by first | omega | exact Nat.min_le_left _ _ | exact Nat.le_trans (Nat.min_le_left _ _) om | (simp; omega)))),trivial⟩ trivial),?_⟩
 (conv=>whnf)
 refine dh hm λ v3 hv3 hm=>?_
 refine ⟨_,_,(mQ hv3),?_⟩
 (conv=>whnf)
 have hm:r=(v3.1,false,v3.2.2):=hm
 subst hm
 refine ⟨[],[],?_⟩
 (conv=>whnf)
 exact ⟨⟨rfl,trivial,trivial⟩,⟨Y8 (.refl _) rfl (Nat.lt_of_sub_pos (by exact Nat.zero_lt_succ _)),rfl,r2,trivial⟩⟩
theorem sF {a_:List aN} {b_:List aN} (hm:yA a_ b_ r):S 20 [iC a_,iC b_] [] (.bool r) [] :=sp Tryz.func20 rfl<|by
 have c1:=hm.1
 have hm:=hm.2
 refine fG (λ q=>Bool.noConfusion (c1.symm.trans q)) (λ _=>?_)
 (conv=>whnf)
 refine nk (ct:=[]) gZ dk hm (λ g1=>⟨[(0,iC a_),(1,iC b_),(5,iV g1)],[],0⟩) [] [] ⟨rfl,⟨sr,sr,r2,trivial⟩,trivial⟩ ?_
 intro ah g1 hm
 (conv=>whnf)
 refine fQ hm (λ c6 hm=>?_) (λ c6 hm=>?_)
 ·(conv=>whnf)
  refine aO hm λ h7 hm=>?_
  (conv=>whnf)
  refine aO hm λ h8 hm=>?_
  (conv=>whnf)
  have c7:=hm.1
  have hm:=hm.2
  refine fG (λ q=>Bool.noConfusion (c7.symm.trans q)) (λ _=>?_)
  (conv=>whnf)
  refine aO hm λ h9 hm=>?_
  (conv=>whnf)
  exact ⟨(g1+(1:Int)),[],[],hm,⟨rfl,⟨sr,sr,r2,trivial⟩,trivial⟩⟩
 ·(conv=>whnf)
  have hm:r=true:=hm
  subst hm
  refine ⟨[],[],?_⟩
  (conv=>whnf)
  exact ⟨⟨rfl,trivial,trivial⟩,rfl⟩
theorem qE {Za:List Bool} {s2_:List Bool} (hm:rW Za s2_ r):S 53 [aL Za,aL s2_] [] (.bool r) [] :=sp Tryz.func53 rfl<|by
 have c1:=hm.1
 have hm:=hm.2
 refine fG (λ q=>Bool.noConfusion (c1.symm.trans q)) (λ _=>?_)
 (conv=>whnf)
 refine nk (ct:=[]) gZ dk hm (λ g1=>⟨[(0,aL Za),(1,aL s2_),(12,iV (Za.length:Int)),(13,iV g1)],[],0⟩) [] [] ⟨rfl,⟨sr,sr,r2,r2,trivial⟩,trivial⟩ ?_
 intro ah g1 hm
 (conv=>whnf)
 refine fQ hm (λ c6 hm=>?_) (λ c6 hm=>?_)
 ·(conv=>whnf)
  refine aO hm λ h7 hm=>?_
  (conv=>whnf)
  refine aO hm λ h8 hm=>?_
  (conv=>whnf)
  have c7:=hm.1
  have hm:=hm.2
  refine fG (λ q=>Bool.noConfusion (c7.symm.trans q)) (λ _=>?_)
  (conv=>whnf)
  refine aO hm λ h9 hm=>?_
  (conv=>whnf)
  exact ⟨(g1+(1:Int)),[],[],hm,⟨rfl,⟨sr,sr,r2,r2,trivial⟩,trivial⟩⟩
 ·(conv=>whnf)
  have hm:r=true:=hm
  subst hm
  refine ⟨[],[],?_⟩
  (conv=>whnf)
  exact ⟨⟨rfl,trivial,trivial⟩,rfl⟩
theorem SB {a_:bD} {b_:bD} (hm:Q0 a_ b_ r):S 52 [pX a_,pX b_] [] (.bool r) [] :=sp Tryz.func52 rfl<|sq hm qE λ v1 hm=>sb hm λ v2 hv2 hm=>cl (λ q0=>(mP (hv2 q0)))<|by cases hm;exact re
theorem xB {f_:dR→Option Int} {r:Int} (hm:qQ s_ f_ r):S 184 [bL s_,.fn 125 [.ro [.pm (.struct [(0,3),(1,3)]) [.bool] f_]]] [] (iV r) [] :=sp Tryz.func184 rfl<|l0 hm (λ g1=>⟨[(0,bL s_),(1,.fn 125 [.ro [.pm (.struct [(0,3),(1,3)]) [.bool] f_]]),(7,iV (s_.length:Int)),(8,iV (0:Int))],[],0⟩) <|λ ah g1 hm=>by
 have c2:=hm.1
 have hm:=hm.2
 refine fG (λ q=>Bool.noConfusion (c2.symm.trans q)) (λ _=>?_)
 (conv=>whnf)
 have hm:r=(-1:Int):=hm
 subst hm
 refine ⟨[],[],?_⟩
 (conv=>whnf)
 exact ⟨⟨rfl,trivial,trivial⟩,r2⟩
theorem xC {f_:dR→Option Int} (hm:qR s_ f_ r):S 124 [bL s_,.fn 125 [.ro [.pm (.struct [(0,3),(1,3)]) [.bool] f_]]] [] (.bool r) [] :=sp Tryz.func124 rfl<|sq hm xB λ v1 hm=>by cases hm;exact re
theorem ES {a_:List aP} {b_:List aP} (hm:GY a_ b_ r):S 54 [bL a_,bL b_] [] (.bool r) [] :=sp Tryz.func54 rfl<|lf hm (λ g1=>⟨[(0,bL a_),(5,.ptr 0 0 0),(9,bL b_),(10,iV (b_.length:Int)),(11,iV (0:Int))],[(0,some (.box [.mref 1])),(1,some (.map (.struct [(0,3),(1,3)]) [.bool] (λ _=>none)))],2⟩) [(0,some 16),(1,some 8)] [] <|λ ah g1 hm=>by
 have c2:=hm.1
 have hm:=hm.2
 refine fG (λ q=>Bool.noConfusion (c2.symm.trans q)) (λ _=>?_)
 (conv=>whnf)
 refine dh hm λ v1 hv1 hm=>?_
 refine ⟨_,_,(xC hv1),?_⟩
 (conv=>whnf)
 have hm:r=(!v1):=hm
 subst hm
 refine ⟨[],[],?_⟩
 (conv=>whnf)
 exact ⟨⟨rfl,trivial,trivial⟩,rfl⟩
theorem wD {a_:aR} {b_:aR} (hm:Ad a_ b_ r):S 16 [iw a_,iw b_] [] (.bool r) [] :=sp Tryz.func16 rfl<|sq hm mP λ v1 hm=>sb hm λ v2 hv2 hm=>cl (λ q0=>(SB (hv2 q0)))<|sb hm λ v3 hv3 hm=>cl (λ q0=>(qE (hv3 q0)))<|sb hm λ v4 hv4 hm=>cl (λ q0=>(qE (hv4 q0)))<|by
 have c1:=hm.1
 have hm:=hm.2
 refine fG (λ q=>Bool.noConfusion (c1.symm.trans q)) (λ _=>?_)
 (conv=>whnf)
 refine dh hm λ v5 hv5 hm=>?_
 refine ⟨_,_,(ES hv5),?_⟩
 (conv=>whnf)
 refine dh hm λ v6 hv6 hm=>?_
 refine ⟨_,_,(λ q0=>(ES (hv6 q0))),?_⟩
 (conv=>whnf)
 have hm:r=(v5&&v6):=hm
 subst hm
 refine ⟨[],[],?_⟩
 (conv=>whnf)
 exact ⟨⟨rfl,trivial,trivial⟩,rfl⟩
theorem QF {w_:aN} {pE:List ay} {pF:List aF} {ag2:Int} {ag3:List cB} {ag4:List eF} {ag5:List dO} {ag6:List aS} {ag7:List Int} {ag8:Bool} {GU:List Int} {wM:List Bool} {QZ:List aP} {Mx:List Bool} {Yn:List Bool} {r:Bool×List Bool} (hm:Nu w_ pE pF ag2 ag3 ag4 ag5 ag6 ag7 ag8 GU wM qO QZ Mx Yn r):S 110 [.ptr 0 0 8,fE w_] [.box [aW pE,aV pF,iV ag2,bg ag3,dA ag4,bV ag5,dV ag6,av ag7,.dQ 1 0 GU.length false,.dQ 2 0 wM.length false,.dQ 3 0 qO.length false,.dQ 4 0 QZ.length false,.dQ 5 0 Mx.length false,.dQ 6 0 Yn.length false,.bool ag8],.row 1 GU.length (bC iV 0 GU),.row 1 wM.length (bC AV.bool false wM),.row 1 qO.length (bC iV 0 qO),.row 3 QZ.length (bC mM bF QZ),.row 1 Mx.length (bC AV.bool false Mx),.row 1 Yn.length (bC AV.bool false Yn)] (.bool r.1) [.box [aW pE,aV pF,iV ag2,bg ag3,dA ag4,bV ag5,dV ag6,av ag7,.dQ 1 0 GU.length false,.dQ 2 0 wM.length false,.dQ 3 0 qO.length false,.dQ 4 0 QZ.length false,.dQ 5 0 r.2.length false,.dQ 6 0 Yn.length false,.bool ag8],.row 1 GU.length (bC iV 0 GU),.row 1 wM.length (bC AV.bool false wM),.row 1 qO.length (bC iV 0 qO),.row 3 QZ.length (bC mM bF QZ),.row 1 r.2.length (bC AV.bool false r.2),.row 1 Yn.length (bC AV.bool false Yn)] :=sp Tryz.func110 rfl<|by
 have c1:=hm.1
 have hm:=hm.2
 refine fG (λ q=>Bool.noConfusion (c1.symm.trans q)) (λ _=>?_)
 (conv=>whnf)
 have c2:=hm.1
 have hm:=hm.2
 refine fG (λ q=>Bool.noConfusion (c2.symm.trans q)) (λ _=>?_)
 (conv=>whnf)
 have c3:=hm.1
 have hm:=hm.2
 refine fG (λ q=>Bool.noConfusion (c3.symm.trans q)) (λ _=>?_)
 (conv=>whnf)
 have c4:=hm.1
 have hm:=hm.2
 refine fG (λ q=>Bool.noConfusion (c4.symm.trans q)) (λ _=>?_)
 (conv=>whnf)
 have c5:=hm.1
 have hm:=hm.2
 refine fG (λ _=>?_) (λ q=>Bool.noConfusion (q.symm.trans c5))
 (conv=>whnf)
 have c6:=hm.1
 have hm:=hm.2
 refine fG (λ _=>?_) (λ q=>Bool.noConfusion (q.symm.trans c6))
 (conv=>whnf)
 refine dh hm λ v1 hv1 hm=>?_
 refine ⟨_,_,(CJ hv1),?_⟩
 (conv=>whnf)
 have h1:=hm.1
 have hm:=hm.2
 have hm:r=(((decide (w_.Value≤(1:Int)))&&v1.1),v1.2):=hm
 subst hm
 refine ⟨[],[],?_⟩
 (conv=>whnf)
 exact ⟨⟨rfl,trivial,⟨⟨sr,sr,r2,sr,sr,sr,sr,sr,⟨rfl,rfl,rfl,rfl,nofun⟩,⟨rfl,rfl,rfl,rfl,nofun⟩,⟨rfl,rfl,rfl,rfl,nofun⟩,⟨rfl,rfl,rfl,rfl,nofun⟩,⟨rfl,rfl,rfl,(by first | omega | (simp; omega)),nofun⟩,⟨rfl,rfl,rfl,rfl,nofun⟩,rfl,trivial⟩,⟨rfl,rfl,(λ _ _=>.refl _)⟩,⟨rfl,rfl,(λ _ _=>.refl _)⟩,⟨rfl,rfl,(λ _ _=>.refl _)⟩,⟨rfl,rfl,(λ _ _=>.refl _)⟩,⟨rfl,rfl,(λ _ _=>.refl _)⟩,⟨rfl,rfl,(λ _ _=>.refl _)⟩,trivial⟩⟩,rfl⟩
theorem V4 {r:aR×Int×Int×Int} (hm:WU b_ l_ aj g_ w_ r):S 46 [iX b_,dV l_,av aj,iw g_,iC w_] [] (.jQ [iw r.1,iV r.2.1,iV r.2.2.1,iV r.2.2.2]) [] :=sp Tryz.func46 rfl<|sq hm Ch λ v1 hm=>by
 have c1:=hm.1
 have hm:=hm.2
 refine fG (λ q=>Bool.noConfusion (c1.symm.trans q)) (λ _=>?_)
 (conv=>whnf)
 refine dh hm λ v2 hv2 hm=>?_
 refine ⟨_,_,(Br hv2),?_⟩
 (conv=>whnf)
 have c2:=hm.1
 have hm:=hm.2
 refine fG (λ q=>Bool.noConfusion (c2.symm.trans q)) (λ _=>?_)
 (conv=>whnf)
 refine dh hm λ v3 hv3 hm=>?_
 refine ⟨_,_,(tO hv3),?_⟩
 (conv=>whnf)
 refine dh hm λ v4 hv4 hm=>?_
 refine ⟨_,_,(oW hv4),?_⟩
 (conv=>whnf)
 have c3:=hm.1
 have hm:=hm.2
 refine fG (λ q=>Bool.noConfusion (c3.symm.trans q)) (λ _=>?_)
 (conv=>whnf)
 refine nk (ct:=[]) gZ dk hm (λ g1=>⟨[(4,iC w_),(10,.ptr 0 0 0),(15,.ptr 1 0 0),(45,iC w_),(46,iV (w_.length:Int)),(47,iV g1.1)],[(0,some (.box [.sl 0 0 true dN,.sl 0 0 true dN,.sl 0 0 true dN,.sl 0 0 true dN,.sl 0 0 true dN,.sl 0 0 true dN])),(1,some (.box [aW b_.bS,aV b_.bI,iV b_.aZ.bZ,bg b_.aZ.aH,dA b_.bA,bV b_.dD,dV l_,av aj,.dQ 2 0 v3.1.length false,.dQ 3 0 v3.2.1.length false,.dQ 4 0 v3.2.2.1.length false,.dQ 5 0 v3.2.2.2.1.length false,.dQ 6 0 g1.2.length false,.dQ 7 0 v3.2.2.2.2.2.length false,.bool true])),(2,some (.row 1 v3.1.length (bC iV 0 v3.1))),(3,some (.row 1 v3.2.1.length (bC AV.bool false v3.2.1))),(4,some (.row 1 v3.2.2.1.length (bC iV 0 v3.2.2.1))),(5,some (.row 3 v3.2.2.2.1.length (bC mM bF v3.2.2.2.1))),(6,some (.row 1 g1.2.length (bC AV.bool false g1.2))),(7,some (.row 1 v3.2.2.2.2.2.length (bC AV.bool false v3.2.2.2.2.2)))],8⟩) [(0,some 16),(1,some 176),(2,some 160),(3,some 161),(4,some 162),(5,some 163),(6,some 164),(7,some 165)] [] ⟨rfl,⟨sr,r4,r4,sr,r2,r2,trivial⟩,⟨⟨sr,sr,sr,sr,sr,sr,trivial⟩,⟨sr,sr,r2,sr,sr,sr,sr,sr,⟨rfl,rfl,rfl,rfl,nofun⟩,⟨rfl,rfl,rfl,rfl,nofun⟩,⟨rfl,rfl,rfl,rfl,nofun⟩,⟨rfl,rfl,rfl,rfl,nofun⟩,⟨rfl,rfl,rfl,rfl,nofun⟩,⟨rfl,rfl,rfl,rfl,nofun⟩,rfl,trivial⟩,⟨rfl,rfl,(λ _ _=>.refl _)⟩,⟨rfl,rfl,(λ _ _=>.refl _)⟩,⟨rfl,rfl,(λ _ _=>.refl _)⟩,⟨rfl,rfl,(λ _ _=>.refl _)⟩,⟨rfl,rfl,(λ _ _=>.refl _)⟩,⟨rfl,rfl,(λ _ _=>.refl _)⟩,trivial⟩⟩ ?_
 intro ah g1 hm
 (conv=>whnf)
 refine fQ hm (λ c10 hm=>?_) (λ c10 hm=>?_)
 ·(conv=>whnf)
  refine aO hm λ h7 hm=>?_
  (conv=>whnf)
  refine dh hm λ v9 hv9 hm=>?_
  refine ⟨_,_,(QF hv9),?_⟩
  (conv=>whnf)
  have h8:=hm.1
  have hm:=hm.2
  have c11:=hm.1
  have hm:=hm.2
  refine fG (λ q=>Bool.noConfusion (c11.symm.trans q)) (λ _=>?_)
  (conv=>whnf)
  refine dh hm λ v10 Jc hm=>?_
  refine ⟨_,_,(oW Jc),?_⟩
  (conv=>whnf)
  have c12:=hm.1
  have hm:=hm.2
  refine fG (λ q=>Bool.noConfusion (c12.symm.trans q)) (λ _=>?_)
  (conv=>whnf)
  refine aO hm λ h9 hm=>?_
  (conv=>whnf)
  exact ⟨((g1.1+(1:Int)),v9.2),[],[],hm,⟨rfl,⟨sr,r4,r4,sr,r2,r2,trivial⟩,⟨⟨sr,sr,sr,sr,sr,sr,trivial⟩,⟨sr,sr,r2,sr,sr,sr,sr,sr,⟨rfl,rfl,rfl,rfl,nofun⟩,⟨rfl,rfl,rfl,rfl,nofun⟩,⟨rfl,rfl,rfl,rfl,nofun⟩,⟨rfl,rfl,rfl,rfl,nofun⟩,⟨rfl,rfl,rfl,rfl,nofun⟩,⟨rfl,rfl,rfl,rfl,nofun⟩,rfl,trivial⟩,⟨rfl,rfl,(λ _ _=>.refl _)⟩,⟨rfl,rfl,(λ _ _=>.refl _)⟩,⟨rfl,rfl,(λ _ _=>.refl _)⟩,⟨rfl,rfl,(λ _ _=>.refl _)⟩,⟨rfl,rfl,(λ _ _=>.refl _)⟩,⟨rfl,rfl,(λ _ _=>.refl _)⟩,trivial⟩⟩⟩
 ·(conv=>whnf)
  have hm:r=((⟨v3.1,(⟨v3.2.1,v3.2.2.1⟩:bD),v3.2.2.2.1,g1.2,v3.2.2.2.2.2⟩:aR),(w_.length:Int),(0:Int),(0:Int)):=hm
  subst hm
  refine ⟨[2,3,4,5,6,7],[],?_⟩
  (conv=>whnf)
  exact ⟨⟨rfl,trivial,trivial⟩,(by (conv=>whnf); exact ⟨(by (conv=>whnf); exact ⟨(by (conv=>whnf); exact sf),(by (conv=>whnf); exact ⟨(by (conv=>whnf); exact sf),(by (conv=>whnf); exact ⟨(by (conv=>whnf); exact sf),(by (conv=>whnf); exact ⟨(by (conv=>whnf); exact sf),(by (conv=>whnf); exact ⟨(by (conv=>whnf); exact sf),(by (conv=>whnf); exact ⟨(by (conv=>whnf); exact sf),trivial⟩)⟩)⟩)⟩)⟩)⟩),(by (conv=>whnf); exact ⟨(by first | ((conv=>whnf); exact r2) | exact r2),(by (conv=>whnf); exact ⟨(by first | ((conv=>whnf); exact r2) | exact r2),(by (conv=>whnf); exact ⟨(by first | ((conv=>whnf); exact r2) | exact r2),trivial⟩)⟩)⟩)⟩)⟩
theorem ET {jH:aR} (hm:GZ b_ l_ from_ jH kD w_ r):S 11 [iX b_,dV l_,iw from_,iw jH,av kD,iC w_] [] (.bool r) [] :=sp Tryz.func11 rfl<|sq hm V4 λ v1 hm=>sb hm λ v2 hv2 hm=>cl (λ q0=>(wD (hv2 q0)))<|by cases hm;exact re
theorem Ms {w_:Nat} {dx:List aN} {r:aR×List aN×Int} (hm:Iu b_ g_ w_ dx r):S 50 [iX b_,iw g_,.dQ 0 0 w_ false] [.row 3 dx.length (bC fE dI dx)] (.jQ [iw r.1,iC r.2.1,iV r.2.2]) [.row 3 dx.length (bC fE dI dx)] :=sp Tryz.func50 rfl<|by
 have h12:=hm.1
 have hm:=hm.2
 refine nk (ct:=[]) gZ dk hm (λ g1=>⟨[(3,.ptr 1 0 0),(4,.ptr 2 0 0),(6,.ptr 3 0 0),(9,.dQ 4 0 g1.2.2.2.2.2.2.2.2.length false),(14,.dQ 0 0 g1.1 false),(15,iV ((w_:Nat):Int)),(16,iV g1.2.1)],[(0,some (.row 3 dx.length (bC fE dI dx))),(1,some (.box [aW b_.bS,aV b_.bI,iV b_.aZ.bZ,bg b_.aZ.aH,dA b_.bA,bV b_.dD])),(2,some (.box [av g1.2.2.1,aL g1.2.2.2.1,av g1.2.2.2.2.1,bL g1.2.2.2.2.2.1,aL g1.2.2.2.2.2.2.1,aL g1.2.2.2.2.2.2.2.1])),(3,some (.box [.sl 0 0 true dN,.sl 0 0 true dN,.sl 0 0 true dN,.sl 0 0 true dN,.sl 0 0 true dN,.sl 0 0 true dN])),(4,some (.row 3 g1.2.2.2.2.2.2.2.2.length (bC fE dI g1.2.2.2.2.2.2.2.2)))],5⟩) [(2,some 9),(3,some 17),(4,none)] [] ⟨rfl,⟨r4,r4,r4,⟨rfl,rfl,rfl,rfl,rfl,rfl⟩,⟨rfl,rfl,rfl,rfl,nofun⟩,r2,r2,trivial⟩,⟨⟨rfl,rfl,(λ _ _=>.refl _)⟩,⟨sr,sr,r2,sr,sr,sr,trivial⟩,⟨sf,sf,sf,sf,sf,sf,trivial⟩,⟨sr,sr,sr,sr,sr,sr,trivial⟩,rfl,trivial⟩⟩ ?_
 intro ah g1 hm
 (conv=>whnf)
 have h11:=hm.1
 have hm:=hm.2
 refine fQ hm (λ c5 hm=>?_) (λ c5 hm=>?_)
 ·(conv=>whnf)
  refine aO hm λ h7 hm=>?_
  (conv=>whnf)
  refine dh hm λ v5 hv5 hm=>?_
  refine ⟨_,_,(zU hv5),?_⟩
  (conv=>whnf)
  have c6:=hm.1
  have hm:=hm.2
  refine fG (λ q=>Bool.noConfusion (c6.symm.trans q)) (λ _=>?_)
  (conv=>whnf)
  refine dh hm λ v6 hv6 hm=>?_
  refine ⟨_,_,(wC hv6),?_⟩
  (conv=>whnf)
  refine aO hm λ h8 hm=>?_
  (conv=>whnf)
  refine aO hm λ h9 hm=>?_
  (conv=>whnf)
  exact ⟨(g1.1,(g1.2.1+(1:Int)),v5.1.Setting,v5.1.bX.On,v5.1.bX.bJ,v5.1.Uses,v5.1.Released,v5.1.cO,(g1.2.2.2.2.2.2.2.2++([(⟨(dx.getD g1.2.1.toNat dI).fC,(dx.getD g1.2.1.toNat dI).Unit,v6⟩:aN)]:List aN))),[(4,some 221)],[],hm,⟨rfl,⟨r4,r4,r4,⟨rfl,rfl,rfl,oz,nofun⟩,⟨rfl,rfl,rfl,rfl,nofun⟩,r2,r2,trivial⟩,⟨⟨rfl,rfl,(λ _ _=>.refl _)⟩,⟨sr,sr,r2,sr,sr,sr,trivial⟩,⟨sf,sf,sf,sf,sf,sf,trivial⟩,⟨sr,sr,sr,sr,sr,sr,trivial⟩,⟨rfl,oz,(iL rfl (λ _ _=>.refl _) rfl (fM fE dI [(⟨(dx.getD g1.2.1.toNat dI).fC,(dx.getD g1.2.1.toNat dI).Unit,v6⟩:aN)]))⟩,trivial⟩⟩⟩
 ·(conv=>whnf)
  refine dh hm λ v7 hv7 hm=>?_
  refine ⟨_,_,(iO hv7),?_⟩
  (conv=>whnf)
  have h10:=hm.1
  have hm:=hm.2
  refine dh hm λ v8 DJ hm=>?_
  refine ⟨_,_,(tO DJ),?_⟩
  (conv=>whnf)
  have hm:r=((⟨v8.1,(⟨v8.2.1,v8.2.2.1⟩:bD),v8.2.2.2.1,v8.2.2.2.2.1,v8.2.2.2.2.2⟩:aR),(v7.take (g1.2.2.2.2.2.2.2.2.length)),(0:Int)):=hm
  subst hm
  refine ⟨[37,38,39,40,41,42,4],[],?_⟩
  (conv=>whnf)
  exact ⟨⟨rfl,trivial,⟨⟨rfl,rfl,(λ _ _=>.refl _)⟩,trivial⟩⟩,(by (conv=>whnf); exact ⟨(by (conv=>whnf); exact ⟨(by (conv=>whnf); exact sf),(by (conv=>whnf); exact ⟨(by (conv=>whnf); exact sf),(by (conv=>whnf); exact ⟨(by (conv=>whnf); exact sf),(by (conv=>whnf); exact ⟨(by (conv=>whnf); exact sf),(by (conv=>whnf); exact ⟨(by (conv=>whnf); exact sf),(by (conv=>whnf); exact ⟨(by (conv=>whnf); exact sf),trivial⟩)⟩)⟩)⟩)⟩)⟩),(by (conv=>whnf); exact ⟨(by (conv=>whnf); exact ⟨oz,(λ _=>rfl),nofun,(lX (f:=fE) (d:=dI) (by first | omega | exact Nat.min_le_left _ _ | exact Nat.le_trans (Nat.min_le_left _ _) om | (simp; omega)))⟩),(by (conv=>whnf); exact ⟨(by first | ((conv=>whnf); exact r2) | exact r2),trivial⟩)⟩)⟩)⟩
theorem OZ {AZ:Int} {dx:List aN} {r:aR×Bool×Int} (hm:K3 b_ from_ AZ dx r):S 15 [iX b_,iw from_,.dQ 0 0 dx.length false,iV AZ] [.row 3 dx.length (bC fE dI dx)] (.jQ [iw r.1,.bool r.2.1,iV r.2.2]) [.row 3 dx.length (bC fE dI dx)] :=sp Tryz.func15 rfl<|sq hm ER λ v1 hm=>by
 have c1:=hm.1
 have hm:=hm.2
 refine fG (λ q=>Bool.noConfusion (c1.symm.trans q)) (λ _=>?_)
 (conv=>whnf)
 have c2:=hm.1
 have hm:=hm.2
 refine fG (λ q=>Bool.noConfusion (c2.symm.trans q)) (λ _=>?_)
 (conv=>whnf)
 refine aO hm λ h1 hm=>?_
 (conv=>whnf)
 refine dh hm λ v2 hv2 hm=>?_
 refine ⟨_,_,(Ms hv2),?_⟩
 (conv=>whnf)
 refine dh hm λ v3 hv3 hm=>?_
 refine ⟨_,_,(mQ hv3),?_⟩
 (conv=>whnf)
 have hm:r=(v3.1,false,v3.2.2):=hm
 subst hm
 refine ⟨[],[],?_⟩
 (conv=>whnf)
 exact ⟨⟨rfl,trivial,⟨⟨rfl,rfl,(λ _ _=>.refl _)⟩,trivial⟩⟩,⟨Y8 (.refl _) rfl (Nat.lt_of_sub_pos (by exact Nat.zero_lt_succ _)),rfl,r2,trivial⟩⟩
theorem Cm  {r:Bool} (hm:wh r):S 7 [] [] (.bool r) [] :=spc [1,2,3,4,7,8] Tryz.func7 rfl<|ck [1,2,3,4,7,8] Ra r (λ g1=>⟨[],[],0⟩) (le hm) λ g1 hm=>ck [1,2,3,4,7,8] Q9 r (λ g2=>⟨[(1,.ptr 0 0 0)],[(0,some (.box [.sl 0 0 true dN,.sl 0 0 true dN,iV (0:Int),.sl 0 0 true dN,.dQ 1 0 g2.length false,.sl 0 0 true dN])),(1,some (.row 1 g2.length (bC ach dZ g2)))],2⟩) (lc [(0,some 24),(1,some 8)] [] hm) λ g2 hm=>ck [1,2,3,4,7,8] (Q8 g2) r (λ g3=>⟨[(1,.ptr 0 0 0),(2,dV g3)],[(0,some (.box [.sl 0 0 true dN,.sl 0 0 true dN,iV (0:Int),.sl 0 0 true dN,.dQ 1 0 g2.length false,.sl 0 0 true dN])),(1,some (.row 1 g2.length (bC ach dZ g2)))],2⟩) (lc [] [10] hm) λ g3 hm=>ck [1,2,3,4,7,8] (Q7 g3) r (λ g4=>⟨[(1,.ptr 0 0 0),(2,dV g3),(3,.ptr 1 0 0),(4,.ptr 2 0 0)],[(0,some (.box [.sl 0 0 true dN,.sl 0 0 true dN,iV (0:Int),.sl 0 0 true dN,dA g4.1,.sl 0 0 true dN])),(1,some (.box [.sl 0 0 true dN,.sl 0 0 true dN,.sl 0 0 true dN,.sl 0 0 true dN,aL g4.2.1,.sl 0 0 true dN])),(2,some (.box [.sl 0 0 true dN,.sl 0 0 true dN,.sl 0 0 true dN,.sl 0 0 true dN,aL g4.2.2,.sl 0 0 true dN]))],3⟩) (lc [(1,some 34),(2,some 42)] [1,2,18] hm) λ g4 hm=>sb hm λ v1 hv1 hm=>cl ((sD hv1).le ⟨(Le.y9 ⟨(.sl rfl (λ h=>absurd rfl h) nofun (λ _ h=>absurd h (Nat.not_lt_zero _))),(.sl rfl (λ h=>absurd rfl h) nofun (λ _ h=>absurd h (Nat.not_lt_zero _))),(.refl _),(.sl rfl (λ h=>absurd rfl h) nofun (λ _ h=>absurd h (Nat.not_lt_zero _))),(.refl _),(.sl rfl (λ h=>absurd rfl h) nofun (λ _ h=>absurd h (Nat.not_lt_zero _))),trivial⟩),.refl _,(Le.y9 ⟨(.sl rfl (λ h=>absurd rfl h) nofun (λ _ h=>absurd h (Nat.not_lt_zero _))),(.sl rfl (λ h=>absurd rfl h) nofun (λ _ h=>absurd h (Nat.not_lt_zero _))),(.sl rfl (λ h=>absurd rfl h) nofun (λ _ h=>absurd h (Nat.not_lt_zero _))),(.sl rfl (λ h=>absurd rfl h) nofun (λ _ h=>absurd h (Nat.not_lt_zero _))),(.refl _),(.sl rfl (λ h=>absurd rfl h) nofun (λ _ h=>absurd h (Nat.not_lt_zero _))),trivial⟩),(Le.y9 ⟨(.sl rfl (λ h=>absurd rfl h) nofun (λ _ h=>absurd h (Nat.not_lt_zero _))),(.sl rfl (λ h=>absurd rfl h) nofun (λ _ h=>absurd h (Nat.not_lt_zero _))),(.sl rfl (λ h=>absurd rfl h) nofun (λ _ h=>absurd h (Nat.not_lt_zero _))),(.sl rfl (λ h=>absurd rfl h) nofun (λ _ h=>absurd h (Nat.not_lt_zero _))),(.refl _),(.sl rfl (λ h=>absurd rfl h) nofun (λ _ h=>absurd h (Nat.not_lt_zero _))),trivial⟩),(.sl rfl (λ h=>absurd rfl h) nofun (λ _ h=>absurd h (Nat.not_lt_zero _))),trivial⟩ trivial)<|sb hm λ v2 hv2 hm=>cl ((sD hv2).le ⟨(Le.y9 ⟨(.sl rfl (λ h=>absurd rfl h) nofun (λ _ h=>absurd h (Nat.not_lt_zero _))),(.sl rfl (λ h=>absurd rfl h) nofun (λ _ h=>absurd h (Nat.not_lt_zero _))),(.refl _),(.sl rfl (λ h=>absurd rfl h) nofun (λ _ h=>absurd h (Nat.not_lt_zero _))),(.refl _),(.sl rfl (λ h=>absurd rfl h) nofun (λ _ h=>absurd h (Nat.not_lt_zero _))),trivial⟩),.refl _,(Le.y9 ⟨(.sl rfl (λ h=>absurd rfl h) nofun (λ _ h=>absurd h (Nat.not_lt_zero _))),(.sl rfl (λ h=>absurd rfl h) nofun (λ _ h=>absurd h (Nat.not_lt_zero _))),(.sl rfl (λ h=>absurd rfl h) nofun (λ _ h=>absurd h (Nat.not_lt_zero _))),(.sl rfl (λ h=>absurd rfl h) nofun (λ _ h=>absurd h (Nat.not_lt_zero _))),(.refl _),(.sl rfl (λ h=>absurd rfl h) nofun (λ _ h=>absurd h (Nat.not_lt_zero _))),trivial⟩),(Le.y9 ⟨(.sl rfl (λ h=>absurd rfl h) nofun (λ _ h=>absurd h (Nat.not_lt_zero _))),(.sl rfl (λ h=>absurd rfl h) nofun (λ _ h=>absurd h (Nat.not_lt_zero _))),(.sl rfl (λ h=>absurd rfl h) nofun (λ _ h=>absurd h (Nat.not_lt_zero _))),(.sl rfl (λ h=>absurd rfl h) nofun (λ _ h=>absurd h (Nat.not_lt_zero _))),(.refl _),(.sl rfl (λ h=>absurd rfl h) nofun (λ _ h=>absurd h (Nat.not_lt_zero _))),trivial⟩),(.sl rfl (λ _=>rfl) nofun (fM iV 0 [(0:Int)])),trivial⟩ trivial)<|by
 refine akf (ct:=[1,2,3,4,7,8]) gZ dk dk (Q6 g3 g4 v1 v2) r (λ g5=>⟨[(1,.ptr 0 0 0),(2,dV g3),(3,.ptr 1 0 0),(4,.ptr 2 0 0),(5,.dQ 3 0 v1.2.length false),(6,iV v1.1),(7,.dQ 4 0 v2.2.length false),(8,iV v2.1),(9,iC g5.1),(10,iV g5.2)],[(0,some (.box [.sl 0 0 true dN,.sl 0 0 true dN,iV (0:Int),.sl 0 0 true dN,dA g4.1,.sl 0 0 true dN])),(1,some (.box [.sl 0 0 true dN,.sl 0 0 true dN,.sl 0 0 true dN,.sl 0 0 true dN,aL g4.2.1,.sl 0 0 true dN])),(2,some (.box [.sl 0 0 true dN,.sl 0 0 true dN,.sl 0 0 true dN,.sl 0 0 true dN,aL g4.2.2,.sl 0 0 true dN])),(3,some (.row 3 v1.2.length (bC fE dI v1.2))),(4,some (.row 3 v2.2.length (bC fE dI v2.2)))],5⟩) (Nv g3 g4 v1 v2) (Nw g3 g4 v1 v2) (λ g5 v4=>⟨[(1,.ptr 0 0 0),(2,dV g3),(3,.ptr 1 0 0),(4,.ptr 2 0 0),(5,.sl 3 1 true (bC fE dI [v4])),(6,iV v1.1),(7,.dQ 4 0 v2.2.length false),(8,iV v2.1),(9,iC g5.1),(10,iV g5.2)],[(0,some (.box [.sl 0 0 true dN,.sl 0 0 true dN,iV (0:Int),.sl 0 0 true dN,dA g4.1,.sl 0 0 true dN])),(1,some (.box [.sl 0 0 true dN,.sl 0 0 true dN,.sl 0 0 true dN,.sl 0 0 true dN,aL g4.2.1,.sl 0 0 true dN])),(2,some (.box [.sl 0 0 true dN,.sl 0 0 true dN,.sl 0 0 true dN,.sl 0 0 true dN,aL g4.2.2,.sl 0 0 true dN])),(4,some (.row 3 v2.2.length (bC fE dI v2.2)))],5⟩) (λ g5 v4=>⟨[(1,.ptr 0 0 0),(2,dV g3),(3,.ptr 1 0 0),(4,.ptr 2 0 0),(5,.dQ 3 0 1 false),(6,iV v1.1),(7,.dQ 4 0 v2.2.length false),(8,iV v2.1),(9,iC g5.1),(10,iV g5.2)],[(0,some (.box [.sl 0 0 true dN,.sl 0 0 true dN,iV (0:Int),.sl 0 0 true dN,dA g4.1,.sl 0 0 true dN])),(1,some (.box [.sl 0 0 true dN,.sl 0 0 true dN,.sl 0 0 true dN,.sl 0 0 true dN,aL g4.2.1,.sl 0 0 true dN])),(2,some (.box [.sl 0 0 true dN,.sl 0 0 true dN,.sl 0 0 true dN,.sl 0 0 true dN,aL g4.2.2,.sl 0 0 true dN])),(3,some (.row 3 2 (appG 1 (bC fE dI [v4]) (λ _=>.agg [.undef,.undef,.undef])))),(4,some (.row 3 v2.2.length (bC fE dI v2.2)))],5⟩) 3 5 3 (.agg [.undef,.undef,.undef]) (Nat.zero_le _) rfl (λ j hj=>by match j,hj with | 0,_=>rfl | 1,_=>rfl | 2,_=>rfl) (λ g5 hk=>by obtain ⟨x,hL,h⟩:=aic hk; refine ⟨x,bC fE dI [x],(aeg h).1,(aeg h).2,?_⟩; simp only [hL]; exact ⟨rfl,rfl,rfl,rfl,z,z⟩) ?_ (λ g5 v4 hm=>?_) (λ g5 v4 hm=>?_)
 ·(conv=>whnf)
  refine dh hm λ v17 amQ hm=>?_
  refine ⟨_,_,((UC amQ).le ⟨(Le.y9 ⟨(.sl rfl (λ h=>absurd rfl h) nofun (λ _ h=>absurd h (Nat.not_lt_zero _))),(.sl rfl (λ h=>absurd rfl h) nofun (λ _ h=>absurd h (Nat.not_lt_zero _))),(.refl _),(.sl rfl (λ h=>absurd rfl h) nofun (λ _ h=>absurd h (Nat.not_lt_zero _))),(.refl _),(.sl rfl (λ h=>absurd rfl h) nofun (λ _ h=>absurd h (Nat.not_lt_zero _))),trivial⟩),(Le.y9 ⟨(.sl rfl (λ h=>absurd rfl h) nofun (λ _ h=>absurd h (Nat.not_lt_zero _))),(.sl rfl (λ h=>absurd rfl h) nofun (λ _ h=>absurd h (Nat.not_lt_zero _))),(.sl rfl (λ h=>absurd rfl h) nofun (λ _ h=>absurd h (Nat.not_lt_zero _))),(.sl rfl (λ h=>absurd rfl h) nofun (λ _ h=>absurd h (Nat.not_lt_zero _))),(.refl _),(.sl rfl (λ h=>absurd rfl h) nofun (λ _ h=>absurd h (Nat.not_lt_zero _))),trivial⟩),.refl _,trivial⟩ ⟨oh _,trivial⟩),?_⟩
  (conv=>whnf)
  exact ⟨(v17.1,v17.2),[(3,some 35),(4,some 123)],[],hm,⟨rfl,⟨r4,sr,r4,r4,⟨rfl,rfl,rfl,rfl,nofun⟩,r2,⟨rfl,rfl,rfl,rfl,nofun⟩,r2,sf,r2,trivial⟩,⟨⟨sr,sr,r2,sr,sr,sr,trivial⟩,⟨sr,sr,sr,sr,sr,sr,trivial⟩,⟨sr,sr,sr,sr,sr,sr,trivial⟩,⟨rfl,rfl,(λ _ _=>.refl _)⟩,⟨rfl,rfl,(λ _ _=>.refl _)⟩,trivial⟩⟩⟩
 ·(conv=>whnf)
  refine QO (ct:=[1,2,3,4,7,8]) gZ dk dk (Q5 g3 g4 v1 v2 g5) r (λ g6=>⟨[(1,.ptr 0 0 0),(2,dV g3),(3,.ptr 1 0 0),(4,.ptr 2 0 0),(5,iC g6.1),(6,iV v1.1),(7,.dQ 3 0 v2.2.length false),(8,iV v2.1),(9,iC g5.1),(10,iV g5.2),(11,.ptr 4 0 0),(12,.bool g6.2.1),(13,iV g6.2.2.1)],[(0,some (.box [.sl 0 0 true dN,.sl 0 0 true dN,iV (0:Int),.sl 0 0 true dN,dA g4.1,.sl 0 0 true dN])),(1,some (.box [.sl 0 0 true dN,.sl 0 0 true dN,.sl 0 0 true dN,.sl 0 0 true dN,aL g4.2.1,.sl 0 0 true dN])),(2,some (.box [.sl 0 0 true dN,.sl 0 0 true dN,.sl 0 0 true dN,.sl 0 0 true dN,aL g4.2.2,.sl 0 0 true dN])),(3,some (.row 3 v2.2.length (bC fE dI v2.2))),(4,some (.box [av g6.2.2.2.1,aL g6.2.2.2.2.1,av g6.2.2.2.2.2.1,bL g6.2.2.2.2.2.2.1,aL g6.2.2.2.2.2.2.2.1,aL g6.2.2.2.2.2.2.2.2]))],5⟩) ?_ (λ g6 hm=>?_)
  ·(conv=>whnf)
   refine aO hm λ h2 hm=>?_
   (conv=>whnf)
   refine dh hm λ v10 Jc hm=>?_
   refine ⟨_,_,((UD Jc).le ⟨(Le.y9 ⟨(.sl rfl (λ h=>absurd rfl h) nofun (λ _ h=>absurd h (Nat.not_lt_zero _))),(.sl rfl (λ h=>absurd rfl h) nofun (λ _ h=>absurd h (Nat.not_lt_zero _))),(.refl _),(.sl rfl (λ h=>absurd rfl h) nofun (λ _ h=>absurd h (Nat.not_lt_zero _))),(.refl _),(.sl rfl (λ h=>absurd rfl h) nofun (λ _ h=>absurd h (Nat.not_lt_zero _))),trivial⟩),(Le.y9 ⟨(.sl rfl (λ h=>absurd rfl h) nofun (λ _ h=>absurd h (Nat.not_lt_zero _))),(.sl rfl (λ h=>absurd rfl h) nofun (λ _ h=>absurd h (Nat.not_lt_zero _))),(.sl rfl (λ h=>absurd rfl h) nofun (λ _ h=>absurd h (Nat.not_lt_zero _))),(.sl rfl (λ h=>absurd rfl h) nofun (λ _ h=>absurd h (Nat.not_lt_zero _))),(.refl _),(.sl rfl (λ h=>absurd rfl h) nofun (λ _ h=>absurd h (Nat.not_lt_zero _))),trivial⟩),(.sl oz (λ _=>rfl) nofun (iL oz (λ _ _=>.refl _) oz (λ _ _=>.refl _))),.refl _,trivial⟩ trivial),?_⟩
   (conv=>whnf)
   exact ⟨(([v4]:List aN),v10.2.1,v10.2.2,v10.1.Setting,v10.1.bX.On,v10.1.bX.bJ,v10.1.Uses,v10.1.Released,v10.1.cO),[(3,some 4),(4,some 85)],[],hm,⟨rfl,⟨r4,sr,r4,r4,⟨oz,(λ _=>rfl),nofun,(λ _ _=>.refl _)⟩,r2,⟨rfl,rfl,rfl,rfl,nofun⟩,r2,sr,r2,r4,rfl,r2,trivial⟩,⟨⟨sr,sr,r2,sr,sr,sr,trivial⟩,⟨sr,sr,sr,sr,sr,sr,trivial⟩,⟨sr,sr,sr,sr,sr,sr,trivial⟩,⟨rfl,rfl,(λ _ _=>.refl _)⟩,⟨sf,sf,sf,sf,sf,sf,trivial⟩,trivial⟩⟩⟩
  ·(conv=>whnf)
   have c1:=hm.1
   have hm:=hm.2
   refine fG (λ _=>?_) (λ q=>Bool.noConfusion (q.symm.trans c1))
   (conv=>whnf)
   refine dh hm λ v6 hv6 hm=>?_
   refine ⟨_,_,(λ q0=>((sF (hv6 q0)).le ⟨.refl _,(.sl rfl (λ _=>rfl) nofun (fM fE dI [(⟨(11:Int),(0:Int),(1:Int)⟩:aN)])),trivial⟩ trivial)),?_⟩
   (conv=>whnf)
   have c2:=hm.1
   have hm:=hm.2
   refine fG (λ _=>?_) (λ q=>Bool.noConfusion (q.symm.trans c2))
   (conv=>whnf)
   refine dh hm λ v7 hv7 hm=>?_
   refine ⟨_,_,(λ q0=>((sF (hv7 q0)).le ⟨.refl _,(.sl rfl (λ _=>rfl) nofun (fM fE dI [(⟨(11:Int),(0:Int),(0:Int)⟩:aN)])),trivial⟩ trivial)),?_⟩
   (conv=>whnf)
   refine dh hm λ v8 DJ hm=>?_
   refine ⟨_,_,(λ q0=>((wD (DJ q0)).le ⟨.refl _,(Le.y9 ⟨(.sl rfl (λ h=>absurd rfl h) nofun (λ _ h=>absurd h (Nat.not_lt_zero _))),(.sl rfl (λ h=>absurd rfl h) nofun (λ _ h=>absurd h (Nat.not_lt_zero _))),(.sl rfl (λ h=>absurd rfl h) nofun (λ _ h=>absurd h (Nat.not_lt_zero _))),(.sl rfl (λ h=>absurd rfl h) nofun (λ _ h=>absurd h (Nat.not_lt_zero _))),(.refl _),(.sl rfl (λ h=>absurd rfl h) nofun (λ _ h=>absurd h (Nat.not_lt_zero _))),trivial⟩),trivial⟩ trivial)),?_⟩
   (conv=>whnf)
   refine dh hm λ v9 hv9 hm=>?_
   refine ⟨_,_,(λ q0=>((ET (hv9 q0)).le ⟨(Le.y9 ⟨(.sl rfl (λ h=>absurd rfl h) nofun (λ _ h=>absurd h (Nat.not_lt_zero _))),(.sl rfl (λ h=>absurd rfl h) nofun (λ _ h=>absurd h (Nat.not_lt_zero _))),(.refl _),(.sl rfl (λ h=>absurd rfl h) nofun (λ _ h=>absurd h (Nat.not_lt_zero _))),(.refl _),(.sl rfl (λ h=>absurd rfl h) nofun (λ _ h=>absurd h (Nat.not_lt_zero _))),trivial⟩),.refl _,(Le.y9 ⟨(.sl rfl (λ h=>absurd rfl h) nofun (λ _ h=>absurd h (Nat.not_lt_zero _))),(.sl rfl (λ h=>absurd rfl h) nofun (λ _ h=>absurd h (Nat.not_lt_zero _))),(.sl rfl (λ h=>absurd rfl h) nofun (λ _ h=>absurd h (Nat.not_lt_zero _))),(.sl rfl (λ h=>absurd rfl h) nofun (λ _ h=>absurd h (Nat.not_lt_zero _))),(.refl _),(.sl rfl (λ h=>absurd rfl h) nofun (λ _ h=>absurd h (Nat.not_lt_zero _))),trivial⟩),(Le.y9 ⟨(.sl rfl (λ h=>absurd rfl h) nofun (λ _ h=>absurd h (Nat.not_lt_zero _))),(.sl rfl (λ h=>absurd rfl h) nofun (λ _ h=>absurd h (Nat.not_lt_zero _))),(.sl rfl (λ h=>absurd rfl h) nofun (λ _ h=>absurd h (Nat.not_lt_zero _))),(.sl rfl (λ h=>absurd rfl h) nofun (λ _ h=>absurd h (Nat.not_lt_zero _))),(.refl _),(.sl rfl (λ h=>absurd rfl h) nofun (λ _ h=>absurd h (Nat.not_lt_zero _))),trivial⟩),(.sl rfl (λ h=>absurd rfl h) nofun (λ _ h=>absurd h (Nat.not_lt_zero _))),.refl _,trivial⟩ trivial)),?_⟩
   (conv=>whnf)
   have hm:r=((((((((((v1.1==(0:Int))&&v6)&&(v2.1==(0:Int)))&&((v2.2.length:Int)==(0:Int)))&&(g5.2==(0:Int)))&&v7)&&(g6.2.2.1==(0:Int)))&&(!g6.2.1))&&v8)&&v9):=hm
   subst hm
   refine ⟨[],[],?_⟩
   (conv=>whnf)
   exact ⟨⟨rfl,trivial,trivial⟩,rfl⟩
 ·(conv=>whnf)
  refine QO (ct:=[1,2,3,4,7,8]) gZ dk dk (K4 g3 g4 v1 v2 g5 v4) r (λ g7=>⟨[(1,.ptr 0 0 0),(2,dV g3),(3,.ptr 1 0 0),(4,.ptr 2 0 0),(5,.dQ 3 0 g7.1 false),(6,iV v1.1),(7,.dQ 4 0 v2.2.length false),(8,iV v2.1),(9,iC g5.1),(10,iV g5.2),(11,.ptr 5 0 0),(12,.bool g7.2.1),(13,iV g7.2.2.1)],[(0,some (.box [.sl 0 0 true dN,.sl 0 0 true dN,iV (0:Int),.sl 0 0 true dN,dA g4.1,.sl 0 0 true dN])),(1,some (.box [.sl 0 0 true dN,.sl 0 0 true dN,.sl 0 0 true dN,.sl 0 0 true dN,aL g4.2.1,.sl 0 0 true dN])),(2,some (.box [.sl 0 0 true dN,.sl 0 0 true dN,.sl 0 0 true dN,.sl 0 0 true dN,aL g4.2.2,.sl 0 0 true dN])),(3,some (.row 3 (([v4,v4]:List aN).length) (bC fE dI ([v4,v4]:List aN)))),(4,some (.row 3 v2.2.length (bC fE dI v2.2))),(5,some (.box [av g7.2.2.2.1,aL g7.2.2.2.2.1,av g7.2.2.2.2.2.1,bL g7.2.2.2.2.2.2.1,aL g7.2.2.2.2.2.2.2.1,aL g7.2.2.2.2.2.2.2.2]))],6⟩) ?_ (λ g7 hm=>?_)
  ·(conv=>whnf)
   refine aO hm λ h5 hm=>?_
   (conv=>whnf)
   refine dh hm λ v16 acG hm=>?_
   refine ⟨_,_,((OZ acG).le ⟨(Le.y9 ⟨(.sl rfl (λ h=>absurd rfl h) nofun (λ _ h=>absurd h (Nat.not_lt_zero _))),(.sl rfl (λ h=>absurd rfl h) nofun (λ _ h=>absurd h (Nat.not_lt_zero _))),(.refl _),(.sl rfl (λ h=>absurd rfl h) nofun (λ _ h=>absurd h (Nat.not_lt_zero _))),(.refl _),(.sl rfl (λ h=>absurd rfl h) nofun (λ _ h=>absurd h (Nat.not_lt_zero _))),trivial⟩),(Le.y9 ⟨(.sl rfl (λ h=>absurd rfl h) nofun (λ _ h=>absurd h (Nat.not_lt_zero _))),(.sl rfl (λ h=>absurd rfl h) nofun (λ _ h=>absurd h (Nat.not_lt_zero _))),(.sl rfl (λ h=>absurd rfl h) nofun (λ _ h=>absurd h (Nat.not_lt_zero _))),(.sl rfl (λ h=>absurd rfl h) nofun (λ _ h=>absurd h (Nat.not_lt_zero _))),(.refl _),(.sl rfl (λ h=>absurd rfl h) nofun (λ _ h=>absurd h (Nat.not_lt_zero _))),trivial⟩),.refl _,.refl _,trivial⟩ ⟨⟨rfl,oz,aoJ⟩,trivial⟩),?_⟩
   (conv=>whnf)
   exact ⟨(1,v16.2.1,v16.2.2,v16.1.Setting,v16.1.bX.On,v16.1.bX.bJ,v16.1.Uses,v16.1.Released,v16.1.cO),[(5,some 85)],[],hm,⟨rfl,⟨r4,sr,r4,r4,⟨rfl,rfl,rfl,rfl,nofun⟩,r2,⟨rfl,rfl,rfl,rfl,nofun⟩,r2,sr,r2,r4,rfl,r2,trivial⟩,⟨⟨sr,sr,r2,sr,sr,sr,trivial⟩,⟨sr,sr,sr,sr,sr,sr,trivial⟩,⟨sr,sr,sr,sr,sr,sr,trivial⟩,⟨rfl,rfl,(λ _ _=>.refl _)⟩,⟨rfl,rfl,(λ _ _=>.refl _)⟩,⟨sf,sf,sf,sf,sf,sf,trivial⟩,trivial⟩⟩⟩
  ·(conv=>whnf)
   have h4:=hm.1
   have hm:=hm.2
   have c3:=hm.1
   have hm:=hm.2
   refine fG (λ _=>?_) (λ q=>Bool.noConfusion (q.symm.trans c3))
   (conv=>whnf)
   refine dh hm λ v12 TL hm=>?_
   refine ⟨_,_,(λ q0=>((sF (TL q0)).le ⟨(.sl oz (λ _=>rfl) nofun (lX (f:=fE) (d:=dI) (by first | omega | exact Nat.min_le_left _ _ | exact Nat.le_trans (Nat.min_le_left _ _) om | (simp; omega)))),(.sl rfl (λ _=>rfl) nofun (fM fE dI [(⟨(11:Int),(0:Int),(1:Int)⟩:aN)])),trivial⟩ trivial)),?_⟩
   (conv=>whnf)
   have c4:=hm.1
   have hm:=hm.2
   refine fG (λ _=>?_) (λ q=>Bool.noConfusion (q.symm.trans c4))
   (conv=>whnf)
   refine dh hm λ v13 R8 hm=>?_
   refine ⟨_,_,(λ q0=>((sF (R8 q0)).le ⟨.refl _,(.sl rfl (λ _=>rfl) nofun (fM fE dI [(⟨(11:Int),(0:Int),(0:Int)⟩:aN)])),trivial⟩ trivial)),?_⟩
   (conv=>whnf)
   refine dh hm λ v14 Xv hm=>?_
   refine ⟨_,_,(λ q0=>((wD (Xv q0)).le ⟨.refl _,(Le.y9 ⟨(.sl rfl (λ h=>absurd rfl h) nofun (λ _ h=>absurd h (Nat.not_lt_zero _))),(.sl rfl (λ h=>absurd rfl h) nofun (λ _ h=>absurd h (Nat.not_lt_zero _))),(.sl rfl (λ h=>absurd rfl h) nofun (λ _ h=>absurd h (Nat.not_lt_zero _))),(.sl rfl (λ h=>absurd rfl h) nofun (λ _ h=>absurd h (Nat.not_lt_zero _))),(.refl _),(.sl rfl (λ h=>absurd rfl h) nofun (λ _ h=>absurd h (Nat.not_lt_zero _))),trivial⟩),trivial⟩ trivial)),?_⟩
   (conv=>whnf)
   refine dh hm λ v15 aar hm=>?_
   refine ⟨_,_,(λ q0=>((ET (aar q0)).le ⟨(Le.y9 ⟨(.sl rfl (λ h=>absurd rfl h) nofun (λ _ h=>absurd h (Nat.not_lt_zero _))),(.sl rfl (λ h=>absurd rfl h) nofun (λ _ h=>absurd h (Nat.not_lt_zero _))),(.refl _),(.sl rfl (λ h=>absurd rfl h) nofun (λ _ h=>absurd h (Nat.not_lt_zero _))),(.refl _),(.sl rfl (λ h=>absurd rfl h) nofun (λ _ h=>absurd h (Nat.not_lt_zero _))),trivial⟩),.refl _,(Le.y9 ⟨(.sl rfl (λ h=>absurd rfl h) nofun (λ _ h=>absurd h (Nat.not_lt_zero _))),(.sl rfl (λ h=>absurd rfl h) nofun (λ _ h=>absurd h (Nat.not_lt_zero _))),(.sl rfl (λ h=>absurd rfl h) nofun (λ _ h=>absurd h (Nat.not_lt_zero _))),(.sl rfl (λ h=>absurd rfl h) nofun (λ _ h=>absurd h (Nat.not_lt_zero _))),(.refl _),(.sl rfl (λ h=>absurd rfl h) nofun (λ _ h=>absurd h (Nat.not_lt_zero _))),trivial⟩),(Le.y9 ⟨(.sl rfl (λ h=>absurd rfl h) nofun (λ _ h=>absurd h (Nat.not_lt_zero _))),(.sl rfl (λ h=>absurd rfl h) nofun (λ _ h=>absurd h (Nat.not_lt_zero _))),(.sl rfl (λ h=>absurd rfl h) nofun (λ _ h=>absurd h (Nat.not_lt_zero _))),(.sl rfl (λ h=>absurd rfl h) nofun (λ _ h=>absurd h (Nat.not_lt_zero _))),(.refl _),(.sl rfl (λ h=>absurd rfl h) nofun (λ _ h=>absurd h (Nat.not_lt_zero _))),trivial⟩),(.sl rfl (λ h=>absurd rfl h) nofun (λ _ h=>absurd h (Nat.not_lt_zero _))),(.sl oz (λ _=>rfl) nofun (lX (f:=fE) (d:=dI) (by first | omega | exact Nat.min_le_left _ _ | exact Nat.le_trans (Nat.min_le_left _ _) om | (simp; omega)))),trivial⟩ trivial)),?_⟩
   (conv=>whnf)
   have hm:r=((((((((((v1.1==(0:Int))&&v12)&&(v2.1==(0:Int)))&&((v2.2.length:Int)==(0:Int)))&&(g5.2==(0:Int)))&&v13)&&(g7.2.2.1==(0:Int)))&&(!g7.2.1))&&v14)&&v15):=hm
   subst hm
   refine ⟨[],[],?_⟩
   (conv=>whnf)
   exact ⟨⟨rfl,trivial,trivial⟩,rfl⟩
theorem Z5 {l_:List Int} {r:List Int×Int} (hm:Pw l_ r):S 8 [av l_] [] (.ptr 0 0 0) [.box [av r.1,iV r.2]] :=sp Tryz.func8 rfl<|sn hm λ _ hm=>by cases hm;exact rt [] [(0,some 56)]
theorem Z6 {x_:Int} {r:Int} (hm:Px x_ n_ r):S 84 [iV x_,iV n_] [] (iV r) [] :=sp Tryz.func84 rfl<|si hm (λ _ hm=>by cases hm;exact re) λ _ hm=>s2 hm λ _ _ hm=>sn hm λ _ hm=>by cases hm;exact re
variable {dx:dH}
theorem bY {r:Int×dH} (hm:eH n_ dx r):S 25 [.ptr 0 0 0,iV n_] [.box [av dx.L,iV dx.At]] (iV r.1) [.box [av r.2.L,iV r.2.At]] :=sp Tryz.func25 rfl<|si hm (λ _ hm=>by cases hm;exact re) λ _ hm=>s2 hm λ _ _ hm=>sn hm λ _ hm=>sq hm Z6 λ v1 hm=>by cases hm;exact re
theorem gK {l_:List Int} {r:Int×dH} (hm:gU l_ dx r):S 137 [.ptr 0 0 0,av l_] [.box [av dx.L,iV dx.At]] (iV r.1) [.box [av r.2.L,iV r.2.At]] :=sp Tryz.func137 rfl<|sq hm bY λ v1 hm=>sn hm λ _ hm=>by cases hm;exact re
theorem Mt {r:List ay×dH} (hm:uy dx r):S 68 [.ptr 0 0 0] [.box [av dx.L,iV dx.At]] (aW r.1) [.box [av r.2.L,iV r.2.At]] :=spc [20,22] Tryz.func68 rfl<|sq hm bY λ v1 hm=>Xk [20,22] hm (λ g1=>⟨[(0,.ptr 0 0 0),(3,.dQ 1 0 g1.2.2.2.length false),(4,iV g1.1)],[(0,some (.box [av g1.2.1,iV g1.2.2.1])),(1,some (.row 5 g1.2.2.2.length (bC MU aI g1.2.2.2)))],2⟩) [(1,none)] [] <|λ ah g1 hm=>si hm (λ _ hm=>sb hm λ v28 hv28 hm=>cl ((gK hv28).le ⟨.refl _,(.sl rfl (λ _=>rfl) nofun (fM iV 0 [(12:Int),(24:Int),(48:Int),(100:Int)])),trivial⟩ ⟨oh _,trivial⟩)<|ck [20,22] (eZ g1 ah) r (λ g7=>⟨[(0,.ptr 0 0 0),(3,.dQ 1 0 g1.2.2.2.length false),(4,iV g1.1),(5,.ptr 2 0 0)],[(0,some (.box [av g7.1,iV g7.2.1])),(1,some (.row 5 g1.2.2.2.length (bC MU aI g1.2.2.2))),(2,some (.box [iV g7.2.2.1,.dQ 3 0 g7.2.2.2.2.1.length false,.dQ 4 0 g7.2.2.2.2.2.length false,iV (0:Int),iV g7.2.2.2.1])),(3,some (.row 1 g7.2.2.2.2.1.length (bC iV 0 g7.2.2.2.2.1))),(4,some (.row 1 g7.2.2.2.2.2.length (bC iV 0 g7.2.2.2.2.2)))],5⟩) (si hm (λ _ hm=>sq hm bY λ v41 hm=>si hm (λ _ hm=>sq hm bY λ v42 hm=>ck [20,22] (gD g1 ah) r (λ g8=>⟨[(0,.ptr 0 0 0),(3,.dQ 1 0 g1.2.2.2.length false),(4,iV g1.1),(5,.ptr 2 0 0),(25,iV v41.1)],[(0,some (.box [av g8.1,iV g8.2.1])),(1,some (.row 5 g1.2.2.2.length (bC MU aI g1.2.2.2))),(2,some (.box [iV g8.2.2.1,.dQ 3 0 g8.2.2.2.1.length false,.dQ 4 0 g8.2.2.2.2.length false,iV (0:Int),iV (0:Int)])),(3,some (.row 1 g8.2.2.2.1.length (bC iV 0 g8.2.2.2.1))),(4,some (.row 1 g8.2.2.2.2.length (bC iV 0 g8.2.2.2.2)))],5⟩) (sq hm bY λ v49 hm=>si hm (λ _ hm=>sb hm λ v50 acv hm=>cl ((gK acv).le ⟨.refl _,(.sl rfl (λ _=>rfl) nofun (fM iV 0 [(3:Int),(4:Int),(8:Int)])),trivial⟩ ⟨oh _,trivial⟩)<|lc [(2,some 58),(3,some 178),(4,some 258)] [] hm) λ _ hm=>si hm (λ _ hm=>sb hm λ v51 aoN hm=>cl ((gK aoN).le ⟨.refl _,(.sl rfl (λ _=>rfl) nofun (fM iV 0 [(2:Int),(3:Int)])),trivial⟩ ⟨oh _,trivial⟩)<|lc [(2,some 58),(3,some 178),(4,some 274)] [] hm) λ _ hm=>si hm (λ _ hm=>lc [(2,some 58),(3,some 178),(4,some 266)] [] hm) λ _ hm=>si hm (λ _ hm=>sn hm λ _ hm=>sq hm bY λ v52 hm=>sn hm λ _ hm=>lc [(2,some 58),(3,some 346),(4,some 354)] [] hm) λ _ hm=>lc [(2,some 58),(3,some 178),(4,some 282)] [] hm) λ g8 hm=>sq hm bY λ v47 hm=>si hm (λ _ hm=>sb hm λ v48 Zj hm=>cl ((gK Zj).le ⟨.refl _,(.sl rfl (λ _=>rfl) nofun (fM iV 0 [(24:Int),(48:Int),(96:Int)])),trivial⟩ ⟨oh _,trivial⟩)<|le hm) λ _ hm=>le hm) λ _ hm=>lc [(2,some 58),(3,none),(4,some 42)] [] hm) λ c37 hm=>by
 refine ⟨(λ q0=>absurd q0 (vac c37)),?_⟩
 (conv=>whnf)
 refine aO hm λ h28 hm=>?_
 (conv=>whnf)
 exact ⟨(v28.2.L,v28.2.At,(1:Int),(0:Int),([]:List Int),([v28.1]:List Int)),[(2,some 58),(3,none),(4,some 42)],[],hm,⟨rfl,⟨r4,⟨rfl,rfl,rfl,rfl,nofun⟩,r2,r4,trivial⟩,⟨⟨sf,r2,trivial⟩,⟨rfl,rfl,(λ _ _=>.refl _)⟩,⟨r2,⟨rfl,rfl,rfl,rfl,rfl,rfl⟩,⟨rfl,rfl,rfl,rfl,nofun⟩,r2,r2,trivial⟩,rfl,⟨rfl,rfl,(fM iV 0 [v28.1])⟩,trivial⟩⟩⟩) λ g7 hm=>s2 hm λ _ _ hm=>lc [(1,some 29)] [] hm) λ _ hm=>by cases hm;exact rt [1] []
theorem lH {wY:Int} {y8:Int} {r:Int×dH} (hm:j6 wY y8 dx r):S 73 [.ptr 0 0 0,iV wY,iV y8] [.box [av dx.L,iV dx.At]] (iV r.1) [.box [av r.2.L,iV r.2.At]] :=sp Tryz.func73 rfl<|s2 hm λ _ _ hm=>sq hm bY λ v1 hm=>sn hm λ _ hm=>by cases hm;exact re
theorem Ju {r:List aF×dH} (hm:qp dx r):S 69 [.ptr 0 0 0] [.box [av dx.L,iV dx.At]] (aV r.1) [.box [av r.2.L,iV r.2.At]] :=spc [8] Tryz.func69 rfl<|sq hm bY λ v1 hm=>Xk [8] hm (λ g1=>⟨[(0,.ptr 0 0 0),(3,.dQ 1 0 g1.2.2.2.length false),(4,iV g1.1)],[(0,some (.box [av g1.2.1,iV g1.2.2.1])),(1,some (.row 5 g1.2.2.2.length (bC Fw aC g1.2.2.2)))],2⟩) [(1,none)] [] <|λ ah g1 hm=>si hm (λ _ hm=>sn hm λ _ hm=>sq hm lH λ v12 hm=>sb hm λ v13 R8 hm=>cl ((gK R8).le ⟨.refl _,(.sl rfl (λ _=>rfl) nofun (fM iV 0 [(0:Int),(0:Int),(100:Int),(300:Int)])),trivial⟩ ⟨oh _,trivial⟩)<|sb hm λ v14 Xv hm=>cl ((gK Xv).le ⟨.refl _,(.sl rfl (λ _=>rfl) nofun (fM iV 0 [(100:Int),(300:Int),(1000:Int)])),trivial⟩ ⟨oh _,trivial⟩)<|sq hm bY λ v15 hm=>ck [8] (kF g1 ah v12 v14 v15) r (λ g4=>⟨[(0,.ptr 0 0 0),(3,.dQ 1 0 g1.2.2.2.length false),(4,iV g1.1),(5,.ptr 2 0 0)],[(0,some (.box [av v15.2.L,iV v15.2.At])),(1,some (.row 5 g1.2.2.2.length (bC Fw aC g1.2.2.2))),(2,some (.box [iV v12.1,.sl 0 0 true dN,iV g4,iV v14.1,.bool (v15.1==(7:Int))]))],3⟩) (si hm (λ _ hm=>lc [(2,some 138)] [] hm) λ _ hm=>lc [(2,some 138)] [] hm) λ g4 hm=>sq hm bY λ v16 hm=>sn hm λ _ hm=>by
 rcases (by omega:v16.1=0∨v16.1=1∨v16.1=2∨v16.1=3∨v16.1=4) with e1 | e1 | e1 | e1 | e1
 ·rw [e1] at hm ⊢
  (conv=>whnf)
  refine aO hm λ h27 hm=>?_
  (conv=>whnf)
  refine aO hm λ h28 hm=>?_
  (conv=>whnf)
  exact ⟨((g1.1 - (1:Int)),v16.2.L,v16.2.At,(g1.2.2.2++([(⟨v12.1,([(1000:Int),(1200:Int)]:List Int),g4,v14.1,(v15.1==(7:Int))⟩:aF)]:List aF))),[(1,some 123)],[],hm,⟨rfl,⟨r4,⟨rfl,rfl,rfl,oz,nofun⟩,r2,trivial⟩,⟨⟨sf,r2,trivial⟩,⟨rfl,oz,(iL rfl (λ _ _=>.refl _) rfl (Ii (Le.y9 ⟨(.refl _),(.sl rfl (λ _=>rfl) nofun (fM iV 0 [(1000:Int),(1200:Int)])),(.refl _),(.refl _),(.refl _),trivial⟩) (λ _ h=>absurd h (Nat.not_lt_zero _))))⟩,trivial⟩⟩⟩
 ·rw [e1] at hm ⊢
  (conv=>whnf)
  refine aO hm λ h29 hm=>?_
  (conv=>whnf)
  refine aO hm λ h30 hm=>?_
  (conv=>whnf)
  exact ⟨((g1.1 - (1:Int)),v16.2.L,v16.2.At,(g1.2.2.2++([(⟨v12.1,([(1800:Int),(3300:Int)]:List Int),g4,v14.1,(v15.1==(7:Int))⟩:aF)]:List aF))),[(1,some 123)],[],hm,⟨rfl,⟨r4,⟨rfl,rfl,rfl,oz,nofun⟩,r2,trivial⟩,⟨⟨sf,r2,trivial⟩,⟨rfl,oz,(iL rfl (λ _ _=>.refl _) rfl (Ii (Le.y9 ⟨(.refl _),(.sl rfl (λ _=>rfl) nofun (fM iV 0 [(1800:Int),(3300:Int)])),(.refl _),(.refl _),(.refl _),trivial⟩) (λ _ h=>absurd h (Nat.not_lt_zero _))))⟩,trivial⟩⟩⟩
 ·rw [e1] at hm ⊢
  (conv=>whnf)
  refine aO hm λ h31 hm=>?_
  (conv=>whnf)
  refine aO hm λ h32 hm=>?_
  (conv=>whnf)
  exact ⟨((g1.1 - (1:Int)),v16.2.L,v16.2.At,(g1.2.2.2++([(⟨v12.1,([(1000:Int),(1800:Int),(3300:Int)]:List Int),g4,v14.1,(v15.1==(7:Int))⟩:aF)]:List aF))),[(1,some 123)],[],hm,⟨rfl,⟨r4,⟨rfl,rfl,rfl,oz,nofun⟩,r2,trivial⟩,⟨⟨sf,r2,trivial⟩,⟨rfl,oz,(iL rfl (λ _ _=>.refl _) rfl (Ii (Le.y9 ⟨(.refl _),(.sl rfl (λ _=>rfl) nofun (fM iV 0 [(1000:Int),(1800:Int),(3300:Int)])),(.refl _),(.refl _),(.refl _),trivial⟩) (λ _ h=>absurd h (Nat.not_lt_zero _))))⟩,trivial⟩⟩⟩
 ·rw [e1] at hm ⊢
  (conv=>whnf)
  refine aO hm λ h33 hm=>?_
  (conv=>whnf)
  refine aO hm λ h34 hm=>?_
  (conv=>whnf)
  exact ⟨((g1.1 - (1:Int)),v16.2.L,v16.2.At,(g1.2.2.2++([(⟨v12.1,([(3300:Int),(5000:Int)]:List Int),g4,v14.1,(v15.1==(7:Int))⟩:aF)]:List aF))),[(1,some 123)],[],hm,⟨rfl,⟨r4,⟨rfl,rfl,rfl,oz,nofun⟩,r2,trivial⟩,⟨⟨sf,r2,trivial⟩,⟨rfl,oz,(iL rfl (λ _ _=>.refl _) rfl (Ii (Le.y9 ⟨(.refl _),(.sl rfl (λ _=>rfl) nofun (fM iV 0 [(3300:Int),(5000:Int)])),(.refl _),(.refl _),(.refl _),trivial⟩) (λ _ h=>absurd h (Nat.not_lt_zero _))))⟩,trivial⟩⟩⟩
 ·rw [e1] at hm ⊢
  (conv=>whnf)
  refine aO hm λ h35 hm=>?_
  (conv=>whnf)
  refine aO hm λ h36 hm=>?_
  (conv=>whnf)
  exact ⟨((g1.1 - (1:Int)),v16.2.L,v16.2.At,(g1.2.2.2++([(⟨v12.1,([(900:Int)]:List Int),g4,v14.1,(v15.1==(7:Int))⟩:aF)]:List aF))),[(1,some 123)],[],hm,⟨rfl,⟨r4,⟨rfl,rfl,rfl,oz,nofun⟩,r2,trivial⟩,⟨⟨sf,r2,trivial⟩,⟨rfl,oz,(iL rfl (λ _ _=>.refl _) rfl (Ii (Le.y9 ⟨(.refl _),(.sl rfl (λ _=>rfl) nofun (fM iV 0 [(900:Int)])),(.refl _),(.refl _),(.refl _),trivial⟩) (λ _ h=>absurd h (Nat.not_lt_zero _))))⟩,trivial⟩⟩⟩) λ _ hm=>by cases hm;exact rt [1] []
theorem oZ  {r:List ByteArray} (hm:pG r):S 138 [] [] (iA r) [] :=sp Tryz.func138 rfl<|by cases hm;exact rt [8] []
theorem Mv {r:bP×dH} (hm:uz dx r):S 70 [.ptr 0 0 0] [.box [av dx.L,iV dx.At]] (pW r.1) [.box [av r.2.L,iV r.2.At]] :=spc [13,17] Tryz.func70 rfl<|sq hm lH λ v1 hm=>sq hm bY λ v2 hm=>Xk [13,17] hm (λ g1=>⟨[(0,.ptr 0 0 0),(2,.ptr 1 0 0),(3,.ptr 2 0 0),(4,iV g1.1)],[(0,some (.box [av g1.2.1,iV g1.2.2.1])),(1,some (.box [iV (0:Int),.sl 0 0 true dN])),(2,some (.box [iV v1.1,.dQ 3 0 g1.2.2.2.length false])),(3,some (.row 3 g1.2.2.2.length (bC ou aJ g1.2.2.2)))],4⟩) [(2,some 33),(3,none)] [] <|λ ah g1 hm=>si hm (λ _ hm=>sn hm λ _ hm=>by
 refine ⟨(aj7 (es:=[.int .u8 (IntKind.u8.wrap ((97:Int)+(g1.2.2.2.length:Int)))]) rfl),?_⟩
 (conv=>whnf)
 refine aO hm λ h74 hm=>?_
 (conv=>whnf)
 refine dh hm λ v35 aoT hm=>?_
 refine ⟨_,_,(bY aoT),?_⟩
 (conv=>whnf)
 refine nk (ct:=[13,17]) gZ dk hm (λ g12=>⟨[(0,.ptr 0 0 0),(2,.ptr 1 0 0),(3,.ptr 2 0 0),(4,iV g1.1),(5,.ptr 3 0 0),(6,iV v35.1),(7,iV g12.1)],[(0,some (.box [av g12.2.1,iV g12.2.2.1])),(1,some (.box [iV (0:Int),.sl 0 0 true dN])),(2,some (.box [iV v1.1,.dQ 4 0 g1.2.2.2.length false])),(3,some (.box [.str (({ data:=#[103] }:ByteArray)++(strOf ([(IntKind.u8.wrap ((97:Int)+(g1.2.2.2.length:Int)))]:List Int))),.dQ 5 0 g12.2.2.2.length false,.sl 0 0 true dN])),(4,some (.row 3 g1.2.2.2.length (bC ou aJ g1.2.2.2))),(5,some (.row 1 g12.2.2.2.length (bC iV 0 g12.2.2.2)))],6⟩) [(3,some 92),(4,some 3),(5,none)] [] ⟨rfl,⟨r4,r4,r4,r2,r4,r2,r2,trivial⟩,⟨⟨sf,r2,trivial⟩,⟨r2,sr,trivial⟩,⟨r2,⟨rfl,rfl,rfl,rfl,nofun⟩,trivial⟩,⟨rfl,⟨rfl,rfl,rfl,rfl,rfl,rfl⟩,sr,trivial⟩,⟨rfl,rfl,(λ _ _=>.refl _)⟩,rfl,trivial⟩⟩ ?_
 intro afZ g12 hm
 (conv=>whnf)
 refine fQ hm (λ c36 hm=>?_) (λ c36 hm=>?_)
 ·(conv=>whnf)
  refine dh hm λ v38 hv38 hm=>?_
  refine ⟨_,_,(lH hv38),?_⟩
  (conv=>whnf)
  refine aO hm λ h83 hm=>?_
  (conv=>whnf)
  refine fQ hm (λ c37 hm=>?_) (λ c37 hm=>?_)
  ·(conv=>whnf)
   refine aO hm λ h84 hm=>?_
   (conv=>whnf)
   refine aO hm λ h85 hm=>?_
   (conv=>whnf)
   exact ⟨((g12.1+(1:Int)),v38.2.L,v38.2.At,(g12.2.2.2++([g12.1]:List Int))),[(5,some 134)],[],hm,⟨rfl,⟨r4,r4,r4,r2,r4,r2,r2,trivial⟩,⟨⟨sf,r2,trivial⟩,⟨r2,sr,trivial⟩,⟨r2,⟨rfl,rfl,rfl,rfl,nofun⟩,trivial⟩,⟨rfl,⟨rfl,rfl,rfl,oz,nofun⟩,sr,trivial⟩,⟨rfl,rfl,(λ _ _=>.refl _)⟩,⟨rfl,oz,(iL rfl (λ _ _=>.refl _) rfl (fM iV 0 [g12.1]))⟩,trivial⟩⟩⟩
  ·(conv=>whnf)
   refine QO (ct:=[13,17]) gZ dk dk (lu g1 ah v38) r (λ g13=>⟨[(0,.ptr 0 0 0),(2,.ptr 1 0 0),(3,.ptr 2 0 0),(4,iV g1.1),(5,.ptr 3 0 0),(40,iV v38.1)],[(0,some (.box [av v38.2.L,iV v38.2.At])),(1,some (.box [iV (0:Int),.sl 0 0 true dN])),(2,some (.box [iV v1.1,.dQ 4 0 g1.2.2.2.length false])),(3,some (.box [.str (({ data:=#[103] }:ByteArray)++(strOf ([(IntKind.u8.wrap ((97:Int)+(g1.2.2.2.length:Int)))]:List Int))),.dQ 5 0 g13.length false,.sl 0 0 true dN])),(4,some (.row 3 g1.2.2.2.length (bC ou aJ g1.2.2.2))),(5,some (.row 1 g13.length (bC iV 0 g13)))],6⟩) ?_ (λ g13 hm=>?_)
   ·(conv=>whnf)
    refine fQ hm (λ c41 hm=>?_) (λ c41 hm=>?_)
    ·(conv=>whnf)
     exact ⟨([v35.1]:List Int),[(5,some 142)],[],hm,⟨rfl,⟨r4,r4,r4,r2,r4,r2,trivial⟩,⟨⟨sr,r2,trivial⟩,⟨r2,sr,trivial⟩,⟨r2,⟨rfl,rfl,rfl,rfl,nofun⟩,trivial⟩,⟨rfl,⟨rfl,rfl,rfl,rfl,nofun⟩,sr,trivial⟩,⟨rfl,rfl,(λ _ _=>.refl _)⟩,⟨rfl,rfl,(fM iV 0 [v35.1])⟩,trivial⟩⟩⟩
    ·(conv=>whnf)
     exact ⟨g12.2.2.2,[],[],hm,⟨rfl,⟨r4,r4,r4,r2,r4,r2,trivial⟩,⟨⟨sr,r2,trivial⟩,⟨r2,sr,trivial⟩,⟨r2,⟨rfl,rfl,rfl,rfl,nofun⟩,trivial⟩,⟨rfl,⟨rfl,rfl,rfl,rfl,nofun⟩,sr,trivial⟩,⟨rfl,rfl,(λ _ _=>.refl _)⟩,⟨rfl,rfl,(λ _ _=>.refl _)⟩,trivial⟩⟩⟩
   ·(conv=>whnf)
    refine dh hm λ v39 hv39 hm=>?_
    refine ⟨_,_,(bY hv39),?_⟩
    (conv=>whnf)
    refine dh hm λ v40 akv hm=>?_
    refine ⟨_,_,(oZ akv),?_⟩
    (conv=>whnf)
    refine aO hm λ h86 hm=>?_
    (conv=>whnf)
    refine QO (ct:=[13,17]) gZ dk dk (jh g1 ah g13) r (λ g14=>⟨[(0,.ptr 0 0 0),(2,.ptr 1 0 0),(3,.ptr 2 0 0),(4,iV g1.1),(5,.ptr 3 0 0),(40,iV v38.1)],[(0,some (.box [av g14.1,iV g14.2.1])),(1,some (.box [iV (0:Int),.sl 0 0 true dN])),(2,some (.box [iV v1.1,.dQ 4 0 g1.2.2.2.length false])),(3,some (.box [.str (({ data:=#[103] }:ByteArray)++(strOf ([(IntKind.u8.wrap ((97:Int)+(g1.2.2.2.length:Int)))]:List Int))),.dQ 5 0 g13.length false,.dQ 6 0 g14.2.2.length false])),(4,some (.row 3 g1.2.2.2.length (bC ou aJ g1.2.2.2))),(5,some (.row 1 g13.length (bC iV 0 g13))),(6,some (.row 1 g14.2.2.length (bC AV.str ByteArray.empty g14.2.2)))],7⟩) ?_ (λ g14 hm=>?_)
    ·(conv=>whnf)
     refine dh hm λ v43 akw hm=>?_
     refine ⟨_,_,(bY akw),?_⟩
     (conv=>whnf)
     refine fQ hm (λ c40 hm=>?_) (λ c40 hm=>?_)
     ·(conv=>whnf)
      refine dh hm λ v44 akx hm=>?_
      refine ⟨_,_,(oZ akx),?_⟩
      (conv=>whnf)
      refine aO hm λ h93 hm=>?_
      (conv=>whnf)
      refine aO hm λ h94 hm=>?_
      (conv=>whnf)
      refine aO hm λ h95 hm=>?_
      (conv=>whnf)
      refine aO hm λ h96 hm=>?_
      (conv=>whnf)
      exact ⟨(v43.2.L,v43.2.At,(([(v40.getD v39.1.toNat ByteArray.empty)]:List ByteArray)++([(v44.getD (((v39.1+(1:Int)).tmod (4:Int)).toNat) ByteArray.empty)]:List ByteArray))),[(6,some 182)],[],hm,⟨rfl,⟨r4,r4,r4,r2,r4,r2,trivial⟩,⟨⟨sf,r2,trivial⟩,⟨r2,sr,trivial⟩,⟨r2,⟨rfl,rfl,rfl,rfl,nofun⟩,trivial⟩,⟨rfl,⟨rfl,rfl,rfl,rfl,nofun⟩,⟨rfl,rfl,rfl,oz,nofun⟩,trivial⟩,⟨rfl,rfl,(λ _ _=>.refl _)⟩,⟨rfl,rfl,(λ _ _=>.refl _)⟩,⟨rfl,oz,(iL rfl (fM AV.str ByteArray.empty [(v40.getD v39.1.toNat ByteArray.empty)]) rfl (fM AV.str ByteArray.empty [(v44.getD (((v39.1+(1:Int)).tmod (4:Int)).toNat) ByteArray.empty)]))⟩,trivial⟩⟩⟩
     ·(conv=>whnf)
      exact ⟨(v43.2.L,v43.2.At,([(v40.getD v39.1.toNat ByteArray.empty)]:List ByteArray)),[(6,some 62)],[],hm,⟨rfl,⟨r4,r4,r4,r2,r4,r2,trivial⟩,⟨⟨sf,r2,trivial⟩,⟨r2,sr,trivial⟩,⟨r2,⟨rfl,rfl,rfl,rfl,nofun⟩,trivial⟩,⟨rfl,⟨rfl,rfl,rfl,rfl,nofun⟩,⟨rfl,rfl,rfl,rfl,nofun⟩,trivial⟩,⟨rfl,rfl,(λ _ _=>.refl _)⟩,⟨rfl,rfl,(λ _ _=>.refl _)⟩,⟨rfl,rfl,(fM AV.str ByteArray.empty [(v40.getD v39.1.toNat ByteArray.empty)])⟩,trivial⟩⟩⟩
    ·(conv=>whnf)
     refine aO hm λ h91 hm=>?_
     (conv=>whnf)
     refine aO hm λ h92 hm=>?_
     (conv=>whnf)
     exact ⟨((g1.1 - (1:Int)),g14.1,g14.2.1,(g1.2.2.2++([(⟨(({ data:=#[103] }:ByteArray)++(strOf ([(IntKind.u8.wrap ((97:Int)+(g1.2.2.2.length:Int)))]:List Int))),g13,g14.2.2⟩:cB)]:List cB))),[(3,some 39)],[],hm,⟨rfl,⟨r4,r4,r4,r2,trivial⟩,⟨⟨sf,r2,trivial⟩,⟨r2,sr,trivial⟩,⟨r2,⟨rfl,rfl,rfl,oz,nofun⟩,trivial⟩,⟨rfl,oz,(iL rfl (λ _ _=>.refl _) rfl (fM ou aJ [(⟨(({ data:=#[103] }:ByteArray)++(strOf ([(IntKind.u8.wrap ((97:Int)+(g1.2.2.2.length:Int)))]:List Int))),g13,g14.2.2⟩:cB)]))⟩,trivial⟩⟩⟩
 ·(conv=>whnf)
  refine ⟨(λ q0=>absurd q0 (vac c36)),?_⟩
  (conv=>whnf)
  refine ⟨(λ q0=>absurd q0 (vac c36)),?_⟩
  (conv=>whnf)
  refine aO hm λ h97 hm=>?_
  (conv=>whnf)
  refine QO (ct:=[13,17]) gZ dk dk (jY g1 ah g12) r (λ g15=>⟨[(0,.ptr 0 0 0),(2,.ptr 1 0 0),(3,.ptr 2 0 0),(4,iV g1.1),(5,.ptr 3 0 0)],[(0,some (.box [av g12.2.1,iV g12.2.2.1])),(1,some (.box [iV (0:Int),.sl 0 0 true dN])),(2,some (.box [iV v1.1,.dQ 4 0 g1.2.2.2.length false])),(3,some (.box [.str (({ data:=#[103] }:ByteArray)++(strOf ([(IntKind.u8.wrap ((97:Int)+(g1.2.2.2.length:Int)))]:List Int))),.dQ 5 0 g15.length false,.sl 0 0 true dN])),(4,some (.row 3 g1.2.2.2.length (bC ou aJ g1.2.2.2))),(5,some (.row 1 g15.length (bC iV 0 g15)))],6⟩) ?_ (λ g15 hm=>?_)
  ·(conv=>whnf)
   refine fQ hm (λ c45 hm=>?_) (λ c45 hm=>?_)
   ·(conv=>whnf)
    exact ⟨([v35.1]:List Int),[(5,some 142)],[],hm,⟨rfl,⟨r4,r4,r4,r2,r4,trivial⟩,⟨⟨sr,r2,trivial⟩,⟨r2,sr,trivial⟩,⟨r2,⟨rfl,rfl,rfl,rfl,nofun⟩,trivial⟩,⟨rfl,⟨rfl,rfl,rfl,rfl,nofun⟩,sr,trivial⟩,⟨rfl,rfl,(λ _ _=>.refl _)⟩,⟨rfl,rfl,(fM iV 0 [v35.1])⟩,trivial⟩⟩⟩
   ·(conv=>whnf)
    exact ⟨g12.2.2.2,[],[],hm,⟨rfl,⟨r4,r4,r4,r2,r4,trivial⟩,⟨⟨sr,r2,trivial⟩,⟨r2,sr,trivial⟩,⟨r2,⟨rfl,rfl,rfl,rfl,nofun⟩,trivial⟩,⟨rfl,⟨rfl,rfl,rfl,rfl,nofun⟩,sr,trivial⟩,⟨rfl,rfl,(λ _ _=>.refl _)⟩,⟨rfl,rfl,(λ _ _=>.refl _)⟩,trivial⟩⟩⟩
  ·(conv=>whnf)
   refine dh hm λ v45 aky hm=>?_
   refine ⟨_,_,(bY aky),?_⟩
   (conv=>whnf)
   refine dh hm λ v46 af5 hm=>?_
   refine ⟨_,_,(oZ af5),?_⟩
   (conv=>whnf)
   refine aO hm λ h98 hm=>?_
   (conv=>whnf)
   refine QO (ct:=[13,17]) gZ dk dk (iM g1 ah g15) r (λ g16=>⟨[(0,.ptr 0 0 0),(2,.ptr 1 0 0),(3,.ptr 2 0 0),(4,iV g1.1),(5,.ptr 3 0 0)],[(0,some (.box [av g16.1,iV g16.2.1])),(1,some (.box [iV (0:Int),.sl 0 0 true dN])),(2,some (.box [iV v1.1,.dQ 4 0 g1.2.2.2.length false])),(3,some (.box [.str (({ data:=#[103] }:ByteArray)++(strOf ([(IntKind.u8.wrap ((97:Int)+(g1.2.2.2.length:Int)))]:List Int))),.dQ 5 0 g15.length false,.dQ 6 0 g16.2.2.length false])),(4,some (.row 3 g1.2.2.2.length (bC ou aJ g1.2.2.2))),(5,some (.row 1 g15.length (bC iV 0 g15))),(6,some (.row 1 g16.2.2.length (bC AV.str ByteArray.empty g16.2.2)))],7⟩) ?_ (λ g16 hm=>?_)
   ·(conv=>whnf)
    refine dh hm λ v49 af4 hm=>?_
    refine ⟨_,_,(bY af4),?_⟩
    (conv=>whnf)
    refine fQ hm (λ c44 hm=>?_) (λ c44 hm=>?_)
    ·(conv=>whnf)
     refine dh hm λ v50 acv hm=>?_
     refine ⟨_,_,(oZ acv),?_⟩
     (conv=>whnf)
     refine aO hm λ axo hm=>?_
     (conv=>whnf)
     refine aO hm λ axp hm=>?_
     (conv=>whnf)
     refine aO hm λ axq hm=>?_
     (conv=>whnf)
     refine aO hm λ axr hm=>?_
     (conv=>whnf)
     exact ⟨(v49.2.L,v49.2.At,(([(v46.getD v45.1.toNat ByteArray.empty)]:List ByteArray)++([(v50.getD (((v45.1+(1:Int)).tmod (4:Int)).toNat) ByteArray.empty)]:List ByteArray))),[(6,some 182)],[],hm,⟨rfl,⟨r4,r4,r4,r2,r4,trivial⟩,⟨⟨sf,r2,trivial⟩,⟨r2,sr,trivial⟩,⟨r2,⟨rfl,rfl,rfl,rfl,nofun⟩,trivial⟩,⟨rfl,⟨rfl,rfl,rfl,rfl,nofun⟩,⟨rfl,rfl,rfl,oz,nofun⟩,trivial⟩,⟨rfl,rfl,(λ _ _=>.refl _)⟩,⟨rfl,rfl,(λ _ _=>.refl _)⟩,⟨rfl,oz,(iL rfl (fM AV.str ByteArray.empty [(v46.getD v45.1.toNat ByteArray.empty)]) rfl (fM AV.str ByteArray.empty [(v50.getD (((v45.1+(1:Int)).tmod (4:Int)).toNat) ByteArray.empty)]))⟩,trivial⟩⟩⟩
    ·(conv=>whnf)
     exact ⟨(v49.2.L,v49.2.At,([(v46.getD v45.1.toNat ByteArray.empty)]:List ByteArray)),[(6,some 62)],[],hm,⟨rfl,⟨r4,r4,r4,r2,r4,trivial⟩,⟨⟨sf,r2,trivial⟩,⟨r2,sr,trivial⟩,⟨r2,⟨rfl,rfl,rfl,rfl,nofun⟩,trivial⟩,⟨rfl,⟨rfl,rfl,rfl,rfl,nofun⟩,⟨rfl,rfl,rfl,rfl,nofun⟩,trivial⟩,⟨rfl,rfl,(λ _ _=>.refl _)⟩,⟨rfl,rfl,(λ _ _=>.refl _)⟩,⟨rfl,rfl,(fM AV.str ByteArray.empty [(v46.getD v45.1.toNat ByteArray.empty)])⟩,trivial⟩⟩⟩
   ·(conv=>whnf)
    refine aO hm λ axt hm=>?_
    (conv=>whnf)
    refine aO hm λ axu hm=>?_
    (conv=>whnf)
    exact ⟨((g1.1 - (1:Int)),g16.1,g16.2.1,(g1.2.2.2++([(⟨(({ data:=#[103] }:ByteArray)++(strOf ([(IntKind.u8.wrap ((97:Int)+(g1.2.2.2.length:Int)))]:List Int))),g15,g16.2.2⟩:cB)]:List cB))),[(3,some 39)],[],hm,⟨rfl,⟨r4,r4,r4,r2,trivial⟩,⟨⟨sf,r2,trivial⟩,⟨r2,sr,trivial⟩,⟨r2,⟨rfl,rfl,rfl,oz,nofun⟩,trivial⟩,⟨rfl,oz,(iL rfl (λ _ _=>.refl _) rfl (fM ou aJ [(⟨(({ data:=#[103] }:ByteArray)++(strOf ([(IntKind.u8.wrap ((97:Int)+(g1.2.2.2.length:Int)))]:List Int))),g15,g16.2.2⟩:cB)]))⟩,trivial⟩⟩⟩) λ _ hm=>by cases hm;exact rt [3] []
theorem uT {k_:Int} {r:List Int×dH} (hm:oI n_ k_ dx r):S 77 [.ptr 0 0 0,iV n_,iV k_] [.box [av dx.L,iV dx.At]] (av r.1) [.box [av r.2.L,iV r.2.At]] :=sp Tryz.func77 rfl<|lf hm (λ g1=>⟨[(0,.ptr 0 0 0),(1,iV n_),(2,iV k_),(7,.dQ 1 0 g1.2.2.2.length false),(8,iV g1.1)],[(0,some (.box [av g1.2.1,iV g1.2.2.1])),(1,some (.row 1 g1.2.2.2.length (bC iV 0 g1.2.2.2)))],2⟩) [(1,none)] [] <|λ ah g1 hm=>si hm (λ _ hm=>sq hm bY λ v3 hm=>sn hm λ _ hm=>si hm (λ _ hm=>s2 hm λ _ _ hm=>lc [(1,some 98)] [] hm) λ _ hm=>sn hm λ _ hm=>le hm) λ _ hm=>by cases hm;exact rt [1] []
variable {jk:Int}
theorem Mw {r:List eF×dH} (hm:uD jk dx r):S 71 [.ptr 0 0 0,iV jk] [.box [av dx.L,iV dx.At]] (dA r.1) [.box [av r.2.L,iV r.2.At]] :=sp Tryz.func71 rfl<|sn hm λ _ hm=>sq hm bY λ v1 hm=>lf hm (λ g1=>⟨[(0,.ptr 0 0 0),(5,.dQ 1 0 g1.2.2.2.length false),(6,iV g1.1)],[(0,some (.box [av g1.2.1,iV g1.2.2.1])),(1,some (.row 1 g1.2.2.2.length (bC ach dZ g1.2.2.2)))],2⟩) [(1,none)] [] <|λ ah g1 hm=>si hm (λ _ hm=>sq hm uT λ v4 hm=>s2 hm λ _ _ hm=>lc [(1,some 74)] [] hm) λ _ hm=>by cases hm;exact rt [1] []
theorem Ku {r:List dO×dH} (hm:rX jk dx r):S 72 [.ptr 0 0 0,iV jk] [.box [av dx.L,iV dx.At]] (bV r.1) [.box [av r.2.L,iV r.2.At]] :=sp Tryz.func72 rfl<|sn hm λ _ hm=>sq hm bY λ v1 hm=>lf hm (λ g1=>⟨[(0,.ptr 0 0 0),(5,.dQ 1 0 g1.2.2.2.length false),(6,iV g1.1)],[(0,some (.box [av g1.2.1,iV g1.2.2.1])),(1,some (.row 2 g1.2.2.2.length (bC ag1 fH g1.2.2.2)))],2⟩) [(1,none)] [] <|λ ah g1 hm=>si hm (λ _ hm=>sn hm λ _ hm=>sq hm lH λ v6 hm=>sq hm bY λ v7 hm=>s2 hm λ _ _ hm=>lc [(1,some 106)] [] hm) λ _ hm=>by cases hm;exact rt [1] []
theorem O5 {r:aY×dH} (hm:vH dx r):S 21 [.ptr 0 0 0] [.box [av dx.L,iV dx.At]] (iX r.1) [.box [av r.2.L,iV r.2.At]] :=sp Tryz.func21 rfl<|sq hm Mt λ v1 hm=>sq hm Ju λ v2 hm=>sq hm Mv λ v3 hm=>sq hm Mw λ v4 hm=>sq hm Ku λ v5 hm=>by cases hm;exact re
theorem O6 {r:aX×dH} (hm:vI b_ dx r):S 74 [.ptr 0 0 0,iX b_] [.box [av dx.L,iV dx.At]] (xS r.1) [.box [av r.2.L,iV r.2.At]] :=sp Tryz.func74 rfl<|sq hm bY λ v1 hm=>sb hm λ v2 hv2 hm=>cl ((gK hv2).le ⟨.refl _,(.sl rfl (λ _=>rfl) nofun (fM iV 0 [(0:Int),(0:Int),(6:Int),(12:Int),(24:Int)])),trivial⟩ ⟨oh _,trivial⟩)<|sb hm λ v3 hv3 hm=>cl ((gK hv3).le ⟨.refl _,(.sl rfl (λ _=>rfl) nofun (fM iV 0 [(24:Int),(48:Int),(100:Int),(300:Int)])),trivial⟩ ⟨oh _,trivial⟩)<|by cases hm;exact re
theorem QG {r:bU×dH} (hm:yB b_ dx r):S 75 [.ptr 0 0 0,iX b_] [.box [av dx.L,iV dx.At]] (Ij r.1) [.box [av r.2.L,iV r.2.At]] :=sp Tryz.func75 rfl<|sq hm bY λ v1 hm=>sb hm λ v2 hv2 hm=>cl ((gK hv2).le ⟨.refl _,(.sl rfl (λ _=>rfl) nofun (fM iV 0 [(0:Int),(900:Int),(1000:Int),(1800:Int)])),trivial⟩ ⟨oh _,trivial⟩)<|sb hm λ v3 hv3 hm=>cl ((gK hv3).le ⟨.refl _,(.sl rfl (λ _=>rfl) nofun (fM iV 0 [(1800:Int),(3300:Int),(5000:Int)])),trivial⟩ ⟨oh _,trivial⟩)<|sb hm λ v4 hv4 hm=>cl ((gK hv4).le ⟨.refl _,(.sl rfl (λ _=>rfl) nofun (fM iV 0 [(0:Int),(10:Int),(50:Int),(200:Int)])),trivial⟩ ⟨oh _,trivial⟩)<|by cases hm;exact re
theorem QH {l_:List ByteArray} {r:ByteArray×dH} (hm:yC l_ dx r):S 139 [.ptr 0 0 0,iA l_] [.box [av dx.L,iV dx.At]] (.str r.1) [.box [av r.2.L,iV r.2.At]] :=sp Tryz.func139 rfl<|sq hm bY λ v1 hm=>sn hm λ _ hm=>by cases hm;exact re
theorem Kv {r:List ByteArray×dH} (hm:rY jk dx r):S 76 [.ptr 0 0 0,iV jk] [.box [av dx.L,iV dx.At]] (iA r.1) [.box [av r.2.L,iV r.2.At]] :=sp Tryz.func76 rfl<|sn hm λ _ hm=>sq hm bY λ v1 hm=>lf hm (λ g1=>⟨[(0,.ptr 0 0 0),(5,.dQ 1 0 g1.2.2.2.length false),(6,iV g1.1)],[(0,some (.box [av g1.2.1,iV g1.2.2.1])),(1,some (.row 1 g1.2.2.2.length (bC AV.str ByteArray.empty g1.2.2.2)))],2⟩) [(1,none)] [] <|λ ah g1 hm=>si hm (λ _ hm=>sq hm oZ λ v6 hm=>sq hm QH λ v7 hm=>s2 hm λ _ _ hm=>lc [(1,some 58)] [] hm) λ _ hm=>by cases hm;exact rt [1] []
theorem Kw {r:List aS×dH} (hm:rZ b_ jk dx r):S 22 [.ptr 0 0 0,iX b_,iV jk] [.box [av dx.L,iV dx.At]] (dV r.1) [.box [av r.2.L,iV r.2.At]] :=spc [9,11,13,18,19] Tryz.func22 rfl<|sn hm λ _ hm=>sq hm bY λ v1 hm=>Xk [9,11,13,18,19] hm (λ g1=>⟨[(0,.ptr 0 0 0),(4,.ptr 1 0 0),(7,.dQ 2 0 g1.2.2.2.length false),(8,iV v1.1),(9,iV g1.1)],[(0,some (.box [av g1.2.1,iV g1.2.2.1])),(1,some (.box [aW b_.bS,aV b_.bI,iV b_.aZ.bZ,bg b_.aZ.aH,dA b_.bA,bV b_.dD])),(2,some (.row 6 g1.2.2.2.length (bC Cn bG g1.2.2.2)))],3⟩) [(2,none)] [] <|λ ah g1 hm=>si hm (λ _ hm=>sn hm λ _ hm=>sq hm lH λ v46 hm=>ck [9,11,13,18,19] (jO b_ v1 g1 ah v46) r (λ g14=>⟨[(0,.ptr 0 0 0),(4,.ptr 1 0 0),(7,.dQ 2 0 g1.2.2.2.length false),(8,iV v1.1),(9,iV g1.1),(10,.ptr 3 0 0)],[(0,some (.box [av g14.1,iV g14.2.1])),(1,some (.box [aW b_.bS,aV b_.bI,iV b_.aZ.bZ,bg b_.aZ.aH,dA b_.bA,bV b_.dD])),(2,some (.row 6 g1.2.2.2.length (bC Cn bG g1.2.2.2))),(3,some (.box [.dQ 4 0 g14.2.2.length false,.sl 0 0 true dN,.sl 0 0 true dN,.sl 0 0 true dN,iV v46.1,.sl 0 0 true dN])),(4,some (.row 3 g14.2.2.length (bC xS dK g14.2.2)))],5⟩) (si hm (λ _ hm=>sq hm bY λ v66 hm=>si hm (λ _ hm=>sq hm O6 λ v67 hm=>sn hm λ _ hm=>lc [(3,some 83),(4,some 219)] [] hm) λ _ hm=>lc [(3,some 83),(4,none)] [] hm) λ c50 hm=>by
 refine ⟨(λ q0=>absurd q0 (vac c50)),?_⟩
 (conv=>whnf)
 refine aO hm λ h34 hm=>?_
 (conv=>whnf)
 exact ⟨(v46.2.L,v46.2.At,([]:List aX)),[(3,some 83),(4,none)],[],hm,⟨rfl,⟨r4,r4,⟨rfl,rfl,rfl,rfl,nofun⟩,r2,r2,r4,trivial⟩,⟨⟨sf,r2,trivial⟩,⟨sr,sr,r2,sr,sr,sr,trivial⟩,⟨rfl,rfl,(λ _ _=>.refl _)⟩,⟨⟨rfl,rfl,rfl,rfl,rfl,rfl⟩,sr,sr,sr,r2,sr,trivial⟩,rfl,trivial⟩⟩⟩) λ g14 hm=>ck [9,11,13,18,19] (jA b_ v1 g1 ah v46 g14) r (λ g15=>⟨[(0,.ptr 0 0 0),(4,.ptr 1 0 0),(7,.dQ 2 0 g1.2.2.2.length false),(8,iV v1.1),(9,iV g1.1),(10,.ptr 3 0 0)],[(0,some (.box [av g15.1,iV g15.2.1])),(1,some (.box [aW b_.bS,aV b_.bI,iV b_.aZ.bZ,bg b_.aZ.aH,dA b_.bA,bV b_.dD])),(2,some (.row 6 g1.2.2.2.length (bC Cn bG g1.2.2.2))),(3,some (.box [.dQ 4 0 g14.2.2.length false,.dQ 5 0 g15.2.2.length false,.sl 0 0 true dN,.sl 0 0 true dN,iV v46.1,.sl 0 0 true dN])),(4,some (.row 3 g14.2.2.length (bC xS dK g14.2.2))),(5,some (.row 4 g15.2.2.length (bC Ij eD g15.2.2)))],6⟩) (si hm (λ _ hm=>sq hm bY λ v64 hm=>si hm (λ _ hm=>sq hm QG λ v65 hm=>sn hm λ _ hm=>lc [(5,some 125)] [] hm) λ _ hm=>lc [(5,none)] [] hm) λ c48 hm=>by
 refine ⟨(λ q0=>absurd q0 (vac c48)),?_⟩
 (conv=>whnf)
 refine aO hm λ h32 hm=>?_
 (conv=>whnf)
 exact ⟨(g14.1,g14.2.1,([]:List bU)),[(5,none)],[],hm,⟨rfl,⟨r4,r4,⟨rfl,rfl,rfl,rfl,nofun⟩,r2,r2,r4,trivial⟩,⟨⟨sf,r2,trivial⟩,⟨sr,sr,r2,sr,sr,sr,trivial⟩,⟨rfl,rfl,(λ _ _=>.refl _)⟩,⟨⟨rfl,rfl,rfl,rfl,nofun⟩,⟨rfl,rfl,rfl,rfl,rfl,rfl⟩,sr,sr,r2,sr,trivial⟩,⟨rfl,rfl,(λ _ _=>.refl _)⟩,rfl,trivial⟩⟩⟩) λ g15 hm=>ck [9,11,13,18,19] (kI b_ v1 g1 ah v46 g14 g15) r (λ g16=>⟨[(0,.ptr 0 0 0),(4,.ptr 1 0 0),(7,.dQ 2 0 g1.2.2.2.length false),(8,iV v1.1),(9,iV g1.1),(10,.ptr 3 0 0)],[(0,some (.box [av g16.1,iV g16.2.1])),(1,some (.box [aW b_.bS,aV b_.bI,iV b_.aZ.bZ,bg b_.aZ.aH,dA b_.bA,bV b_.dD])),(2,some (.row 6 g1.2.2.2.length (bC Cn bG g1.2.2.2))),(3,some (.box [.dQ 4 0 g14.2.2.length false,.dQ 5 0 g15.2.2.length false,iA g16.2.2,.sl 0 0 true dN,iV v46.1,.sl 0 0 true dN])),(4,some (.row 3 g14.2.2.length (bC xS dK g14.2.2))),(5,some (.row 4 g15.2.2.length (bC Ij eD g15.2.2)))],6⟩) (sq hm bY λ v62 hm=>si hm (λ _ hm=>sq hm Kv λ v63 hm=>le hm) λ _ hm=>le hm) λ g16 hm=>sq hm uT λ v53 hm=>ck [9,11,13,18,19] (kG g1 ah v46 g14 g15 g16 v53) r (λ g18=>⟨[(0,.ptr 0 0 0),(4,.ptr 1 0 0),(7,.dQ 2 0 g1.2.2.2.length false),(8,iV v1.1),(9,iV g1.1),(10,.ptr 3 0 0)],[(0,some (.box [av g18.1,iV g18.2.1])),(1,some (.box [aW b_.bS,aV b_.bI,iV b_.aZ.bZ,bg b_.aZ.aH,dA b_.bA,bV b_.dD])),(2,some (.row 6 g1.2.2.2.length (bC Cn bG g1.2.2.2))),(3,some (.box [.dQ 4 0 g14.2.2.length false,.dQ 5 0 g15.2.2.length false,iA g16.2.2,av v53.1,iV v46.1,av g18.2.2])),(4,some (.row 3 g14.2.2.length (bC xS dK g14.2.2))),(5,some (.row 4 g15.2.2.length (bC Ij eD g15.2.2)))],6⟩) (sq hm bY λ v58 hm=>si hm (λ _ hm=>ck [9,11,13,18,19] (kH g1 ah v46 g14 g15 g16 v53) r (λ g19=>⟨[(0,.ptr 0 0 0),(4,.ptr 1 0 0),(7,.dQ 2 0 g1.2.2.2.length false),(8,iV v1.1),(9,iV g1.1),(10,.ptr 3 0 0),(11,iV g19.1)],[(0,some (.box [av g19.2.1,iV g19.2.2])),(1,some (.box [aW b_.bS,aV b_.bI,iV b_.aZ.bZ,bg b_.aZ.aH,dA b_.bA,bV b_.dD])),(2,some (.row 6 g1.2.2.2.length (bC Cn bG g1.2.2.2))),(3,some (.box [.dQ 4 0 g14.2.2.length false,.dQ 5 0 g15.2.2.length false,iA g16.2.2,av v53.1,iV v46.1,.sl 0 0 true dN])),(4,some (.row 3 g14.2.2.length (bC xS dK g14.2.2))),(5,some (.row 4 g15.2.2.length (bC Ij eD g15.2.2)))],6⟩) (sq hm bY λ v61 hm=>si hm (λ _ hm=>le hm) λ _ hm=>le hm) λ g19 hm=>sq hm uT λ v60 hm=>le hm) λ _ hm=>le hm) λ g18 hm=>s2 hm λ _ _ hm=>lc [(2,some 30)] [] hm) λ _ hm=>si hm (λ _ hm=>sq hm bY λ v68 hm=>si hm (λ _ hm=>sn hm λ _ hm=>Xk [9,11,13,18,19] hm (λ g20=>⟨[(7,.dQ 1 0 g20.2.2.length false),(8,iV v1.1),(12,iV g20.1),(13,iV g20.2.1)],[(0,some (.box [av v68.2.L,iV v68.2.At])),(1,some (.row 6 g20.2.2.length (bC Cn bG g20.2.2)))],2⟩) [(1,some 2)] [] <|λ af2 g20 hm=>si hm (λ _ hm=>s2 hm λ _ _ hm=>s2 hm λ _ _ hm=>s2 hm λ _ _ hm=>le hm) λ _ hm=>Xk [9,11,13,18,19] hm (λ g21=>⟨[(7,.dQ 1 0 g21.2.length false),(8,iV v1.1),(126,iV (g20.2.2.length:Int)),(127,iV g21.1)],[(0,some (.box [av v68.2.L,iV v68.2.At])),(1,some (.row 6 g21.2.length (bC Cn bG g21.2)))],2⟩) [] [] <|λ Zf g21 hm=>si hm (λ _ hm=>s2 hm λ _ _ hm=>Xk [9,11,13,18,19] hm (λ g24=>⟨[(7,.dQ 1 0 g21.2.length false),(8,iV v1.1),(14,iV g21.1),(15,.dQ 2 0 g24.2.length false),(16,iV g24.1),(126,iV (g20.2.2.length:Int)),(127,iV g21.1)],[(0,some (.box [av v68.2.L,iV v68.2.At])),(1,some (.row 6 g21.2.length (bC Cn bG g21.2))),(2,some (.row 1 g24.2.length (bC iV 0 g24.2)))],3⟩) [(2,none)] [] <|λ af0 g24 hm=>si hm (λ _ hm=>s2 hm λ _ _ hm=>s2 hm λ _ _ hm=>s2 hm λ _ _ hm=>lc [(2,some 123)] [] hm) λ _ hm=>s2 hm λ _ _ hm=>le hm) λ _ hm=>by cases hm;exact rt [1] []) λ _ hm=>by cases hm;exact rt [2] []) λ c52 hm=>by
 refine ⟨(λ q0=>absurd q0 (vac c52)),?_⟩
 (conv=>whnf)
 refine aO hm λ axy hm=>?_
 (conv=>whnf)
 have hm:r=(g1.2.2.2,(⟨g1.2.1,g1.2.2.1⟩:dH)):=hm
 subst hm
 refine ⟨[2],[],?_⟩
 (conv=>whnf)
 exact ⟨⟨rfl,trivial,⟨⟨sf,r2,trivial⟩,trivial⟩⟩,sf⟩
theorem ade {l_:List Int} {x_:Int} (hm:Yo l_ x_ r):S 272 [av l_,iV x_] [] (.bool r) [] :=sp Tryz.func272 rfl<|l0 hm (λ g1=>⟨[(0,av l_),(1,iV x_),(5,iV g1)],[],0⟩) <|λ ah g1 hm=>si hm (λ _ hm=>sn hm λ _ hm=>si hm (λ _ hm=>by cases hm;exact re) λ _ hm=>sn hm λ _ hm=>le hm) λ _ hm=>by cases hm;exact re
theorem nM {l_:List Int} {wY:Int} {y8:Int} (hm:lU l_ wY y8 r):S 263 [av l_,iV wY,iV y8] [] (.bool r) [] :=sp Tryz.func263 rfl<|l0 hm (λ g1=>⟨[(0,av l_),(1,iV wY),(2,iV y8),(9,av l_),(10,iV (l_.length:Int)),(11,iV g1)],[],0⟩) <|λ ah g1 hm=>si hm (λ _ hm=>s2 hm λ _ _ hm=>sb hm λ v3 hv3 hm=>cl (λ q0=>((ade (hv3 q0)).le ⟨(.sl oz (λ _=>rfl) nofun (lX (f:=iV) (d:=0) (by first | omega | exact Nat.min_le_left _ _ | exact Nat.le_trans (Nat.min_le_left _ _) om | (simp; omega)))),.refl _,trivial⟩ trivial))<|si hm (λ _ hm=>by cases hm;exact re) λ _ hm=>sn hm λ _ hm=>le hm) λ _ hm=>by cases hm;exact re
theorem O7 {a_:List Int} {b_:List Int} (hm:Iw a_ b_ r):S 134 [av a_,av b_] [] (.bool r) [] :=sp Tryz.func134 rfl<|si hm (λ _ hm=>by cases hm;exact re) λ _ hm=>l0 hm (λ g1=>⟨[(0,av a_),(1,av b_),(5,iV g1)],[],0⟩) <|λ ah g1 hm=>si hm (λ _ hm=>s2 hm λ _ _ hm=>si hm (λ _ hm=>by cases hm;exact re) λ _ hm=>sn hm λ _ hm=>le hm) λ _ hm=>by cases hm;exact re
theorem SC {c_:ay} (hm:Ae c_ r):S 239 [MU c_] [] (.bool r) [] :=sp Tryz.func239 rfl<|si hm (λ _ hm=>s2 hm λ _ _ hm=>by cases hm;exact re) λ _ hm=>si hm (λ _ hm=>si hm (λ _ hm=>sb hm λ v1 hv1 hm=>cl (λ q0=>(nM (hv1 q0)))<|by cases hm;exact re) λ _ hm=>si hm (λ _ hm=>sn hm λ _ hm=>sb hm λ v2 hv2 hm=>cl (λ q0=>(nM (hv2 q0)))<|by cases hm;exact re) λ _ hm=>si hm (λ _ hm=>si hm (λ _ hm=>sb hm λ v3 hv3 hm=>cl (λ q0=>((O7 (hv3 q0)).le ⟨.refl _,(.sl rfl (λ _=>rfl) nofun (fM iV 0 [(0:Int),(1:Int)])),trivial⟩ trivial))<|by cases hm;exact re) λ c6 hm=>by
 refine ⟨.bool false,[],(λ q0=>absurd q0 (vac c6)),?_⟩
 (conv=>whnf)
 have hm:r=(((c_.aT.length:Int)==(1:Int))&&false):=hm
 subst hm
 refine ⟨[],[],?_⟩
 (conv=>whnf)
 exact ⟨⟨rfl,trivial,trivial⟩,rfl⟩) λ _ hm=>by cases hm;exact re) λ _ hm=>si hm (λ _ hm=>sb hm λ v4 hv4 hm=>cl (λ q0=>(nM (hv4 q0)))<|by cases hm;exact re) λ _ hm=>si hm (λ _ hm=>sn hm λ _ hm=>sb hm λ v5 hv5 hm=>cl (λ q0=>(nM (hv5 q0)))<|by cases hm;exact re) λ _ hm=>si hm (λ _ hm=>si hm (λ _ hm=>sb hm λ v6 hv6 hm=>cl (λ q0=>((O7 (hv6 q0)).le ⟨.refl _,(.sl rfl (λ _=>rfl) nofun (fM iV 0 [(0:Int),(1:Int)])),trivial⟩ trivial))<|by cases hm;exact re) λ c10 hm=>by
 refine ⟨.bool false,[],(λ q0=>absurd q0 (vac c10)),?_⟩
 (conv=>whnf)
 have hm:r=(((c_.aT.length:Int)==(1:Int))&&false):=hm
 subst hm
 refine ⟨[],[],?_⟩
 (conv=>whnf)
 exact ⟨⟨rfl,trivial,trivial⟩,rfl⟩) λ _ hm=>by cases hm;exact re
theorem SE {l_:List ay} {r:List Int} (hm:Af l_ r):S 240 [aW l_] [] (av r) [] :=spc [13] Tryz.func240 rfl<|Xk [13] hm (λ g1=>⟨[(3,.dQ 0 0 g1.2.length false),(9,aW l_),(10,iV (l_.length:Int)),(11,iV g1.1)],[(0,some (.row 1 g1.2.length (bC iV 0 g1.2)))],1⟩) [(0,none)] [] <|λ ah g1 hm=>si hm (λ _ hm=>sn hm λ _ hm=>Xk [13] hm (λ g6=>⟨[(3,.dQ 0 0 g1.2.length false),(5,.ptr 1 0 0),(6,iV g6.1),(9,aW l_),(10,iV (l_.length:Int)),(11,iV g1.1),(16,av ((l_.getD g1.1.toNat aI).aT)),(17,iV ((((l_.getD g1.1.toNat aI).aT).length:Nat):Int)),(18,iV g6.2)],[(0,some (.row 1 g1.2.length (bC iV 0 g1.2))),(1,some (.box [iV ((l_.getD g1.1.toNat aI).fC),av ((l_.getD g1.1.toNat aI).aT),av ((l_.getD g1.1.toNat aI).aK),iV ((l_.getD g1.1.toNat aI).Low),iV ((l_.getD g1.1.toNat aI).fJ)]))],2⟩) [(1,some 25)] [] <|λ jD g6 hm=>si hm (λ _ hm=>s2 hm λ _ _ hm=>sn hm λ _ hm=>le hm) λ _ hm=>ck [13] (nI g1 ah) r (λ g7=>⟨[(3,.dQ 0 0 g1.2.length false),(6,iV g7),(9,aW l_),(10,iV (l_.length:Int)),(11,iV g1.1)],[(0,some (.row 1 g1.2.length (bC iV 0 g1.2)))],1⟩) (si hm (λ _ hm=>sn hm λ _ hm=>le hm) λ _ hm=>le hm) λ g7 hm=>s2 hm λ _ _ hm=>lc [(0,some 25)] [] hm) λ _ hm=>by cases hm;exact rt [0] []
theorem uH {l_:List ay} {r:Int} (hm:sZ l_ r):S 187 [aW l_] [] (iV r) [] :=sp Tryz.func187 rfl<|si hm (λ _ hm=>by cases hm;exact re) λ _ hm=>l0 hm (λ g1=>⟨[(0,aW l_),(15,aW l_),(16,iV (l_.length:Int)),(17,iV g1)],[],0⟩) <|λ ah g1 hm=>si hm (λ _ hm=>sn hm λ _ hm=>si hm (λ _ hm=>by cases hm;exact re) λ _ hm=>sn hm λ _ hm=>le hm) λ _ hm=>l0 hm (λ g2=>⟨[(0,aW l_),(5,iV g2.1),(32,aW l_),(33,iV (l_.length:Int)),(34,iV g2.2)],[],0⟩) <|λ dY g2 hm=>si hm (λ _ hm=>sn hm λ _ hm=>lf hm (λ g5=>⟨[(0,aW l_),(5,iV g2.1),(6,iV g2.2),(7,.ptr 0 0 0),(32,aW l_),(33,iV (l_.length:Int)),(34,iV g2.2),(40,av ((l_.getD g2.2.toNat aI).aT)),(41,iV ((((l_.getD g2.2.toNat aI).aT).length:Nat):Int)),(42,iV g5)],[(0,some (.box [iV ((l_.getD g2.2.toNat aI).fC),av ((l_.getD g2.2.toNat aI).aT),av ((l_.getD g2.2.toNat aI).aK),iV ((l_.getD g2.2.toNat aI).Low),iV ((l_.getD g2.2.toNat aI).fJ)]))],1⟩) [(0,some 32)] [] <|λ nC g5 hm=>si hm (λ _ hm=>sn hm λ _ hm=>si hm (λ _ hm=>by cases hm;exact re) λ _ hm=>sn hm λ _ hm=>le hm) λ _ hm=>sq hm SC λ v3 hm=>si hm (λ _ hm=>by cases hm;exact re) λ _ hm=>s2 hm λ _ _ hm=>le hm) λ _ hm=>si hm (λ _ hm=>by cases hm;exact re) λ _ hm=>sq hm SE λ v4 hm=>l0 hm (λ g6=>⟨[(84,av v4),(85,iV (v4.length:Int)),(86,iV g6)],[],0⟩) <|λ jD g6 hm=>si hm (λ _ hm=>sn hm λ _ hm=>si hm (λ _ hm=>by cases hm;exact re) λ _ hm=>sn hm λ _ hm=>le hm) λ _ hm=>by cases hm;exact re
theorem kX {x_:Int} {wY:Int} {y8:Int} (hm:qU x_ wY y8 r):S 198 [iV x_,iV wY,iV y8] [] (.bool r) [] :=sp Tryz.func198 rfl<|by cases hm;exact re
theorem uI {l_:List aF} {r:Int} (hm:tq l_ r):S 126 [aV l_] [] (iV r) [] :=sp Tryz.func126 rfl<|si hm (λ _ hm=>by cases hm;exact re) λ _ hm=>l0 hm (λ g1=>⟨[(0,aV l_),(12,aV l_),(13,iV (l_.length:Int)),(14,iV g1)],[],0⟩) <|λ ah g1 hm=>si hm (λ _ hm=>sn hm λ _ hm=>si hm (λ _ hm=>by cases hm;exact re) λ _ hm=>sn hm λ _ hm=>le hm) λ _ hm=>l0 hm (λ g2=>⟨[(23,aV l_),(24,iV (l_.length:Int)),(25,iV g2)],[],0⟩) <|λ dY g2 hm=>si hm (λ _ hm=>s2 hm λ _ _ hm=>sq hm kX λ v13 hm=>sb hm λ v14 Xv hm=>cl (λ q0=>(kX (Xv q0)))<|sb hm λ v15 aar hm=>cl (λ q0=>(kX (aar q0)))<|si hm (λ _ hm=>by cases hm;exact re) λ _ hm=>lf hm (λ g5=>⟨[(6,.ptr 0 0 0),(23,aV l_),(24,iV (l_.length:Int)),(25,iV g2),(65,av ((l_.getD g2.toNat aC).dB)),(66,iV ((((l_.getD g2.toNat aC).dB).length:Nat):Int)),(67,iV g5)],[(0,some (.box [iV ((l_.getD g2.toNat aC).bf),av ((l_.getD g2.toNat aC).dB),iV ((l_.getD g2.toNat aC).iB),iV ((l_.getD g2.toNat aC).jo),.bool ((l_.getD g2.toNat aC).iy)]))],1⟩) [(0,some 32)] [] <|λ nC g5 hm=>si hm (λ _ hm=>sn hm λ _ hm=>sq hm kX λ v18 hm=>s2 hm λ _ _ hm=>si hm (λ _ hm=>by cases hm;exact re) λ _ hm=>sn hm λ _ hm=>le hm) λ _ hm=>sn hm λ _ hm=>le hm) λ _ hm=>by cases hm;exact re
theorem vN {s_:ByteArray} (hm:wo s_ r):S 190 [.str s_] [] (.bool r) [] :=sp Tryz.func190 rfl<|s2 hm λ _ _ hm=>si hm (λ _ hm=>by cases hm;exact re) λ _ hm=>l0 hm (λ g1=>⟨[(0,.str s_),(3,iV g1)],[],0⟩) <|λ ah g1 hm=>si hm (λ _ hm=>s2 hm λ _ _ hm=>s2 hm λ _ _ hm=>sn hm λ _ hm=>si hm (λ _ hm=>by cases hm;exact re) λ _ hm=>sn hm λ _ hm=>le hm) λ _ hm=>by cases hm;exact re
theorem V5 {p_:bP} {i_:Int} {r:Int} (hm:FT p_ i_ r):S 241 [pW p_,iV i_] [] (iV r) [] :=sp Tryz.func241 rfl<|sn hm λ _ hm=>sq hm vN λ v1 hm=>si hm (λ _ hm=>by cases hm;exact re) λ _ hm=>lf hm (λ g1=>⟨[(1,iV i_),(2,.ptr 0 0 0),(5,.ptr 1 0 0),(6,iV g1)],[(0,some (.box [iV p_.bZ,bg p_.aH])),(1,some (.box [.str ((p_.aH.getD i_.toNat aJ).xD),av ((p_.aH.getD i_.toNat aJ).bZ),iA ((p_.aH.getD i_.toNat aJ).ak)]))],2⟩) [(1,some 56)] [] <|λ ah g1 hm=>si hm (λ _ hm=>sn hm λ _ hm=>si hm (λ _ hm=>by cases hm;exact re) λ _ hm=>sn hm λ _ hm=>le hm) λ _ hm=>si hm (λ _ hm=>by cases hm;exact re) λ _ hm=>si hm (λ _ hm=>by cases hm;exact re) λ _ hm=>l0 hm (λ g2=>⟨[(2,.ptr 0 0 0),(5,.ptr 1 0 0),(7,iV g2)],[(0,some (.box [iV p_.bZ,bg p_.aH])),(1,some (.box [.str ((p_.aH.getD i_.toNat aJ).xD),av ((p_.aH.getD i_.toNat aJ).bZ),iA ((p_.aH.getD i_.toNat aJ).ak)]))],2⟩) <|λ dY g2 hm=>si hm (λ _ hm=>s2 hm λ _ _ hm=>si hm (λ _ hm=>by cases hm;exact re) λ _ hm=>sn hm λ _ hm=>le hm) λ _ hm=>lf hm (λ g3=>⟨[(5,.ptr 0 0 0),(8,iV g3)],[(0,some (.box [.str ((p_.aH.getD i_.toNat aJ).xD),av ((p_.aH.getD i_.toNat aJ).bZ),iA ((p_.aH.getD i_.toNat aJ).ak)]))],1⟩) [(0,some 1)] [] <|λ qJ g3 hm=>si hm (λ _ hm=>s2 hm λ _ _ hm=>sn hm λ _ hm=>si hm (λ _ hm=>by cases hm;exact re) λ _ hm=>sn hm λ _ hm=>le hm) λ _ hm=>l0 hm (λ g4=>⟨[(5,.ptr 0 0 0),(9,iV g4)],[(0,some (.box [.str ((p_.aH.getD i_.toNat aJ).xD),av ((p_.aH.getD i_.toNat aJ).bZ),iA ((p_.aH.getD i_.toNat aJ).ak)]))],1⟩) <|λ iN g4 hm=>si hm (λ _ hm=>sn hm λ _ hm=>sq hm vN λ v4 hm=>si hm (λ _ hm=>by cases hm;exact re) λ _ hm=>sn hm λ _ hm=>le hm) λ _ hm=>l0 hm (λ g5=>⟨[(5,.ptr 0 0 0),(10,iV g5)],[(0,some (.box [.str ((p_.aH.getD i_.toNat aJ).xD),av ((p_.aH.getD i_.toNat aJ).bZ),iA ((p_.aH.getD i_.toNat aJ).ak)]))],1⟩) <|λ nC g5 hm=>si hm (λ _ hm=>l0 hm (λ g8=>⟨[(5,.ptr 0 0 0),(10,iV g5),(11,iV g8)],[(0,some (.box [.str ((p_.aH.getD i_.toNat aJ).xD),av ((p_.aH.getD i_.toNat aJ).bZ),iA ((p_.aH.getD i_.toNat aJ).ak)]))],1⟩) <|λ Zh g8 hm=>si hm (λ _ hm=>s2 hm λ _ _ hm=>si hm (λ _ hm=>by cases hm;exact re) λ _ hm=>sn hm λ _ hm=>le hm) λ _ hm=>sn hm λ _ hm=>le hm) λ _ hm=>by cases hm;exact re
theorem zV {p_:bP} {r:Int} (hm:wS p_ r):S 188 [pW p_] [] (iV r) [] :=sp Tryz.func188 rfl<|si hm (λ _ hm=>by cases hm;exact re) λ _ hm=>si hm (λ _ hm=>by cases hm;exact re) λ _ hm=>l0 hm (λ g1=>⟨[(1,.ptr 0 0 0),(3,iV g1)],[(0,some (.box [iV p_.bZ,bg p_.aH]))],1⟩) <|λ ah g1 hm=>si hm (λ _ hm=>sq hm V5 λ v3 hm=>si hm (λ _ hm=>by cases hm;exact re) λ _ hm=>sn hm λ _ hm=>le hm) λ _ hm=>by cases hm;exact re
theorem zW {l_:List eF} {r:Int} (hm:pI l_ r):S 189 [dA l_] [] (iV r) [] :=sp Tryz.func189 rfl<|si hm (λ _ hm=>by cases hm;exact re) λ _ hm=>l0 hm (λ g1=>⟨[(0,dA l_),(3,iV g1)],[],0⟩) <|λ ah g1 hm=>si hm (λ _ hm=>l0 hm (λ g6=>⟨[(0,dA l_),(3,iV g1),(4,iV g6)],[],0⟩) <|λ jD g6 hm=>sn hm λ _ hm=>si hm (λ _ hm=>s2 hm λ _ _ hm=>s2 hm λ _ _ hm=>si hm (λ _ hm=>by cases hm;exact re) λ _ hm=>sn hm λ _ hm=>le hm) λ _ hm=>l0 hm (λ g7=>⟨[(0,dA l_),(3,iV g1),(5,iV g7)],[],0⟩) <|λ nA g7 hm=>sn hm λ _ hm=>si hm (λ _ hm=>s2 hm λ _ _ hm=>s2 hm λ _ _ hm=>sn hm λ _ hm=>si hm (λ _ hm=>by cases hm;exact re) λ _ hm=>sn hm λ _ hm=>le hm) λ _ hm=>sn hm λ _ hm=>le hm) λ _ hm=>by cases hm;exact re
theorem zX {l_:List dO} {r:Int} (hm:pJ l_ r):S 136 [bV l_] [] (iV r) [] :=sp Tryz.func136 rfl<|si hm (λ _ hm=>by cases hm;exact re) λ _ hm=>l0 hm (λ g1=>⟨[(0,bV l_),(3,iV g1)],[],0⟩) <|λ ah g1 hm=>si hm (λ _ hm=>s2 hm λ _ _ hm=>si hm (λ _ hm=>by cases hm;exact re) λ _ hm=>sn hm λ _ hm=>le hm) λ _ hm=>by cases hm;exact re
theorem V6 {r:Int} (hm:FU b_ r):S 111 [iX b_] [] (iV r) [] :=sp Tryz.func111 rfl<|sq hm uH λ v1 hm=>si hm (λ _ hm=>by cases hm;exact re) λ _ hm=>sq hm uI λ v2 hm=>si hm (λ _ hm=>by cases hm;exact re) λ _ hm=>sq hm zV λ v3 hm=>si hm (λ _ hm=>by cases hm;exact re) λ _ hm=>sq hm zW λ v4 hm=>si hm (λ _ hm=>by cases hm;exact re) λ _ hm=>sq hm zX λ v5 hm=>by cases hm;exact re
theorem XY {x_:aS} {r:Int} (hm:JZ b_ l_ x_ r):S 112 [iX b_,dV l_,Cn x_] [] (iV r) [] :=sp Tryz.func112 rfl<|si hm (λ _ hm=>by cases hm;exact re) λ _ hm=>lf hm (λ g1=>⟨[(1,dV l_),(3,.ptr 0 0 0),(5,.ptr 1 0 0),(35,eu x_.bT),(36,iV (x_.bT.length:Int)),(37,iV g1)],[(0,some (.box [aW b_.bS,aV b_.bI,iV b_.aZ.bZ,bg b_.aZ.aH,dA b_.bA,bV b_.dD])),(1,some (.box [eu x_.bT,fT x_.fI,iA x_.ak,av x_.bA,iV x_.gM,av x_.bq]))],2⟩) [(1,some 8)] [] <|λ ah g1 hm=>si hm (λ _ hm=>sn hm λ _ hm=>si hm (λ _ hm=>by cases hm;exact re) λ _ hm=>sn hm λ _ hm=>le hm) λ _ hm=>l0 hm (λ g2=>⟨[(1,dV l_),(3,.ptr 0 0 0),(5,.ptr 1 0 0),(71,fT x_.fI),(72,iV (x_.fI.length:Int)),(73,iV g2)],[(0,some (.box [aW b_.bS,aV b_.bI,iV b_.aZ.bZ,bg b_.aZ.aH,dA b_.bA,bV b_.dD])),(1,some (.box [eu x_.bT,fT x_.fI,iA x_.ak,av x_.bA,iV x_.gM,av x_.bq]))],2⟩) <|λ dY g2 hm=>si hm (λ _ hm=>sn hm λ _ hm=>si hm (λ _ hm=>by cases hm;exact re) λ _ hm=>sn hm λ _ hm=>le hm) λ _ hm=>l0 hm (λ g3=>⟨[(1,dV l_),(3,.ptr 0 0 0),(5,.ptr 1 0 0),(117,iA x_.ak),(118,iV (x_.ak.length:Int)),(119,iV g3)],[(0,some (.box [aW b_.bS,aV b_.bI,iV b_.aZ.bZ,bg b_.aZ.aH,dA b_.bA,bV b_.dD])),(1,some (.box [eu x_.bT,fT x_.fI,iA x_.ak,av x_.bA,iV x_.gM,av x_.bq]))],2⟩) <|λ qJ g3 hm=>si hm (λ _ hm=>sn hm λ _ hm=>sq hm vN λ v3 hm=>si hm (λ _ hm=>by cases hm;exact re) λ _ hm=>sn hm λ _ hm=>le hm) λ _ hm=>l0 hm (λ g4=>⟨[(1,dV l_),(3,.ptr 0 0 0),(5,.ptr 1 0 0),(128,av x_.bA),(129,iV (x_.bA.length:Int)),(130,iV g4)],[(0,some (.box [aW b_.bS,aV b_.bI,iV b_.aZ.bZ,bg b_.aZ.aH,dA b_.bA,bV b_.dD])),(1,some (.box [eu x_.bT,fT x_.fI,iA x_.ak,av x_.bA,iV x_.gM,av x_.bq]))],2⟩) <|λ iN g4 hm=>si hm (λ _ hm=>sn hm λ _ hm=>si hm (λ _ hm=>by cases hm;exact re) λ _ hm=>sn hm λ _ hm=>le hm) λ _ hm=>si hm (λ _ hm=>by cases hm;exact re) λ _ hm=>lf hm (λ g5=>⟨[(1,dV l_),(5,.ptr 0 0 0),(156,av x_.bq),(157,iV (x_.bq.length:Int)),(158,iV g5)],[(0,some (.box [eu x_.bT,fT x_.fI,iA x_.ak,av x_.bA,iV x_.gM,av x_.bq]))],1⟩) [(0,some 1)] [] <|λ nC g5 hm=>si hm (λ _ hm=>sn hm λ _ hm=>si hm (λ _ hm=>by cases hm;exact re) λ _ hm=>sn hm λ _ hm=>le hm) λ _ hm=>l0 hm (λ g6=>⟨[(5,.ptr 0 0 0),(17,iV g6)],[(0,some (.box [eu x_.bT,fT x_.fI,iA x_.ak,av x_.bA,iV x_.gM,av x_.bq]))],1⟩) <|λ jD g6 hm=>si hm (λ _ hm=>s2 hm λ _ _ hm=>sn hm λ _ hm=>si hm (λ _ hm=>by cases hm;exact re) λ _ hm=>sn hm λ _ hm=>le hm) λ _ hm=>by cases hm;exact re
theorem vO {r:Int} (hm:wu b_ l_ r):S 47 [iX b_,dV l_] [] (iV r) [] :=sp Tryz.func47 rfl<|sq hm V6 λ v1 hm=>si hm (λ _ hm=>by cases hm;exact re) λ _ hm=>si hm (λ _ hm=>by cases hm;exact re) λ _ hm=>l0 hm (λ g1=>⟨[(1,dV l_),(2,.ptr 0 0 0),(6,iV g1)],[(0,some (.box [aW b_.bS,aV b_.bI,iV b_.aZ.bZ,bg b_.aZ.aH,dA b_.bA,bV b_.dD]))],1⟩) <|λ ah g1 hm=>si hm (λ _ hm=>sn hm λ _ hm=>sq hm XY λ v4 hm=>si hm (λ _ hm=>by cases hm;exact re) λ _ hm=>sn hm λ _ hm=>le hm) λ _ hm=>by cases hm;exact re
end Go.Proofs.YtifekdmmpbcdgaaGreatDoor
namespace Go.Proofs.YtifekdmmpbcdgaaGreatDoor
open Go.Ab
theorem ozz {p:Prop} (h:p:=by first | omega | (simp [j5]; done) | (simp [j5,SX]; done) | (simp [j5]; omega) | (simp [j5,SX]; omega)):p:=h
end Go.Proofs.YtifekdmmpbcdgaaGreatDoor

/- An abstract machine over the model's code, that it is sound; models of the functions and their proofs. -/
import Derived.Test.YtifekdmmpbcdgaaGreatDoorA8
set_option linter.unusedVariables false
set_option linter.unusedSimpArgs false
namespace Go.Proofs.YtifekdmmpbcdgaaGreatDoor
open Go.Ab
set_option maxRecDepth 100000
set_option maxHeartbeats 20000000
variable {b_:aP} {g_:aF}
theorem xB {w_:aD} {r:aF×Int} (hm:uw b_ g_ w_ r):S 122 [iM b_,gN g_,fG w_] [] (.jM [gN r.1,iV r.2]) [] :=sp Tryz.func122 rfl<|sq hm mX λ v1 hm=>sq hm SH λ v2 hm=>by
 have h1:=hm.1
 have hm:=hm.2
 refine jq hm (λ c1 hm=>?_) (λ c1 hm=>?_)
 ·(conv=>whnf)
  refine bF hm λ v3 hv3 hm=>?_
  refine ⟨_,_,(mX hv3),?_⟩
  (conv=>whnf)
  have hm:r=((⟨v3.1,(⟨v3.2.1,v3.2.2.1⟩:aW),v3.2.2.2.1,v3.2.2.2.2.1,v3.2.2.2.2.2⟩:aF),(2:Int)):=hm
  subst hm
  refine ⟨[104,105,106,107,108,109],[],?_⟩
  (conv=>whnf)
  exact ⟨⟨rfl,trivial,trivial⟩,(by (conv=>whnf); exact ⟨(by (conv=>whnf); exact ⟨(by (conv=>whnf); exact sf),(by (conv=>whnf); exact ⟨(by (conv=>whnf); exact sf),(by (conv=>whnf); exact ⟨(by (conv=>whnf); exact sf),(by (conv=>whnf); exact ⟨(by (conv=>whnf); exact sf),(by (conv=>whnf); exact ⟨(by (conv=>whnf); exact sf),(by (conv=>whnf); exact ⟨(by (conv=>whnf); exact sf),trivial⟩)⟩)⟩)⟩)⟩)⟩),(by (conv=>whnf); exact ⟨(by first | ((conv=>whnf); exact r2) | exact r2),trivial⟩)⟩)⟩
 ·(conv=>whnf)
  have hm:r=((⟨v2.2.2.1,(⟨v2.2.2.2.1,v2.2.2.2.2.1⟩:aW),(v2.2.2.2.2.2.2.2.take (v2.2.1)),v2.2.2.2.2.2.1,v2.2.2.2.2.2.2.1⟩:aF),(0:Int)):=hm
  subst hm
  refine ⟨[48,49,50,80,52,53],[],?_⟩
  (conv=>whnf)
  exact ⟨⟨rfl,trivial,trivial⟩,(by (conv=>whnf); exact ⟨(by (conv=>whnf); exact ⟨(by (conv=>whnf); exact sf),(by (conv=>whnf); exact ⟨(by (conv=>whnf); exact sf),(by (conv=>whnf); exact ⟨(by (conv=>whnf); exact sf),(by (conv=>whnf); exact ⟨(by (conv=>whnf); exact ⟨oz,(λ _=>rfl),nofun,(iG (f:=jd) (d:=bE) (by first | omega | exact Nat.min_le_left _ _ | exact Nat.le_trans (Nat.min_le_left _ _) om | (simp; omega)))⟩),(by (conv=>whnf); exact ⟨(by (conv=>whnf); exact sf),(by (conv=>whnf); exact ⟨(by (conv=>whnf); exact sf),trivial⟩)⟩)⟩)⟩)⟩)⟩),(by (conv=>whnf); exact ⟨(by first | ((conv=>whnf); exact r2) | exact r2),trivial⟩)⟩)⟩
theorem qx {is_:Bool} {r:Int} (hm:lT is_ r):S 197 [.bool is_] [] (iV r) [] :=sp Tryz.func197 rfl<|si hm (λ _ hm=>by cases hm;exact re) λ _ hm=>by cases hm;exact re
theorem tV {w_:aD} {r:Int} (hm:oQ g_ w_ r):S 123 [gN g_,fG w_] [] (iV r) [] :=sp Tryz.func123 rfl<|si hm (λ _ hm=>sn hm λ _ hm=>by cases hm;exact re) λ _ hm=>si hm (λ _ hm=>sn hm λ _ hm=>by cases hm;exact re) λ _ hm=>si hm (λ _ hm=>sn hm λ _ hm=>sq hm qx λ v1 hm=>by cases hm;exact re) λ _ hm=>si hm (λ _ hm=>sn hm λ _ hm=>sq hm qx λ v2 hm=>by cases hm;exact re) λ _ hm=>si hm (λ _ hm=>sn hm λ _ hm=>sq hm qx λ v3 hm=>by cases hm;exact re) λ _ hm=>lf hm (λ g1=>⟨[(3,.ptr 0 0 0),(59,bn g_.Uses),(60,iV (g_.Uses.length:Int)),(61,iV g1)],[(0,some (.box [iV w_.eT,iV w_.Unit,iV w_.Value]))],1⟩) [(0,some 8)] [] <|λ ah g1 hm=>si hm (λ _ hm=>sn hm λ _ hm=>si hm (λ _ hm=>sn hm λ _ hm=>by cases hm;exact re) λ _ hm=>sn hm λ _ hm=>le hm) λ _ hm=>by cases hm;exact re
theorem Ci {bX:List aD} {r:aF×List aD×Int} (hm:El b_ g_ bX r):S 50 [iM b_,gN g_,.dF 0 0 bX.length false] [.row 3 bX.length (bA fG dJ bX)] (.jM [gN r.1,fH r.2.1,iV r.2.2]) [.row 3 bX.length (bA fG dJ bX)] :=sp Tryz.func50 rfl<|lf hm (λ g1=>⟨[(3,.ptr 1 0 0),(4,.ptr 2 0 0),(6,.ptr 3 0 0),(9,.dF 4 0 g1.2.2.2.2.2.2.2.length false),(14,.dF 0 0 bX.length false),(15,iV (bX.length:Int)),(16,iV g1.1)],[(0,some (.row 3 bX.length (bA fG dJ bX))),(1,some (.box [aU b_.bT,aT b_.bD,iV b_.aQ.dz,aX b_.aQ.aG,bV b_.bf,bI b_.bO])),(2,some (.box [ak g1.2.1,av g1.2.2.1,ak g1.2.2.2.1,bn g1.2.2.2.2.1,av g1.2.2.2.2.2.1,av g1.2.2.2.2.2.2.1])),(3,some (.box [.sl 0 0 true cK,.sl 0 0 true cK,.sl 0 0 true cK,.sl 0 0 true cK,.sl 0 0 true cK,.sl 0 0 true cK])),(4,some (.row 3 g1.2.2.2.2.2.2.2.length (bA fG dJ g1.2.2.2.2.2.2.2)))],5⟩) [(2,some 9),(3,some 17),(4,none)] [] <|λ ah g1 hm=>si hm (λ _ hm=>sn hm λ _ hm=>sq hm xB λ v5 hm=>by
 have c6:=hm.1
 have hm:=hm.2
 refine aS (λ q=>Bool.noConfusion (c6.symm.trans q)) (λ _=>?_)
 (conv=>whnf)
 refine bF hm λ v6 hv6 hm=>?_
 refine ⟨_,_,(tV hv6),?_⟩
 (conv=>whnf)
 refine aN hm λ h8 hm=>?_
 (conv=>whnf)
 refine aN hm λ h9 hm=>?_
 (conv=>whnf)
 exact ⟨((g1.1+(1:Int)),v5.1.Setting,v5.1.aY.On,v5.1.aY.bC,v5.1.Uses,v5.1.Released,v5.1.bq,(g1.2.2.2.2.2.2.2++([(⟨(bX.getD g1.1.toNat dJ).eT,(bX.getD g1.1.toNat dJ).Unit,v6⟩:aD)]:List aD))),[(4,some 221)],[],hm,⟨rfl,⟨r4,r4,r4,⟨rfl,rfl,rfl,oz,nofun⟩,⟨rfl,rfl,rfl,rfl,nofun⟩,r2,r2,trivial⟩,⟨⟨rfl,rfl,(λ _ _=>.refl _)⟩,⟨sr,sr,r2,sr,sr,sr,trivial⟩,⟨sf,sf,sf,sf,sf,sf,trivial⟩,⟨sr,sr,sr,sr,sr,sr,trivial⟩,⟨rfl,oz,(iP rfl (λ _ _=>.refl _) rfl (fT fG dJ [(⟨(bX.getD g1.1.toNat dJ).eT,(bX.getD g1.1.toNat dJ).Unit,v6⟩:aD)]))⟩,trivial⟩⟩⟩) λ _ hm=>sq hm jr λ v7 hm=>by
 have h10:=hm.1
 have hm:=hm.2
 refine bF hm λ v8 vZ hm=>?_
 refine ⟨_,_,(mX vZ),?_⟩
 (conv=>whnf)
 have hm:r=((⟨v8.1,(⟨v8.2.1,v8.2.2.1⟩:aW),v8.2.2.2.1,v8.2.2.2.2.1,v8.2.2.2.2.2⟩:aF),(v7.take (g1.2.2.2.2.2.2.2.length)),(0:Int)):=hm
 subst hm
 refine ⟨[37,38,39,40,41,42,4],[],?_⟩
 (conv=>whnf)
 exact ⟨⟨rfl,trivial,⟨⟨rfl,rfl,(λ _ _=>.refl _)⟩,trivial⟩⟩,(by (conv=>whnf); exact ⟨(by (conv=>whnf); exact ⟨(by (conv=>whnf); exact sf),(by (conv=>whnf); exact ⟨(by (conv=>whnf); exact sf),(by (conv=>whnf); exact ⟨(by (conv=>whnf); exact sf),(by (conv=>whnf); exact ⟨(by (conv=>whnf); exact sf),(by (conv=>whnf); exact ⟨(by (conv=>whnf); exact sf),(by (conv=>whnf); exact ⟨(by (conv=>whnf); exact sf),trivial⟩)⟩)⟩)⟩)⟩)⟩),(by (conv=>whnf); exact ⟨(by (conv=>whnf); exact ⟨oz,(λ _=>rfl),nofun,(iG (f:=fG) (d:=dJ) (by first | omega | exact Nat.min_le_left _ _ | exact Nat.le_trans (Nat.min_le_left _ _) om | (simp; omega)))⟩),(by (conv=>whnf); exact ⟨(by first | ((conv=>whnf); exact r2) | exact r2),trivial⟩)⟩)⟩)⟩
variable {from_:aF}
theorem Q9 {bX:List aD} {r:List aD×Int} (hm:Qb b_ from_ bX r):S 13 [iM b_,gN from_,.dF 0 0 bX.length false] [.row 3 bX.length (bA fG dJ bX)] (.jM [fH r.1,iV r.2]) [.row 3 bX.length (bA fG dJ bX)] :=sp Tryz.func13 rfl<|sq hm Ci λ v1 hm=>by cases hm;exact re
variable {w_:List aD}
theorem lG {r:aF×List aD×Int} (hm:jV b_ g_ w_ r):S 50 [iM b_,gN g_,fH w_] [] (.jM [gN r.1,fH r.2.1,iV r.2.2]) [] :=sp Tryz.func50 rfl<|lf hm (λ g1=>⟨[(3,.ptr 0 0 0),(4,.ptr 1 0 0),(6,.ptr 2 0 0),(9,.dF 3 0 g1.2.2.2.2.2.2.2.length false),(14,fH w_),(15,iV (w_.length:Int)),(16,iV g1.1)],[(0,some (.box [aU b_.bT,aT b_.bD,iV b_.aQ.dz,aX b_.aQ.aG,bV b_.bf,bI b_.bO])),(1,some (.box [ak g1.2.1,av g1.2.2.1,ak g1.2.2.2.1,bn g1.2.2.2.2.1,av g1.2.2.2.2.2.1,av g1.2.2.2.2.2.2.1])),(2,some (.box [.sl 0 0 true cK,.sl 0 0 true cK,.sl 0 0 true cK,.sl 0 0 true cK,.sl 0 0 true cK,.sl 0 0 true cK])),(3,some (.row 3 g1.2.2.2.2.2.2.2.length (bA fG dJ g1.2.2.2.2.2.2.2)))],4⟩) [(1,some 8),(2,some 16),(3,none)] [] <|λ ah g1 hm=>si hm (λ _ hm=>sn hm λ _ hm=>sq hm xB λ v5 hm=>si hm (λ _ hm=>by cases hm;exact re) λ _ hm=>sq hm tV λ v6 hm=>s2 hm λ _ _ hm=>lc [(3,some 220)] [] hm) λ _ hm=>sq hm jr λ v7 hm=>by
 have h10:=hm.1
 have hm:=hm.2
 refine bF hm λ v8 vZ hm=>?_
 refine ⟨_,_,(mX vZ),?_⟩
 (conv=>whnf)
 have hm:r=((⟨v8.1,(⟨v8.2.1,v8.2.2.1⟩:aW),v8.2.2.2.1,v8.2.2.2.2.1,v8.2.2.2.2.2⟩:aF),(v7.take (g1.2.2.2.2.2.2.2.length)),(0:Int)):=hm
 subst hm
 refine ⟨[36,37,38,39,40,41,3],[],?_⟩
 (conv=>whnf)
 exact ⟨⟨rfl,trivial,trivial⟩,(by (conv=>whnf); exact ⟨(by (conv=>whnf); exact ⟨(by (conv=>whnf); exact sf),(by (conv=>whnf); exact ⟨(by (conv=>whnf); exact sf),(by (conv=>whnf); exact ⟨(by (conv=>whnf); exact sf),(by (conv=>whnf); exact ⟨(by (conv=>whnf); exact sf),(by (conv=>whnf); exact ⟨(by (conv=>whnf); exact sf),(by (conv=>whnf); exact ⟨(by (conv=>whnf); exact sf),trivial⟩)⟩)⟩)⟩)⟩)⟩),(by (conv=>whnf); exact ⟨(by (conv=>whnf); exact ⟨oz,(λ _=>rfl),nofun,(iG (f:=fG) (d:=dJ) (by first | omega | exact Nat.min_le_left _ _ | exact Nat.le_trans (Nat.min_le_left _ _) om | (simp; omega)))⟩),(by (conv=>whnf); exact ⟨(by first | ((conv=>whnf); exact r2) | exact r2),trivial⟩)⟩)⟩)⟩
theorem DR {kZ:Int} {r:aF×Bool×Int} (hm:vB b_ from_ w_ kZ r):S 15 [iM b_,gN from_,fH w_,iV kZ] [] (.jM [gN r.1,.bool r.2.1,iV r.2.2]) [] :=sp Tryz.func15 rfl<|sq hm lG λ v1 hm=>si hm (λ _ hm=>by cases hm;exact re) λ _ hm=>si hm (λ _ hm=>by cases hm;exact re) λ _ hm=>sn hm λ _ hm=>sb hm λ v2 hv2 hm=>cl ((lG hv2).le ⟨.refl _,.refl _,(.sl oz (λ _=>rfl) nofun (iG (f:=fG) (d:=dJ) (by first | omega | exact Nat.min_le_left _ _ | exact Nat.le_trans (Nat.min_le_left _ _) om | (simp; omega)))),trivial⟩ trivial)<|sq hm lG λ v3 hm=>by cases hm;exact re
variable {r:Bool}
theorem pK {a_:List aD} {b_:List aD} (hm:vC a_ b_ r):S 20 [fH a_,fH b_] [] (.bool r) [] :=sp Tryz.func20 rfl<|by
 have c1:=hm.1
 have hm:=hm.2
 refine aS (λ q=>Bool.noConfusion (c1.symm.trans q)) (λ _=>?_)
 (conv=>whnf)
 refine eD (ct:=[]) eX dk hm (λ g1=>⟨[(0,fH a_),(1,fH b_),(5,iV g1)],[],0⟩) [] [] ⟨rfl,⟨sr,sr,r2,trivial⟩,trivial⟩ ?_
 intro ah g1 hm
 (conv=>whnf)
 refine jq hm (λ c6 hm=>?_) (λ c6 hm=>?_)
 ·(conv=>whnf)
  refine aN hm λ h7 hm=>?_
  (conv=>whnf)
  refine aN hm λ h8 hm=>?_
  (conv=>whnf)
  have c7:=hm.1
  have hm:=hm.2
  refine aS (λ q=>Bool.noConfusion (c7.symm.trans q)) (λ _=>?_)
  (conv=>whnf)
  refine aN hm λ h9 hm=>?_
  (conv=>whnf)
  exact ⟨(g1+(1:Int)),[],[],hm,⟨rfl,⟨sr,sr,r2,trivial⟩,trivial⟩⟩
 ·(conv=>whnf)
  have hm:r=true:=hm
  subst hm
  refine ⟨[],[],?_⟩
  (conv=>whnf)
  exact ⟨⟨rfl,trivial,trivial⟩,rfl⟩
theorem wM {WX:List Int} {s2_:List Int} (hm:slices_Equal_int WX s2_ r):S 51 [ak WX,ak s2_] [] (.bool r) [] :=sp Tryz.func51 rfl<|si hm (λ _ hm=>by cases hm;exact re) λ _ hm=>l0 hm (λ g1=>⟨[(0,ak WX),(1,ak s2_),(12,iV (WX.length:Int)),(13,iV g1)],[],0⟩) <|λ ah g1 hm=>si hm (λ _ hm=>s2 hm λ _ _ hm=>si hm (λ _ hm=>by cases hm;exact re) λ _ hm=>sn hm λ _ hm=>le hm) λ _ hm=>by cases hm;exact re
theorem nV {WX:List Bool} {s2_:List Bool} (hm:kF WX s2_ r):S 53 [av WX,av s2_] [] (.bool r) [] :=sp Tryz.func53 rfl<|si hm (λ _ hm=>by cases hm;exact re) λ _ hm=>l0 hm (λ g1=>⟨[(0,av WX),(1,av s2_),(12,iV (WX.length:Int)),(13,iV g1)],[],0⟩) <|λ ah g1 hm=>si hm (λ _ hm=>s2 hm λ _ _ hm=>si hm (λ _ hm=>by cases hm;exact re) λ _ hm=>sn hm λ _ hm=>le hm) λ _ hm=>by cases hm;exact re
theorem O6 {a_:aW} {b_:aW} (hm:Em a_ b_ r):S 52 [kH a_,kH b_] [] (.bool r) [] :=sp Tryz.func52 rfl<|sq hm nV λ v1 hm=>sb hm λ v2 hv2 hm=>cl (λ q0=>(wM (hv2 q0)))<|by cases hm;exact re
theorem L8 {u_:au} {a1_:iJ→Option Int} (hm:za u_ a1_ r):S 125 [jd u_,.ro [.pm (.struct [(0,3),(1,3)]) [.bool] a1_]] [] (.bool r) [] :=sp Tryz.func125 rfl<|by cases hm;exact re
theorem uR {s_:List au} {f_:iJ→Option Int} {r:Int} (hm:kI s_ f_ r):S 184 [bn s_,.fn 125 [.ro [.pm (.struct [(0,3),(1,3)]) [.bool] f_]]] [] (iV r) [] :=sp Tryz.func184 rfl<|l0 hm (λ g1=>⟨[(0,bn s_),(1,.fn 125 [.ro [.pm (.struct [(0,3),(1,3)]) [.bool] f_]]),(7,iV (s_.length:Int)),(8,iV g1)],[],0⟩) <|λ ah g1 hm=>si hm (λ _ hm=>sn hm λ _ hm=>sq hm L8 λ v3 hm=>si hm (λ _ hm=>by cases hm;exact re) λ _ hm=>sn hm λ _ hm=>le hm) λ _ hm=>by cases hm;exact re
theorem uS {s_:List au} {f_:iJ→Option Int} (hm:kJ s_ f_ r):S 124 [bn s_,.fn 125 [.ro [.pm (.struct [(0,3),(1,3)]) [.bool] f_]]] [] (.bool r) [] :=sp Tryz.func124 rfl<|sq hm uR λ v1 hm=>by cases hm;exact re
theorem Cj {a_:List au} {b_:List au} (hm:rW a_ b_ r):S 54 [bn a_,bn b_] [] (.bool r) [] :=sp Tryz.func54 rfl<|lf hm (λ g1=>⟨[(0,bn a_),(5,.ptr 0 0 0),(9,bn b_),(10,iV (b_.length:Int)),(11,iV g1.1)],[(0,some (.box [.mref 1])),(1,some (.map (.struct [(0,3),(1,3)]) [.bool] g1.2))],2⟩) [(0,some 16),(1,some 8)] [] <|λ ah g1 hm=>si hm (λ _ hm=>s2 hm λ _ _ hm=>le hm) λ _ hm=>sq hm uS λ v1 hm=>by cases hm;exact re
theorem nW {a_:aF} {b_:aF} (hm:l6 a_ b_ r):S 16 [gN a_,gN b_] [] (.bool r) [] :=sp Tryz.func16 rfl<|sq hm wM λ v1 hm=>sb hm λ v2 hv2 hm=>cl (λ q0=>(O6 (hv2 q0)))<|sb hm λ v3 hv3 hm=>cl (λ q0=>(nV (hv3 q0)))<|sb hm λ v4 hv4 hm=>cl (λ q0=>(nV (hv4 q0)))<|si hm (λ _ hm=>by cases hm;exact re) λ _ hm=>sq hm Cj λ v5 hm=>sb hm λ v6 hv6 hm=>cl (λ q0=>(Cj (hv6 q0)))<|by cases hm;exact re
theorem Nj {w_:aD} {afI:List ay} {afJ:List aC} {afK:Int} {afL:List dD} {afM:List eu} {afN:List dG} {afO:List aO} {afP:List Int} {Zl:Nat} {Zm:Nat} {R4:Nat} {R5:Nat} {R6:Nat} {aaG:Bool} {C8:List Int} {C9:List Bool} {zA:List Int} {qV:List au} {Da:List Bool} {Db:List Bool} {r:Bool×Nat×Nat×Nat×Nat×Nat×List Bool} (hm:KC w_ afI afJ afK afL afM afN afO afP Zl Zm R4 R5 R6 aaG C8 C9 zA qV Da Db r):S 110 [.ptr 0 0 8,fG w_] [.box [aU afI,aT afJ,iV afK,aX afL,bV afM,bI afN,dB afO,ak afP,.dF 1 0 Zl false,.dF 2 0 Zm false,.dF 3 0 R4 false,.dF 4 0 R5 false,.dF 5 0 Da.length false,.dF 6 0 R6 false,.bool aaG],.row 1 C8.length (bA iV 0 C8),.row 1 C9.length (bA AV.bool false C9),.row 1 zA.length (bA iV 0 zA),.row 3 qV.length (bA jd bE qV),.row 1 Da.length (bA AV.bool false Da),.row 1 Db.length (bA AV.bool false Db)] (.bool r.1) [.box [aU afI,aT afJ,iV afK,aX afL,bV afM,bI afN,dB afO,ak afP,.dF 1 0 r.2.1 false,.dF 2 0 r.2.2.1 false,.dF 3 0 r.2.2.2.1 false,.dF 4 0 r.2.2.2.2.1 false,.dF 5 0 r.2.2.2.2.2.2.length false,.dF 6 0 r.2.2.2.2.2.1 false,.bool aaG],.row 1 C8.length (bA iV 0 C8),.row 1 C9.length (bA AV.bool false C9),.row 1 zA.length (bA iV 0 zA),.row 3 qV.length (bA jd bE qV),.row 1 r.2.2.2.2.2.2.length (bA AV.bool false r.2.2.2.2.2.2),.row 1 Db.length (bA AV.bool false Db)] :=sp Tryz.func110 rfl<|by
 have h2:=hm.1
 have hm:=hm.2
 have c1:=hm.1
 have hm:=hm.2
 refine aS (λ q=>Bool.noConfusion (c1.symm.trans q)) (λ _=>?_)
 (conv=>whnf)
 have c2:=hm.1
 have hm:=hm.2
 refine aS (λ q=>Bool.noConfusion (c2.symm.trans q)) (λ _=>?_)
 (conv=>whnf)
 have c3:=hm.1
 have hm:=hm.2
 refine aS (λ q=>Bool.noConfusion (c3.symm.trans q)) (λ _=>?_)
 (conv=>whnf)
 have c4:=hm.1
 have hm:=hm.2
 refine aS (λ q=>Bool.noConfusion (c4.symm.trans q)) (λ _=>?_)
 (conv=>whnf)
 have c5:=hm.1
 have hm:=hm.2
 refine aS (λ _=>?_) (λ q=>Bool.noConfusion (q.symm.trans c5))
 (conv=>whnf)
 have c6:=hm.1
 have hm:=hm.2
 refine aS (λ _=>?_) (λ q=>Bool.noConfusion (q.symm.trans c6))
 (conv=>whnf)
 refine bF hm λ v1 hv1 hm=>?_
 refine ⟨_,_,(mq hv1),?_⟩
 (conv=>whnf)
 have h1:=hm.1
 have hm:=hm.2
 have hm:r=(((decide (w_.Value≤(1:Int)))&&v1.1),Zl,Zm,R4,R5,R6,v1.2):=hm
 subst hm
 refine ⟨[],[],?_⟩
 (conv=>whnf)
 exact ⟨⟨rfl,trivial,⟨⟨sr,sr,r2,sr,sr,sr,sr,sr,⟨rfl,rfl,rfl,rfl,nofun⟩,⟨rfl,rfl,rfl,rfl,nofun⟩,⟨rfl,rfl,rfl,rfl,nofun⟩,⟨rfl,rfl,rfl,rfl,nofun⟩,⟨rfl,rfl,rfl,(by first | omega | (simp; omega)),nofun⟩,⟨rfl,rfl,rfl,rfl,nofun⟩,rfl,trivial⟩,⟨rfl,rfl,(λ _ _=>.refl _)⟩,⟨rfl,rfl,(λ _ _=>.refl _)⟩,⟨rfl,rfl,(λ _ _=>.refl _)⟩,⟨rfl,rfl,(λ _ _=>.refl _)⟩,⟨rfl,rfl,(λ _ _=>.refl _)⟩,⟨rfl,rfl,(λ _ _=>.refl _)⟩,trivial⟩⟩,rfl⟩
variable {l_:List aO} {aj:List Int}
theorem SI {r:aF×Int×Int×Int} (hm:TT b_ l_ aj g_ w_ r):S 46 [iM b_,dB l_,ak aj,gN g_,fH w_] [] (.jM [gN r.1,iV r.2.1,iV r.2.2.1,iV r.2.2.2]) [] :=sp Tryz.func46 rfl<|sq hm zn λ v1 hm=>by
 have c1:=hm.1
 have hm:=hm.2
 refine aS (λ q=>Bool.noConfusion (c1.symm.trans q)) (λ _=>?_)
 (conv=>whnf)
 refine bF hm λ v2 hv2 hm=>?_
 refine ⟨_,_,(yP hv2),?_⟩
 (conv=>whnf)
 have c2:=hm.1
 have hm:=hm.2
 refine aS (λ q=>Bool.noConfusion (c2.symm.trans q)) (λ _=>?_)
 (conv=>whnf)
 refine bF hm λ v3 hv3 hm=>?_
 refine ⟨_,_,(mX hv3),?_⟩
 (conv=>whnf)
 refine bF hm λ v4 hv4 hm=>?_
 refine ⟨_,_,(mW hv4),?_⟩
 (conv=>whnf)
 have c3:=hm.1
 have hm:=hm.2
 refine aS (λ q=>Bool.noConfusion (c3.symm.trans q)) (λ _=>?_)
 (conv=>whnf)
 refine eD (ct:=[]) eX dk hm (λ g1=>⟨[(4,fH w_),(10,.ptr 0 0 0),(15,.ptr 1 0 0),(45,fH w_),(46,iV (w_.length:Int)),(47,iV g1.1)],[(0,some (.box [.sl 0 0 true cK,.sl 0 0 true cK,.sl 0 0 true cK,.sl 0 0 true cK,.sl 0 0 true cK,.sl 0 0 true cK])),(1,some (.box [aU b_.bT,aT b_.bD,iV b_.aQ.dz,aX b_.aQ.aG,bV b_.bf,bI b_.bO,dB l_,ak aj,.dF 2 0 g1.2.1 false,.dF 3 0 g1.2.2.1 false,.dF 4 0 g1.2.2.2.1 false,.dF 5 0 g1.2.2.2.2.1 false,.dF 6 0 g1.2.2.2.2.2.2.length false,.dF 7 0 g1.2.2.2.2.2.1 false,.bool true])),(2,some (.row 1 v3.1.length (bA iV 0 v3.1))),(3,some (.row 1 v3.2.1.length (bA AV.bool false v3.2.1))),(4,some (.row 1 v3.2.2.1.length (bA iV 0 v3.2.2.1))),(5,some (.row 3 v3.2.2.2.1.length (bA jd bE v3.2.2.2.1))),(6,some (.row 1 g1.2.2.2.2.2.2.length (bA AV.bool false g1.2.2.2.2.2.2))),(7,some (.row 1 v3.2.2.2.2.2.length (bA AV.bool false v3.2.2.2.2.2)))],8⟩) [(0,some 16),(1,some 176),(2,some 160),(3,some 161),(4,some 162),(5,some 163),(6,some 164),(7,some 165)] [] ⟨rfl,⟨sr,r4,r4,sr,r2,r2,trivial⟩,⟨⟨sr,sr,sr,sr,sr,sr,trivial⟩,⟨sr,sr,r2,sr,sr,sr,sr,sr,⟨rfl,rfl,rfl,rfl,nofun⟩,⟨rfl,rfl,rfl,rfl,nofun⟩,⟨rfl,rfl,rfl,rfl,nofun⟩,⟨rfl,rfl,rfl,rfl,nofun⟩,⟨rfl,rfl,rfl,rfl,nofun⟩,⟨rfl,rfl,rfl,rfl,nofun⟩,rfl,trivial⟩,⟨rfl,rfl,(λ _ _=>.refl _)⟩,⟨rfl,rfl,(λ _ _=>.refl _)⟩,⟨rfl,rfl,(λ _ _=>.refl _)⟩,⟨rfl,rfl,(λ _ _=>.refl _)⟩,⟨rfl,rfl,(λ _ _=>.refl _)⟩,⟨rfl,rfl,(λ _ _=>.refl _)⟩,trivial⟩⟩ ?_
 intro ah g1 hm
 (conv=>whnf)
 have h10:=hm.1
 have hm:=hm.2
 refine jq hm (λ c10 hm=>?_) (λ c10 hm=>?_)
 ·(conv=>whnf)
  refine aN hm λ h7 hm=>?_
  (conv=>whnf)
  refine bF hm λ v9 QB hm=>?_
  refine ⟨_,_,(Nj QB),?_⟩
  (conv=>whnf)
  have h8:=hm.1
  have hm:=hm.2
  have c11:=hm.1
  have hm:=hm.2
  refine aS (λ q=>Bool.noConfusion (c11.symm.trans q)) (λ _=>?_)
  (conv=>whnf)
  refine bF hm λ v10 Ar hm=>?_
  refine ⟨_,_,((mW Ar).le ⟨(Le.u6 ⟨(.refl _),(.refl _),(.refl _),(.refl _),(.refl _),(.refl _),(.refl _),(.refl _),(.sl oz (λ _=>rfl) nofun (iG (f:=iV) (d:=0) (by first | omega | exact Nat.min_le_left _ _ | exact Nat.le_trans (Nat.min_le_left _ _) om | (simp; omega)))),(.sl oz (λ _=>rfl) nofun (iG (f:=AV.bool) (d:=false) (by first | omega | exact Nat.min_le_left _ _ | exact Nat.le_trans (Nat.min_le_left _ _) om | (simp; omega)))),(.sl oz (λ _=>rfl) nofun (iG (f:=iV) (d:=0) (by first | omega | exact Nat.min_le_left _ _ | exact Nat.le_trans (Nat.min_le_left _ _) om | (simp; omega)))),(.sl oz (λ _=>rfl) nofun (iG (f:=jd) (d:=bE) (by first | omega | exact Nat.min_le_left _ _ | exact Nat.le_trans (Nat.min_le_left _ _) om | (simp; omega)))),(.refl _),(.sl oz (λ _=>rfl) nofun (iG (f:=AV.bool) (d:=false) (by first | omega | exact Nat.min_le_left _ _ | exact Nat.le_trans (Nat.min_le_left _ _) om | (simp; omega)))),(.refl _),trivial⟩),trivial⟩ trivial),?_⟩
  (conv=>whnf)
  have c12:=hm.1
  have hm:=hm.2
  refine aS (λ q=>Bool.noConfusion (c12.symm.trans q)) (λ _=>?_)
  (conv=>whnf)
  refine aN hm λ h9 hm=>?_
  (conv=>whnf)
  exact ⟨((g1.1+(1:Int)),v9.2.1,v9.2.2.1,v9.2.2.2.1,v9.2.2.2.2.1,v9.2.2.2.2.2.1,v9.2.2.2.2.2.2),[],[],hm,⟨rfl,⟨sr,r4,r4,sr,r2,r2,trivial⟩,⟨⟨sr,sr,sr,sr,sr,sr,trivial⟩,⟨sr,sr,r2,sr,sr,sr,sr,sr,⟨rfl,rfl,rfl,rfl,nofun⟩,⟨rfl,rfl,rfl,rfl,nofun⟩,⟨rfl,rfl,rfl,rfl,nofun⟩,⟨rfl,rfl,rfl,rfl,nofun⟩,⟨rfl,rfl,rfl,rfl,nofun⟩,⟨rfl,rfl,rfl,rfl,nofun⟩,rfl,trivial⟩,⟨rfl,rfl,(λ _ _=>.refl _)⟩,⟨rfl,rfl,(λ _ _=>.refl _)⟩,⟨rfl,rfl,(λ _ _=>.refl _)⟩,⟨rfl,rfl,(λ _ _=>.refl _)⟩,⟨rfl,rfl,(λ _ _=>.refl _)⟩,⟨rfl,rfl,(λ _ _=>.refl _)⟩,trivial⟩⟩⟩
 ·(conv=>whnf)
  have hm:r=((⟨(v3.1.take (g1.2.1)),(⟨(v3.2.1.take (g1.2.2.1)),(v3.2.2.1.take (g1.2.2.2.1))⟩:aW),(v3.2.2.2.1.take (g1.2.2.2.2.1)),g1.2.2.2.2.2.2,(v3.2.2.2.2.2.take (g1.2.2.2.2.2.1))⟩:aF),(w_.length:Int),(0:Int),(0:Int)):=hm
  subst hm
  refine ⟨[2,3,4,5,6,7],[],?_⟩
  (conv=>whnf)
  exact ⟨⟨rfl,trivial,trivial⟩,(by (conv=>whnf); exact ⟨(by (conv=>whnf); exact ⟨(by (conv=>whnf); exact ⟨oz,(λ _=>rfl),nofun,(iG (f:=iV) (d:=0) (by first | omega | exact Nat.min_le_left _ _ | exact Nat.le_trans (Nat.min_le_left _ _) om | (simp; omega)))⟩),(by (conv=>whnf); exact ⟨(by (conv=>whnf); exact ⟨oz,(λ _=>rfl),nofun,(iG (f:=AV.bool) (d:=false) (by first | omega | exact Nat.min_le_left _ _ | exact Nat.le_trans (Nat.min_le_left _ _) om | (simp; omega)))⟩),(by (conv=>whnf); exact ⟨(by (conv=>whnf); exact ⟨oz,(λ _=>rfl),nofun,(iG (f:=iV) (d:=0) (by first | omega | exact Nat.min_le_left _ _ | exact Nat.le_trans (Nat.min_le_left _ _) om | (simp; omega)))⟩),(by (conv=>whnf); exact ⟨(by (conv=>whnf); exact ⟨oz,(λ _=>rfl),nofun,(iG (f:=jd) (d:=bE) (by first | omega | exact Nat.min_le_left _ _ | exact Nat.le_trans (Nat.min_le_left _ _) om | (simp; omega)))⟩),(by (conv=>whnf); exact ⟨(by (conv=>whnf); exact sf),(by (conv=>whnf); exact ⟨(by (conv=>whnf); exact ⟨oz,(λ _=>rfl),nofun,(iG (f:=AV.bool) (d:=false) (by first | omega | exact Nat.min_le_left _ _ | exact Nat.le_trans (Nat.min_le_left _ _) om | (simp; omega)))⟩),trivial⟩)⟩)⟩)⟩)⟩)⟩),(by (conv=>whnf); exact ⟨(by first | ((conv=>whnf); exact r2) | exact r2),(by (conv=>whnf); exact ⟨(by first | ((conv=>whnf); exact r2) | exact r2),(by (conv=>whnf); exact ⟨(by first | ((conv=>whnf); exact r2) | exact r2),trivial⟩)⟩)⟩)⟩)⟩
theorem Ck {dQ:aF} {iI:List Int} (hm:En b_ l_ from_ dQ iI w_ r):S 11 [iM b_,dB l_,gN from_,gN dQ,ak iI,fH w_] [] (.bool r) [] :=sp Tryz.func11 rfl<|sq hm SI λ v1 hm=>sb hm λ v2 hv2 hm=>cl (λ q0=>(nW (hv2 q0)))<|by cases hm;exact re
theorem JJ {w_:Nat} {bX:List aD} {r:aF×List aD×Int} (hm:Fa b_ g_ w_ bX r):S 50 [iM b_,gN g_,.dF 0 0 w_ false] [.row 3 bX.length (bA fG dJ bX)] (.jM [gN r.1,fH r.2.1,iV r.2.2]) [.row 3 bX.length (bA fG dJ bX)] :=sp Tryz.func50 rfl<|by
 have h12:=hm.1
 have hm:=hm.2
 refine eD (ct:=[]) eX dk hm (λ g1=>⟨[(3,.ptr 1 0 0),(4,.ptr 2 0 0),(6,.ptr 3 0 0),(9,.dF 4 0 g1.2.2.2.2.2.2.2.2.length false),(14,.dF 0 0 g1.1 false),(15,iV ((w_:Nat):Int)),(16,iV g1.2.1)],[(0,some (.row 3 bX.length (bA fG dJ bX))),(1,some (.box [aU b_.bT,aT b_.bD,iV b_.aQ.dz,aX b_.aQ.aG,bV b_.bf,bI b_.bO])),(2,some (.box [ak g1.2.2.1,av g1.2.2.2.1,ak g1.2.2.2.2.1,bn g1.2.2.2.2.2.1,av g1.2.2.2.2.2.2.1,av g1.2.2.2.2.2.2.2.1])),(3,some (.box [.sl 0 0 true cK,.sl 0 0 true cK,.sl 0 0 true cK,.sl 0 0 true cK,.sl 0 0 true cK,.sl 0 0 true cK])),(4,some (.row 3 g1.2.2.2.2.2.2.2.2.length (bA fG dJ g1.2.2.2.2.2.2.2.2)))],5⟩) [(2,some 9),(3,some 17),(4,none)] [] ⟨rfl,⟨r4,r4,r4,⟨rfl,rfl,rfl,rfl,rfl,rfl⟩,⟨rfl,rfl,rfl,rfl,nofun⟩,r2,r2,trivial⟩,⟨⟨rfl,rfl,(λ _ _=>.refl _)⟩,⟨sr,sr,r2,sr,sr,sr,trivial⟩,⟨sf,sf,sf,sf,sf,sf,trivial⟩,⟨sr,sr,sr,sr,sr,sr,trivial⟩,rfl,trivial⟩⟩ ?_
 intro ah g1 hm
 (conv=>whnf)
 have h11:=hm.1
 have hm:=hm.2
 refine jq hm (λ c5 hm=>?_) (λ c5 hm=>?_)
 ·(conv=>whnf)
  refine aN hm λ h7 hm=>?_
  (conv=>whnf)
  refine bF hm λ v5 hv5 hm=>?_
  refine ⟨_,_,(xB hv5),?_⟩
  (conv=>whnf)
  have c6:=hm.1
  have hm:=hm.2
  refine aS (λ q=>Bool.noConfusion (c6.symm.trans q)) (λ _=>?_)
  (conv=>whnf)
  refine bF hm λ v6 hv6 hm=>?_
  refine ⟨_,_,(tV hv6),?_⟩
  (conv=>whnf)
  refine aN hm λ h8 hm=>?_
  (conv=>whnf)
  refine aN hm λ h9 hm=>?_
  (conv=>whnf)
  exact ⟨(g1.1,(g1.2.1+(1:Int)),v5.1.Setting,v5.1.aY.On,v5.1.aY.bC,v5.1.Uses,v5.1.Released,v5.1.bq,(g1.2.2.2.2.2.2.2.2++([(⟨(bX.getD g1.2.1.toNat dJ).eT,(bX.getD g1.2.1.toNat dJ).Unit,v6⟩:aD)]:List aD))),[(4,some 221)],[],hm,⟨rfl,⟨r4,r4,r4,⟨rfl,rfl,rfl,oz,nofun⟩,⟨rfl,rfl,rfl,rfl,nofun⟩,r2,r2,trivial⟩,⟨⟨rfl,rfl,(λ _ _=>.refl _)⟩,⟨sr,sr,r2,sr,sr,sr,trivial⟩,⟨sf,sf,sf,sf,sf,sf,trivial⟩,⟨sr,sr,sr,sr,sr,sr,trivial⟩,⟨rfl,oz,(iP rfl (λ _ _=>.refl _) rfl (fT fG dJ [(⟨(bX.getD g1.2.1.toNat dJ).eT,(bX.getD g1.2.1.toNat dJ).Unit,v6⟩:aD)]))⟩,trivial⟩⟩⟩
 ·(conv=>whnf)
  refine bF hm λ v7 hv7 hm=>?_
  refine ⟨_,_,(jr hv7),?_⟩
  (conv=>whnf)
  have h10:=hm.1
  have hm:=hm.2
  refine bF hm λ v8 vZ hm=>?_
  refine ⟨_,_,(mX vZ),?_⟩
  (conv=>whnf)
  have hm:r=((⟨v8.1,(⟨v8.2.1,v8.2.2.1⟩:aW),v8.2.2.2.1,v8.2.2.2.2.1,v8.2.2.2.2.2⟩:aF),(v7.take (g1.2.2.2.2.2.2.2.2.length)),(0:Int)):=hm
  subst hm
  refine ⟨[37,38,39,40,41,42,4],[],?_⟩
  (conv=>whnf)
  exact ⟨⟨rfl,trivial,⟨⟨rfl,rfl,(λ _ _=>.refl _)⟩,trivial⟩⟩,(by (conv=>whnf); exact ⟨(by (conv=>whnf); exact ⟨(by (conv=>whnf); exact sf),(by (conv=>whnf); exact ⟨(by (conv=>whnf); exact sf),(by (conv=>whnf); exact ⟨(by (conv=>whnf); exact sf),(by (conv=>whnf); exact ⟨(by (conv=>whnf); exact sf),(by (conv=>whnf); exact ⟨(by (conv=>whnf); exact sf),(by (conv=>whnf); exact ⟨(by (conv=>whnf); exact sf),trivial⟩)⟩)⟩)⟩)⟩)⟩),(by (conv=>whnf); exact ⟨(by (conv=>whnf); exact ⟨oz,(λ _=>rfl),nofun,(iG (f:=fG) (d:=dJ) (by first | omega | exact Nat.min_le_left _ _ | exact Nat.le_trans (Nat.min_le_left _ _) om | (simp; omega)))⟩),(by (conv=>whnf); exact ⟨(by first | ((conv=>whnf); exact r2) | exact r2),trivial⟩)⟩)⟩)⟩
theorem L9 {kZ:Int} {bX:List aD} {r:aF×Bool×Int} (hm:Ik b_ from_ kZ bX r):S 15 [iM b_,gN from_,.dF 0 0 bX.length false,iV kZ] [.row 3 bX.length (bA fG dJ bX)] (.jM [gN r.1,.bool r.2.1,iV r.2.2]) [.row 3 bX.length (bA fG dJ bX)] :=sp Tryz.func15 rfl<|sq hm Ci λ v1 hm=>by
 have c1:=hm.1
 have hm:=hm.2
 refine aS (λ q=>Bool.noConfusion (c1.symm.trans q)) (λ _=>?_)
 (conv=>whnf)
 have c2:=hm.1
 have hm:=hm.2
 refine aS (λ q=>Bool.noConfusion (c2.symm.trans q)) (λ _=>?_)
 (conv=>whnf)
 refine aN hm λ h1 hm=>?_
 (conv=>whnf)
 refine bF hm λ v2 hv2 hm=>?_
 refine ⟨_,_,(JJ hv2),?_⟩
 (conv=>whnf)
 refine bF hm λ v3 hv3 hm=>?_
 refine ⟨_,_,(lG hv3),?_⟩
 (conv=>whnf)
 have hm:r=(v3.1,false,v3.2.2):=hm
 subst hm
 refine ⟨[],[],?_⟩
 (conv=>whnf)
 exact ⟨⟨rfl,trivial,⟨⟨rfl,rfl,(λ _ _=>.refl _)⟩,trivial⟩⟩,⟨WA (.refl _) rfl (Nat.lt_of_sub_pos (by exact Nat.zero_lt_succ _)),rfl,r2,trivial⟩⟩
theorem sW  {r:Bool} (hm:nQ r):S 7 [] [] (.bool r) [] :=ZQ [1,2,3,4,7,8] Tryz.func7 rfl<|ck [1,2,3,4,7,8] NC r (λ g1=>⟨[],[],0⟩) (le hm) λ g1 hm=>ck [1,2,3,4,7,8] NA r (λ g2=>⟨[(1,.ptr 0 0 0)],[(0,some (.box [.sl 0 0 true cK,.sl 0 0 true cK,iV (0:Int),.sl 0 0 true cK,.dF 1 0 g2.length false,.sl 0 0 true cK])),(1,some (.row 1 g2.length (bA aaw eU g2)))],2⟩) (lc [(0,some 24),(1,some 8)] [] hm) λ g2 hm=>ck [1,2,3,4,7,8] (Nz g2) r (λ g3=>⟨[(1,.ptr 0 0 0),(2,dB g3)],[(0,some (.box [.sl 0 0 true cK,.sl 0 0 true cK,iV (0:Int),.sl 0 0 true cK,.dF 1 0 g2.length false,.sl 0 0 true cK])),(1,some (.row 1 g2.length (bA aaw eU g2)))],2⟩) (lc [] [10] hm) λ g3 hm=>ck [1,2,3,4,7,8] (Ny g3) r (λ g4=>⟨[(1,.ptr 0 0 0),(2,dB g3),(3,.ptr 1 0 0),(4,.ptr 2 0 0)],[(0,some (.box [.sl 0 0 true cK,.sl 0 0 true cK,iV (0:Int),.sl 0 0 true cK,bV g4.1,.sl 0 0 true cK])),(1,some (.box [.sl 0 0 true cK,.sl 0 0 true cK,.sl 0 0 true cK,.sl 0 0 true cK,av g4.2.1,.sl 0 0 true cK])),(2,some (.box [.sl 0 0 true cK,.sl 0 0 true cK,.sl 0 0 true cK,.sl 0 0 true cK,av g4.2.2,.sl 0 0 true cK]))],3⟩) (lc [(1,some 34),(2,some 42)] [1,2,18] hm) λ g4 hm=>sb hm λ v1 hv1 hm=>cl ((DN hv1).le ⟨(Le.u6 ⟨(.sl rfl (λ h=>absurd rfl h) nofun (λ _ h=>absurd h (Nat.not_lt_zero _))),(.sl rfl (λ h=>absurd rfl h) nofun (λ _ h=>absurd h (Nat.not_lt_zero _))),(.refl _),(.sl rfl (λ h=>absurd rfl h) nofun (λ _ h=>absurd h (Nat.not_lt_zero _))),(.refl _),(.sl rfl (λ h=>absurd rfl h) nofun (λ _ h=>absurd h (Nat.not_lt_zero _))),trivial⟩),.refl _,(Le.u6 ⟨(.sl rfl (λ h=>absurd rfl h) nofun (λ _ h=>absurd h (Nat.not_lt_zero _))),(.sl rfl (λ h=>absurd rfl h) nofun (λ _ h=>absurd h (Nat.not_lt_zero _))),(.sl rfl (λ h=>absurd rfl h) nofun (λ _ h=>absurd h (Nat.not_lt_zero _))),(.sl rfl (λ h=>absurd rfl h) nofun (λ _ h=>absurd h (Nat.not_lt_zero _))),(.refl _),(.sl rfl (λ h=>absurd rfl h) nofun (λ _ h=>absurd h (Nat.not_lt_zero _))),trivial⟩),(Le.u6 ⟨(.sl rfl (λ h=>absurd rfl h) nofun (λ _ h=>absurd h (Nat.not_lt_zero _))),(.sl rfl (λ h=>absurd rfl h) nofun (λ _ h=>absurd h (Nat.not_lt_zero _))),(.sl rfl (λ h=>absurd rfl h) nofun (λ _ h=>absurd h (Nat.not_lt_zero _))),(.sl rfl (λ h=>absurd rfl h) nofun (λ _ h=>absurd h (Nat.not_lt_zero _))),(.refl _),(.sl rfl (λ h=>absurd rfl h) nofun (λ _ h=>absurd h (Nat.not_lt_zero _))),trivial⟩),(.sl rfl (λ h=>absurd rfl h) nofun (λ _ h=>absurd h (Nat.not_lt_zero _))),trivial⟩ trivial)<|sb hm λ v2 hv2 hm=>cl ((DN hv2).le ⟨(Le.u6 ⟨(.sl rfl (λ h=>absurd rfl h) nofun (λ _ h=>absurd h (Nat.not_lt_zero _))),(.sl rfl (λ h=>absurd rfl h) nofun (λ _ h=>absurd h (Nat.not_lt_zero _))),(.refl _),(.sl rfl (λ h=>absurd rfl h) nofun (λ _ h=>absurd h (Nat.not_lt_zero _))),(.refl _),(.sl rfl (λ h=>absurd rfl h) nofun (λ _ h=>absurd h (Nat.not_lt_zero _))),trivial⟩),.refl _,(Le.u6 ⟨(.sl rfl (λ h=>absurd rfl h) nofun (λ _ h=>absurd h (Nat.not_lt_zero _))),(.sl rfl (λ h=>absurd rfl h) nofun (λ _ h=>absurd h (Nat.not_lt_zero _))),(.sl rfl (λ h=>absurd rfl h) nofun (λ _ h=>absurd h (Nat.not_lt_zero _))),(.sl rfl (λ h=>absurd rfl h) nofun (λ _ h=>absurd h (Nat.not_lt_zero _))),(.refl _),(.sl rfl (λ h=>absurd rfl h) nofun (λ _ h=>absurd h (Nat.not_lt_zero _))),trivial⟩),(Le.u6 ⟨(.sl rfl (λ h=>absurd rfl h) nofun (λ _ h=>absurd h (Nat.not_lt_zero _))),(.sl rfl (λ h=>absurd rfl h) nofun (λ _ h=>absurd h (Nat.not_lt_zero _))),(.sl rfl (λ h=>absurd rfl h) nofun (λ _ h=>absurd h (Nat.not_lt_zero _))),(.sl rfl (λ h=>absurd rfl h) nofun (λ _ h=>absurd h (Nat.not_lt_zero _))),(.refl _),(.sl rfl (λ h=>absurd rfl h) nofun (λ _ h=>absurd h (Nat.not_lt_zero _))),trivial⟩),(.sl rfl (λ _=>rfl) nofun (fT iV 0 [(0:Int)])),trivial⟩ trivial)<|by
 refine ai3 (ct:=[1,2,3,4,7,8]) eX dk dk (Nw g3 g4 v1 v2) r (λ g5=>⟨[(1,.ptr 0 0 0),(2,dB g3),(3,.ptr 1 0 0),(4,.ptr 2 0 0),(5,.dF 3 0 v1.2.length false),(6,iV v1.1),(7,.dF 4 0 v2.2.length false),(8,iV v2.1),(9,fH g5.1),(10,iV g5.2)],[(0,some (.box [.sl 0 0 true cK,.sl 0 0 true cK,iV (0:Int),.sl 0 0 true cK,bV g4.1,.sl 0 0 true cK])),(1,some (.box [.sl 0 0 true cK,.sl 0 0 true cK,.sl 0 0 true cK,.sl 0 0 true cK,av g4.2.1,.sl 0 0 true cK])),(2,some (.box [.sl 0 0 true cK,.sl 0 0 true cK,.sl 0 0 true cK,.sl 0 0 true cK,av g4.2.2,.sl 0 0 true cK])),(3,some (.row 3 v1.2.length (bA fG dJ v1.2))),(4,some (.row 3 v2.2.length (bA fG dJ v2.2)))],5⟩) (KD g3 g4 v1 v2) (KE g3 g4 v1 v2) (λ g5 v4=>⟨[(1,.ptr 0 0 0),(2,dB g3),(3,.ptr 1 0 0),(4,.ptr 2 0 0),(5,.sl 3 1 true (bA fG dJ [v4])),(6,iV v1.1),(7,.dF 4 0 v2.2.length false),(8,iV v2.1),(9,fH g5.1),(10,iV g5.2)],[(0,some (.box [.sl 0 0 true cK,.sl 0 0 true cK,iV (0:Int),.sl 0 0 true cK,bV g4.1,.sl 0 0 true cK])),(1,some (.box [.sl 0 0 true cK,.sl 0 0 true cK,.sl 0 0 true cK,.sl 0 0 true cK,av g4.2.1,.sl 0 0 true cK])),(2,some (.box [.sl 0 0 true cK,.sl 0 0 true cK,.sl 0 0 true cK,.sl 0 0 true cK,av g4.2.2,.sl 0 0 true cK])),(4,some (.row 3 v2.2.length (bA fG dJ v2.2)))],5⟩) (λ g5 v4=>⟨[(1,.ptr 0 0 0),(2,dB g3),(3,.ptr 1 0 0),(4,.ptr 2 0 0),(5,.dF 3 0 1 false),(6,iV v1.1),(7,.dF 4 0 v2.2.length false),(8,iV v2.1),(9,fH g5.1),(10,iV g5.2)],[(0,some (.box [.sl 0 0 true cK,.sl 0 0 true cK,iV (0:Int),.sl 0 0 true cK,bV g4.1,.sl 0 0 true cK])),(1,some (.box [.sl 0 0 true cK,.sl 0 0 true cK,.sl 0 0 true cK,.sl 0 0 true cK,av g4.2.1,.sl 0 0 true cK])),(2,some (.box [.sl 0 0 true cK,.sl 0 0 true cK,.sl 0 0 true cK,.sl 0 0 true cK,av g4.2.2,.sl 0 0 true cK])),(3,some (.row 3 2 (appG 1 (bA fG dJ [v4]) (λ _=>.agg [.undef,.undef,.undef])))),(4,some (.row 3 v2.2.length (bA fG dJ v2.2)))],5⟩) 3 5 3 (.agg [.undef,.undef,.undef]) (Nat.zero_le _) rfl (λ j hj=>by match j,hj with | 0,_=>rfl | 1,_=>rfl | 2,_=>rfl) (λ g5 hk=>by obtain ⟨x,hL,h⟩:=agZ hk; refine ⟨x,bA fG dJ [x],(acK h).1,(acK h).2,?_⟩; simp only [hL]; exact ⟨rfl,rfl,rfl,rfl,z,z⟩) ?_ (λ g5 v4 hm=>?_) (λ g5 v4 hm=>?_)
 ·(conv=>whnf)
  refine bF hm λ v17 alR hm=>?_
  refine ⟨_,_,((Q9 alR).le ⟨(Le.u6 ⟨(.sl rfl (λ h=>absurd rfl h) nofun (λ _ h=>absurd h (Nat.not_lt_zero _))),(.sl rfl (λ h=>absurd rfl h) nofun (λ _ h=>absurd h (Nat.not_lt_zero _))),(.refl _),(.sl rfl (λ h=>absurd rfl h) nofun (λ _ h=>absurd h (Nat.not_lt_zero _))),(.refl _),(.sl rfl (λ h=>absurd rfl h) nofun (λ _ h=>absurd h (Nat.not_lt_zero _))),trivial⟩),(Le.u6 ⟨(.sl rfl (λ h=>absurd rfl h) nofun (λ _ h=>absurd h (Nat.not_lt_zero _))),(.sl rfl (λ h=>absurd rfl h) nofun (λ _ h=>absurd h (Nat.not_lt_zero _))),(.sl rfl (λ h=>absurd rfl h) nofun (λ _ h=>absurd h (Nat.not_lt_zero _))),(.sl rfl (λ h=>absurd rfl h) nofun (λ _ h=>absurd h (Nat.not_lt_zero _))),(.refl _),(.sl rfl (λ h=>absurd rfl h) nofun (λ _ h=>absurd h (Nat.not_lt_zero _))),trivial⟩),.refl _,trivial⟩ ⟨mG _,trivial⟩),?_⟩
  (conv=>whnf)
  exact ⟨(v17.1,v17.2),[(3,some 35),(4,some 123)],[],hm,⟨rfl,⟨r4,sr,r4,r4,⟨rfl,rfl,rfl,rfl,nofun⟩,r2,⟨rfl,rfl,rfl,rfl,nofun⟩,r2,sf,r2,trivial⟩,⟨⟨sr,sr,r2,sr,sr,sr,trivial⟩,⟨sr,sr,sr,sr,sr,sr,trivial⟩,⟨sr,sr,sr,sr,sr,sr,trivial⟩,⟨rfl,rfl,(λ _ _=>.refl _)⟩,⟨rfl,rfl,(λ _ _=>.refl _)⟩,trivial⟩⟩⟩
 ·(conv=>whnf)
  refine TI (ct:=[1,2,3,4,7,8]) eX dk dk (Nv g3 g4 v1 v2 g5) r (λ g6=>⟨[(1,.ptr 0 0 0),(2,dB g3),(3,.ptr 1 0 0),(4,.ptr 2 0 0),(5,fH g6.1),(6,iV v1.1),(7,.dF 3 0 v2.2.length false),(8,iV v2.1),(9,fH g5.1),(10,iV g5.2),(11,.ptr 4 0 0),(12,.bool g6.2.1),(13,iV g6.2.2.1)],[(0,some (.box [.sl 0 0 true cK,.sl 0 0 true cK,iV (0:Int),.sl 0 0 true cK,bV g4.1,.sl 0 0 true cK])),(1,some (.box [.sl 0 0 true cK,.sl 0 0 true cK,.sl 0 0 true cK,.sl 0 0 true cK,av g4.2.1,.sl 0 0 true cK])),(2,some (.box [.sl 0 0 true cK,.sl 0 0 true cK,.sl 0 0 true cK,.sl 0 0 true cK,av g4.2.2,.sl 0 0 true cK])),(3,some (.row 3 v2.2.length (bA fG dJ v2.2))),(4,some (.box [ak g6.2.2.2.1,av g6.2.2.2.2.1,ak g6.2.2.2.2.2.1,bn g6.2.2.2.2.2.2.1,av g6.2.2.2.2.2.2.2.1,av g6.2.2.2.2.2.2.2.2]))],5⟩) ?_ (λ g6 hm=>?_)
  ·(conv=>whnf)
   refine aN hm λ h2 hm=>?_
   (conv=>whnf)
   refine bF hm λ v10 Ar hm=>?_
   refine ⟨_,_,((DR Ar).le ⟨(Le.u6 ⟨(.sl rfl (λ h=>absurd rfl h) nofun (λ _ h=>absurd h (Nat.not_lt_zero _))),(.sl rfl (λ h=>absurd rfl h) nofun (λ _ h=>absurd h (Nat.not_lt_zero _))),(.refl _),(.sl rfl (λ h=>absurd rfl h) nofun (λ _ h=>absurd h (Nat.not_lt_zero _))),(.refl _),(.sl rfl (λ h=>absurd rfl h) nofun (λ _ h=>absurd h (Nat.not_lt_zero _))),trivial⟩),(Le.u6 ⟨(.sl rfl (λ h=>absurd rfl h) nofun (λ _ h=>absurd h (Nat.not_lt_zero _))),(.sl rfl (λ h=>absurd rfl h) nofun (λ _ h=>absurd h (Nat.not_lt_zero _))),(.sl rfl (λ h=>absurd rfl h) nofun (λ _ h=>absurd h (Nat.not_lt_zero _))),(.sl rfl (λ h=>absurd rfl h) nofun (λ _ h=>absurd h (Nat.not_lt_zero _))),(.refl _),(.sl rfl (λ h=>absurd rfl h) nofun (λ _ h=>absurd h (Nat.not_lt_zero _))),trivial⟩),(.sl oz (λ _=>rfl) nofun (iP oz (λ _ _=>.refl _) oz (λ _ _=>.refl _))),.refl _,trivial⟩ trivial),?_⟩
   (conv=>whnf)
   exact ⟨(([v4]:List aD),v10.2.1,v10.2.2,v10.1.Setting,v10.1.aY.On,v10.1.aY.bC,v10.1.Uses,v10.1.Released,v10.1.bq),[(3,some 4),(4,some 85)],[],hm,⟨rfl,⟨r4,sr,r4,r4,⟨oz,(λ _=>rfl),nofun,(λ _ _=>.refl _)⟩,r2,⟨rfl,rfl,rfl,rfl,nofun⟩,r2,sr,r2,r4,rfl,r2,trivial⟩,⟨⟨sr,sr,r2,sr,sr,sr,trivial⟩,⟨sr,sr,sr,sr,sr,sr,trivial⟩,⟨sr,sr,sr,sr,sr,sr,trivial⟩,⟨rfl,rfl,(λ _ _=>.refl _)⟩,⟨sf,sf,sf,sf,sf,sf,trivial⟩,trivial⟩⟩⟩
  ·(conv=>whnf)
   have c1:=hm.1
   have hm:=hm.2
   refine aS (λ _=>?_) (λ q=>Bool.noConfusion (q.symm.trans c1))
   (conv=>whnf)
   refine bF hm λ v6 hv6 hm=>?_
   refine ⟨_,_,(λ q0=>((pK (hv6 q0)).le ⟨.refl _,(.sl rfl (λ _=>rfl) nofun (fT fG dJ [(⟨(11:Int),(0:Int),(1:Int)⟩:aD)])),trivial⟩ trivial)),?_⟩
   (conv=>whnf)
   have c2:=hm.1
   have hm:=hm.2
   refine aS (λ _=>?_) (λ q=>Bool.noConfusion (q.symm.trans c2))
   (conv=>whnf)
   refine bF hm λ v7 hv7 hm=>?_
   refine ⟨_,_,(λ q0=>((pK (hv7 q0)).le ⟨.refl _,(.sl rfl (λ _=>rfl) nofun (fT fG dJ [(⟨(11:Int),(0:Int),(0:Int)⟩:aD)])),trivial⟩ trivial)),?_⟩
   (conv=>whnf)
   refine bF hm λ v8 vZ hm=>?_
   refine ⟨_,_,(λ q0=>((nW (vZ q0)).le ⟨.refl _,(Le.u6 ⟨(.sl rfl (λ h=>absurd rfl h) nofun (λ _ h=>absurd h (Nat.not_lt_zero _))),(.sl rfl (λ h=>absurd rfl h) nofun (λ _ h=>absurd h (Nat.not_lt_zero _))),(.sl rfl (λ h=>absurd rfl h) nofun (λ _ h=>absurd h (Nat.not_lt_zero _))),(.sl rfl (λ h=>absurd rfl h) nofun (λ _ h=>absurd h (Nat.not_lt_zero _))),(.refl _),(.sl rfl (λ h=>absurd rfl h) nofun (λ _ h=>absurd h (Nat.not_lt_zero _))),trivial⟩),trivial⟩ trivial)),?_⟩
   (conv=>whnf)
   refine bF hm λ v9 QB hm=>?_
   refine ⟨_,_,(λ q0=>((Ck (QB q0)).le ⟨(Le.u6 ⟨(.sl rfl (λ h=>absurd rfl h) nofun (λ _ h=>absurd h (Nat.not_lt_zero _))),(.sl rfl (λ h=>absurd rfl h) nofun (λ _ h=>absurd h (Nat.not_lt_zero _))),(.refl _),(.sl rfl (λ h=>absurd rfl h) nofun (λ _ h=>absurd h (Nat.not_lt_zero _))),(.refl _),(.sl rfl (λ h=>absurd rfl h) nofun (λ _ h=>absurd h (Nat.not_lt_zero _))),trivial⟩),.refl _,(Le.u6 ⟨(.sl rfl (λ h=>absurd rfl h) nofun (λ _ h=>absurd h (Nat.not_lt_zero _))),(.sl rfl (λ h=>absurd rfl h) nofun (λ _ h=>absurd h (Nat.not_lt_zero _))),(.sl rfl (λ h=>absurd rfl h) nofun (λ _ h=>absurd h (Nat.not_lt_zero _))),(.sl rfl (λ h=>absurd rfl h) nofun (λ _ h=>absurd h (Nat.not_lt_zero _))),(.refl _),(.sl rfl (λ h=>absurd rfl h) nofun (λ _ h=>absurd h (Nat.not_lt_zero _))),trivial⟩),(Le.u6 ⟨(.sl rfl (λ h=>absurd rfl h) nofun (λ _ h=>absurd h (Nat.not_lt_zero _))),(.sl rfl (λ h=>absurd rfl h) nofun (λ _ h=>absurd h (Nat.not_lt_zero _))),(.sl rfl (λ h=>absurd rfl h) nofun (λ _ h=>absurd h (Nat.not_lt_zero _))),(.sl rfl (λ h=>absurd rfl h) nofun (λ _ h=>absurd h (Nat.not_lt_zero _))),(.refl _),(.sl rfl (λ h=>absurd rfl h) nofun (λ _ h=>absurd h (Nat.not_lt_zero _))),trivial⟩),(.sl rfl (λ h=>absurd rfl h) nofun (λ _ h=>absurd h (Nat.not_lt_zero _))),.refl _,trivial⟩ trivial)),?_⟩
   (conv=>whnf)
   have hm:r=((((((((((v1.1==(0:Int))&&v6)&&(v2.1==(0:Int)))&&((v2.2.length:Int)==(0:Int)))&&(g5.2==(0:Int)))&&v7)&&(g6.2.2.1==(0:Int)))&&(!g6.2.1))&&v8)&&v9):=hm
   subst hm
   refine ⟨[],[],?_⟩
   (conv=>whnf)
   exact ⟨⟨rfl,trivial,trivial⟩,rfl⟩
 ·(conv=>whnf)
  refine TI (ct:=[1,2,3,4,7,8]) eX dk dk (Il g3 g4 v1 v2 g5 v4) r (λ g7=>⟨[(1,.ptr 0 0 0),(2,dB g3),(3,.ptr 1 0 0),(4,.ptr 2 0 0),(5,.dF 3 0 g7.1 false),(6,iV v1.1),(7,.dF 4 0 v2.2.length false),(8,iV v2.1),(9,fH g5.1),(10,iV g5.2),(11,.ptr 5 0 0),(12,.bool g7.2.1),(13,iV g7.2.2.1)],[(0,some (.box [.sl 0 0 true cK,.sl 0 0 true cK,iV (0:Int),.sl 0 0 true cK,bV g4.1,.sl 0 0 true cK])),(1,some (.box [.sl 0 0 true cK,.sl 0 0 true cK,.sl 0 0 true cK,.sl 0 0 true cK,av g4.2.1,.sl 0 0 true cK])),(2,some (.box [.sl 0 0 true cK,.sl 0 0 true cK,.sl 0 0 true cK,.sl 0 0 true cK,av g4.2.2,.sl 0 0 true cK])),(3,some (.row 3 (([v4,v4]:List aD).length) (bA fG dJ ([v4,v4]:List aD)))),(4,some (.row 3 v2.2.length (bA fG dJ v2.2))),(5,some (.box [ak g7.2.2.2.1,av g7.2.2.2.2.1,ak g7.2.2.2.2.2.1,bn g7.2.2.2.2.2.2.1,av g7.2.2.2.2.2.2.2.1,av g7.2.2.2.2.2.2.2.2]))],6⟩) ?_ (λ g7 hm=>?_)
  ·(conv=>whnf)
   refine aN hm λ h5 hm=>?_
   (conv=>whnf)
   refine bF hm λ v16 Xd hm=>?_
   refine ⟨_,_,((L9 Xd).le ⟨(Le.u6 ⟨(.sl rfl (λ h=>absurd rfl h) nofun (λ _ h=>absurd h (Nat.not_lt_zero _))),(.sl rfl (λ h=>absurd rfl h) nofun (λ _ h=>absurd h (Nat.not_lt_zero _))),(.refl _),(.sl rfl (λ h=>absurd rfl h) nofun (λ _ h=>absurd h (Nat.not_lt_zero _))),(.refl _),(.sl rfl (λ h=>absurd rfl h) nofun (λ _ h=>absurd h (Nat.not_lt_zero _))),trivial⟩),(Le.u6 ⟨(.sl rfl (λ h=>absurd rfl h) nofun (λ _ h=>absurd h (Nat.not_lt_zero _))),(.sl rfl (λ h=>absurd rfl h) nofun (λ _ h=>absurd h (Nat.not_lt_zero _))),(.sl rfl (λ h=>absurd rfl h) nofun (λ _ h=>absurd h (Nat.not_lt_zero _))),(.sl rfl (λ h=>absurd rfl h) nofun (λ _ h=>absurd h (Nat.not_lt_zero _))),(.refl _),(.sl rfl (λ h=>absurd rfl h) nofun (λ _ h=>absurd h (Nat.not_lt_zero _))),trivial⟩),.refl _,.refl _,trivial⟩ ⟨⟨rfl,oz,anS⟩,trivial⟩),?_⟩
   (conv=>whnf)
   exact ⟨(1,v16.2.1,v16.2.2,v16.1.Setting,v16.1.aY.On,v16.1.aY.bC,v16.1.Uses,v16.1.Released,v16.1.bq),[(5,some 85)],[],hm,⟨rfl,⟨r4,sr,r4,r4,⟨rfl,rfl,rfl,rfl,nofun⟩,r2,⟨rfl,rfl,rfl,rfl,nofun⟩,r2,sr,r2,r4,rfl,r2,trivial⟩,⟨⟨sr,sr,r2,sr,sr,sr,trivial⟩,⟨sr,sr,sr,sr,sr,sr,trivial⟩,⟨sr,sr,sr,sr,sr,sr,trivial⟩,⟨rfl,rfl,(λ _ _=>.refl _)⟩,⟨rfl,rfl,(λ _ _=>.refl _)⟩,⟨sf,sf,sf,sf,sf,sf,trivial⟩,trivial⟩⟩⟩
  ·(conv=>whnf)
   have h4:=hm.1
   have hm:=hm.2
   have c3:=hm.1
   have hm:=hm.2
   refine aS (λ _=>?_) (λ q=>Bool.noConfusion (q.symm.trans c3))
   (conv=>whnf)
   refine bF hm λ v12 alC hm=>?_
   refine ⟨_,_,(λ q0=>((pK (alC q0)).le ⟨(.sl oz (λ _=>rfl) nofun (iG (f:=fG) (d:=dJ) (by first | omega | exact Nat.min_le_left _ _ | exact Nat.le_trans (Nat.min_le_left _ _) om | (simp; omega)))),(.sl rfl (λ _=>rfl) nofun (fT fG dJ [(⟨(11:Int),(0:Int),(1:Int)⟩:aD)])),trivial⟩ trivial)),?_⟩
   (conv=>whnf)
   have c4:=hm.1
   have hm:=hm.2
   refine aS (λ _=>?_) (λ q=>Bool.noConfusion (q.symm.trans c4))
   (conv=>whnf)
   refine bF hm λ v13 Yw hm=>?_
   refine ⟨_,_,(λ q0=>((pK (Yw q0)).le ⟨.refl _,(.sl rfl (λ _=>rfl) nofun (fT fG dJ [(⟨(11:Int),(0:Int),(0:Int)⟩:aD)])),trivial⟩ trivial)),?_⟩
   (conv=>whnf)
   refine bF hm λ v14 Qn hm=>?_
   refine ⟨_,_,(λ q0=>((nW (Qn q0)).le ⟨.refl _,(Le.u6 ⟨(.sl rfl (λ h=>absurd rfl h) nofun (λ _ h=>absurd h (Nat.not_lt_zero _))),(.sl rfl (λ h=>absurd rfl h) nofun (λ _ h=>absurd h (Nat.not_lt_zero _))),(.sl rfl (λ h=>absurd rfl h) nofun (λ _ h=>absurd h (Nat.not_lt_zero _))),(.sl rfl (λ h=>absurd rfl h) nofun (λ _ h=>absurd h (Nat.not_lt_zero _))),(.refl _),(.sl rfl (λ h=>absurd rfl h) nofun (λ _ h=>absurd h (Nat.not_lt_zero _))),trivial⟩),trivial⟩ trivial)),?_⟩
   (conv=>whnf)
   refine bF hm λ v15 aaV hm=>?_
   refine ⟨_,_,(λ q0=>((Ck (aaV q0)).le ⟨(Le.u6 ⟨(.sl rfl (λ h=>absurd rfl h) nofun (λ _ h=>absurd h (Nat.not_lt_zero _))),(.sl rfl (λ h=>absurd rfl h) nofun (λ _ h=>absurd h (Nat.not_lt_zero _))),(.refl _),(.sl rfl (λ h=>absurd rfl h) nofun (λ _ h=>absurd h (Nat.not_lt_zero _))),(.refl _),(.sl rfl (λ h=>absurd rfl h) nofun (λ _ h=>absurd h (Nat.not_lt_zero _))),trivial⟩),.refl _,(Le.u6 ⟨(.sl rfl (λ h=>absurd rfl h) nofun (λ _ h=>absurd h (Nat.not_lt_zero _))),(.sl rfl (λ h=>absurd rfl h) nofun (λ _ h=>absurd h (Nat.not_lt_zero _))),(.sl rfl (λ h=>absurd rfl h) nofun (λ _ h=>absurd h (Nat.not_lt_zero _))),(.sl rfl (λ h=>absurd rfl h) nofun (λ _ h=>absurd h (Nat.not_lt_zero _))),(.refl _),(.sl rfl (λ h=>absurd rfl h) nofun (λ _ h=>absurd h (Nat.not_lt_zero _))),trivial⟩),(Le.u6 ⟨(.sl rfl (λ h=>absurd rfl h) nofun (λ _ h=>absurd h (Nat.not_lt_zero _))),(.sl rfl (λ h=>absurd rfl h) nofun (λ _ h=>absurd h (Nat.not_lt_zero _))),(.sl rfl (λ h=>absurd rfl h) nofun (λ _ h=>absurd h (Nat.not_lt_zero _))),(.sl rfl (λ h=>absurd rfl h) nofun (λ _ h=>absurd h (Nat.not_lt_zero _))),(.refl _),(.sl rfl (λ h=>absurd rfl h) nofun (λ _ h=>absurd h (Nat.not_lt_zero _))),trivial⟩),(.sl rfl (λ h=>absurd rfl h) nofun (λ _ h=>absurd h (Nat.not_lt_zero _))),(.sl oz (λ _=>rfl) nofun (iG (f:=fG) (d:=dJ) (by first | omega | exact Nat.min_le_left _ _ | exact Nat.le_trans (Nat.min_le_left _ _) om | (simp; omega)))),trivial⟩ trivial)),?_⟩
   (conv=>whnf)
   have hm:r=((((((((((v1.1==(0:Int))&&v12)&&(v2.1==(0:Int)))&&((v2.2.length:Int)==(0:Int)))&&(g5.2==(0:Int)))&&v13)&&(g7.2.2.1==(0:Int)))&&(!g7.2.1))&&v14)&&v15):=hm
   subst hm
   refine ⟨[],[],?_⟩
   (conv=>whnf)
   exact ⟨⟨rfl,trivial,trivial⟩,rfl⟩
theorem XV {l_:List Int} {r:List Int×Int} (hm:ME l_ r):S 8 [ak l_] [] (.ptr 0 0 0) [.box [ak r.1,iV r.2]] :=sp Tryz.func8 rfl<|sn hm λ _ hm=>by cases hm;exact rt [] [(0,some 56)]
variable {x_:Int}
theorem XW {n_:Int} {r:Int} (hm:MF x_ n_ r):S 84 [iV x_,iV n_] [] (iV r) [] :=sp Tryz.func84 rfl<|si hm (λ _ hm=>by cases hm;exact re) λ _ hm=>s2 hm λ _ _ hm=>sn hm λ _ hm=>by cases hm;exact re
variable {bX:cB}
theorem bS {n_:Int} {r:Int×cB} (hm:dM n_ bX r):S 25 [.ptr 0 0 0,iV n_] [.box [ak bX.L,iV bX.At]] (iV r.1) [.box [ak r.2.L,iV r.2.At]] :=sp Tryz.func25 rfl<|si hm (λ _ hm=>by cases hm;exact re) λ _ hm=>s2 hm λ _ _ hm=>sn hm λ _ hm=>sq hm XW λ v1 hm=>by cases hm;exact re
theorem gy {l_:List Int} {r:Int×cB} (hm:gP l_ bX r):S 137 [.ptr 0 0 0,ak l_] [.box [ak bX.L,iV bX.At]] (iV r.1) [.box [ak r.2.L,iV r.2.At]] :=sp Tryz.func137 rfl<|sq hm bS λ v1 hm=>sn hm λ _ hm=>by cases hm;exact re
theorem JK {r:List ay×cB} (hm:qG bX r):S 68 [.ptr 0 0 0] [.box [ak bX.L,iV bX.At]] (aU r.1) [.box [ak r.2.L,iV r.2.At]] :=ZQ [20,22] Tryz.func68 rfl<|sq hm bS λ v1 hm=>U5 [20,22] hm (λ g1=>⟨[(0,.ptr 0 0 0),(3,.dF 1 0 g1.2.2.2.length false),(4,iV g1.1)],[(0,some (.box [ak g1.2.1,iV g1.2.2.1])),(1,some (.row 5 g1.2.2.2.length (bA RU aV g1.2.2.2)))],2⟩) [(1,none)] [] <|λ ah g1 hm=>si hm (λ _ hm=>sb hm λ v28 hv28 hm=>cl ((gy hv28).le ⟨.refl _,(.sl rfl (λ _=>rfl) nofun (fT iV 0 [(12:Int),(24:Int),(48:Int),(100:Int)])),trivial⟩ ⟨mG _,trivial⟩)<|ck [20,22] (dX g1 ah) r (λ g7=>⟨[(0,.ptr 0 0 0),(3,.dF 1 0 g1.2.2.2.length false),(4,iV g1.1),(5,.ptr 2 0 0)],[(0,some (.box [ak g7.1,iV g7.2.1])),(1,some (.row 5 g1.2.2.2.length (bA RU aV g1.2.2.2))),(2,some (.box [iV g7.2.2.1,.dF 3 0 g7.2.2.2.2.1.length false,.dF 4 0 g7.2.2.2.2.2.length false,iV (0:Int),iV g7.2.2.2.1])),(3,some (.row 1 g7.2.2.2.2.1.length (bA iV 0 g7.2.2.2.2.1))),(4,some (.row 1 g7.2.2.2.2.2.length (bA iV 0 g7.2.2.2.2.2)))],5⟩) (si hm (λ _ hm=>sq hm bS λ v41 hm=>si hm (λ _ hm=>sq hm bS λ v42 hm=>ck [20,22] (fQ g1 ah) r (λ g8=>⟨[(0,.ptr 0 0 0),(3,.dF 1 0 g1.2.2.2.length false),(4,iV g1.1),(5,.ptr 2 0 0),(25,iV v41.1)],[(0,some (.box [ak g8.1,iV g8.2.1])),(1,some (.row 5 g1.2.2.2.length (bA RU aV g1.2.2.2))),(2,some (.box [iV g8.2.2.1,.dF 3 0 g8.2.2.2.1.length false,.dF 4 0 g8.2.2.2.2.length false,iV (0:Int),iV (0:Int)])),(3,some (.row 1 g8.2.2.2.1.length (bA iV 0 g8.2.2.2.1))),(4,some (.row 1 g8.2.2.2.2.length (bA iV 0 g8.2.2.2.2)))],5⟩) (sq hm bS λ v49 hm=>si hm (λ _ hm=>sb hm λ v50 aaL hm=>cl ((gy aaL).le ⟨.refl _,(.sl rfl (λ _=>rfl) nofun (fT iV 0 [(3:Int),(4:Int),(8:Int)])),trivial⟩ ⟨mG _,trivial⟩)<|lc [(2,some 58),(3,some 178),(4,some 258)] [] hm) λ _ hm=>si hm (λ _ hm=>sb hm λ v51 an0 hm=>cl ((gy an0).le ⟨.refl _,(.sl rfl (λ _=>rfl) nofun (fT iV 0 [(2:Int),(3:Int)])),trivial⟩ ⟨mG _,trivial⟩)<|lc [(2,some 58),(3,some 178),(4,some 274)] [] hm) λ _ hm=>si hm (λ _ hm=>lc [(2,some 58),(3,some 178),(4,some 266)] [] hm) λ _ hm=>si hm (λ _ hm=>sn hm λ _ hm=>sq hm bS λ v52 hm=>sn hm λ _ hm=>lc [(2,some 58),(3,some 346),(4,some 354)] [] hm) λ _ hm=>lc [(2,some 58),(3,some 178),(4,some 282)] [] hm) λ g8 hm=>sq hm bS λ v47 hm=>si hm (λ _ hm=>sb hm λ v48 Xc hm=>cl ((gy Xc).le ⟨.refl _,(.sl rfl (λ _=>rfl) nofun (fT iV 0 [(24:Int),(48:Int),(96:Int)])),trivial⟩ ⟨mG _,trivial⟩)<|le hm) λ _ hm=>le hm) λ _ hm=>lc [(2,some 58),(3,none),(4,some 42)] [] hm) λ c37 hm=>by
 refine ⟨(λ q0=>absurd q0 (vac c37)),?_⟩
 (conv=>whnf)
 refine aN hm λ h28 hm=>?_
 (conv=>whnf)
 exact ⟨(v28.2.L,v28.2.At,(1:Int),(0:Int),([]:List Int),([v28.1]:List Int)),[(2,some 58),(3,none),(4,some 42)],[],hm,⟨rfl,⟨r4,⟨rfl,rfl,rfl,rfl,nofun⟩,r2,r4,trivial⟩,⟨⟨sf,r2,trivial⟩,⟨rfl,rfl,(λ _ _=>.refl _)⟩,⟨r2,⟨rfl,rfl,rfl,rfl,rfl,rfl⟩,⟨rfl,rfl,rfl,rfl,nofun⟩,r2,r2,trivial⟩,rfl,⟨rfl,rfl,(fT iV 0 [v28.1])⟩,trivial⟩⟩⟩) λ g7 hm=>s2 hm λ _ _ hm=>lc [(1,some 29)] [] hm) λ _ hm=>by cases hm;exact rt [1] []
theorem kD {Gi:Int} {JF:Int} {r:Int×cB} (hm:jN Gi JF bX r):S 73 [.ptr 0 0 0,iV Gi,iV JF] [.box [ak bX.L,iV bX.At]] (iV r.1) [.box [ak r.2.L,iV r.2.At]] :=sp Tryz.func73 rfl<|s2 hm λ _ _ hm=>sq hm bS λ v1 hm=>sn hm λ _ hm=>by cases hm;exact re
theorem F8 {r:List aC×cB} (hm:nR bX r):S 69 [.ptr 0 0 0] [.box [ak bX.L,iV bX.At]] (aT r.1) [.box [ak r.2.L,iV r.2.At]] :=ZQ [8] Tryz.func69 rfl<|sq hm bS λ v1 hm=>U5 [8] hm (λ g1=>⟨[(0,.ptr 0 0 0),(3,.dF 1 0 g1.2.2.2.length false),(4,iV g1.1)],[(0,some (.box [ak g1.2.1,iV g1.2.2.1])),(1,some (.row 5 g1.2.2.2.length (bA MC aH g1.2.2.2)))],2⟩) [(1,none)] [] <|λ ah g1 hm=>si hm (λ _ hm=>sn hm λ _ hm=>sq hm kD λ v12 hm=>sb hm λ v13 Yw hm=>cl ((gy Yw).le ⟨.refl _,(.sl rfl (λ _=>rfl) nofun (fT iV 0 [(0:Int),(0:Int),(100:Int),(300:Int)])),trivial⟩ ⟨mG _,trivial⟩)<|sb hm λ v14 Qn hm=>cl ((gy Qn).le ⟨.refl _,(.sl rfl (λ _=>rfl) nofun (fT iV 0 [(100:Int),(300:Int),(1000:Int)])),trivial⟩ ⟨mG _,trivial⟩)<|sq hm bS λ v15 hm=>ck [8] (jQ g1 ah v12 v14 v15) r (λ g4=>⟨[(0,.ptr 0 0 0),(3,.dF 1 0 g1.2.2.2.length false),(4,iV g1.1),(5,.ptr 2 0 0)],[(0,some (.box [ak v15.2.L,iV v15.2.At])),(1,some (.row 5 g1.2.2.2.length (bA MC aH g1.2.2.2))),(2,some (.box [iV v12.1,.sl 0 0 true cK,iV g4,iV v14.1,.bool (v15.1==(7:Int))]))],3⟩) (si hm (λ _ hm=>lc [(2,some 138)] [] hm) λ _ hm=>lc [(2,some 138)] [] hm) λ g4 hm=>sq hm bS λ v16 hm=>sn hm λ _ hm=>by
 rcases (by omega:v16.1=0∨v16.1=1∨v16.1=2∨v16.1=3∨v16.1=4) with e1 | e1 | e1 | e1 | e1
 ·rw [e1] at hm ⊢
  (conv=>whnf)
  refine aN hm λ h27 hm=>?_
  (conv=>whnf)
  refine aN hm λ h28 hm=>?_
  (conv=>whnf)
  exact ⟨((g1.1 - (1:Int)),v16.2.L,v16.2.At,(g1.2.2.2++([(⟨v12.1,([(1000:Int),(1200:Int)]:List Int),g4,v14.1,(v15.1==(7:Int))⟩:aC)]:List aC))),[(1,some 123)],[],hm,⟨rfl,⟨r4,⟨rfl,rfl,rfl,oz,nofun⟩,r2,trivial⟩,⟨⟨sf,r2,trivial⟩,⟨rfl,oz,(iP rfl (λ _ _=>.refl _) rfl (ES (Le.u6 ⟨(.refl _),(.sl rfl (λ _=>rfl) nofun (fT iV 0 [(1000:Int),(1200:Int)])),(.refl _),(.refl _),(.refl _),trivial⟩) (λ _ h=>absurd h (Nat.not_lt_zero _))))⟩,trivial⟩⟩⟩
 ·rw [e1] at hm ⊢
  (conv=>whnf)
  refine aN hm λ h29 hm=>?_
  (conv=>whnf)
  refine aN hm λ h30 hm=>?_
  (conv=>whnf)
  exact ⟨((g1.1 - (1:Int)),v16.2.L,v16.2.At,(g1.2.2.2++([(⟨v12.1,([(1800:Int),(3300:Int)]:List Int),g4,v14.1,(v15.1==(7:Int))⟩:aC)]:List aC))),[(1,some 123)],[],hm,⟨rfl,⟨r4,⟨rfl,rfl,rfl,oz,nofun⟩,r2,trivial⟩,⟨⟨sf,r2,trivial⟩,⟨rfl,oz,(iP rfl (λ _ _=>.refl _) rfl (ES (Le.u6 ⟨(.refl _),(.sl rfl (λ _=>rfl) nofun (fT iV 0 [(1800:Int),(3300:Int)])),(.refl _),(.refl _),(.refl _),trivial⟩) (λ _ h=>absurd h (Nat.not_lt_zero _))))⟩,trivial⟩⟩⟩
 ·rw [e1] at hm ⊢
  (conv=>whnf)
  refine aN hm λ h31 hm=>?_
  (conv=>whnf)
  refine aN hm λ h32 hm=>?_
  (conv=>whnf)
  exact ⟨((g1.1 - (1:Int)),v16.2.L,v16.2.At,(g1.2.2.2++([(⟨v12.1,([(1000:Int),(1800:Int),(3300:Int)]:List Int),g4,v14.1,(v15.1==(7:Int))⟩:aC)]:List aC))),[(1,some 123)],[],hm,⟨rfl,⟨r4,⟨rfl,rfl,rfl,oz,nofun⟩,r2,trivial⟩,⟨⟨sf,r2,trivial⟩,⟨rfl,oz,(iP rfl (λ _ _=>.refl _) rfl (ES (Le.u6 ⟨(.refl _),(.sl rfl (λ _=>rfl) nofun (fT iV 0 [(1000:Int),(1800:Int),(3300:Int)])),(.refl _),(.refl _),(.refl _),trivial⟩) (λ _ h=>absurd h (Nat.not_lt_zero _))))⟩,trivial⟩⟩⟩
 ·rw [e1] at hm ⊢
  (conv=>whnf)
  refine aN hm λ h33 hm=>?_
  (conv=>whnf)
  refine aN hm λ h34 hm=>?_
  (conv=>whnf)
  exact ⟨((g1.1 - (1:Int)),v16.2.L,v16.2.At,(g1.2.2.2++([(⟨v12.1,([(3300:Int),(5000:Int)]:List Int),g4,v14.1,(v15.1==(7:Int))⟩:aC)]:List aC))),[(1,some 123)],[],hm,⟨rfl,⟨r4,⟨rfl,rfl,rfl,oz,nofun⟩,r2,trivial⟩,⟨⟨sf,r2,trivial⟩,⟨rfl,oz,(iP rfl (λ _ _=>.refl _) rfl (ES (Le.u6 ⟨(.refl _),(.sl rfl (λ _=>rfl) nofun (fT iV 0 [(3300:Int),(5000:Int)])),(.refl _),(.refl _),(.refl _),trivial⟩) (λ _ h=>absurd h (Nat.not_lt_zero _))))⟩,trivial⟩⟩⟩
 ·rw [e1] at hm ⊢
  (conv=>whnf)
  refine aN hm λ h35 hm=>?_
  (conv=>whnf)
  refine aN hm λ h36 hm=>?_
  (conv=>whnf)
  exact ⟨((g1.1 - (1:Int)),v16.2.L,v16.2.At,(g1.2.2.2++([(⟨v12.1,([(900:Int)]:List Int),g4,v14.1,(v15.1==(7:Int))⟩:aC)]:List aC))),[(1,some 123)],[],hm,⟨rfl,⟨r4,⟨rfl,rfl,rfl,oz,nofun⟩,r2,trivial⟩,⟨⟨sf,r2,trivial⟩,⟨rfl,oz,(iP rfl (λ _ _=>.refl _) rfl (ES (Le.u6 ⟨(.refl _),(.sl rfl (λ _=>rfl) nofun (fT iV 0 [(900:Int)])),(.refl _),(.refl _),(.refl _),trivial⟩) (λ _ h=>absurd h (Nat.not_lt_zero _))))⟩,trivial⟩⟩⟩) λ _ hm=>by cases hm;exact rt [1] []
theorem mY  {r:List ByteArray} (hm:nA r):S 138 [] [] (iU r) [] :=sp Tryz.func138 rfl<|by cases hm;exact rt [8] []
theorem JL {r:bL×cB} (hm:qH bX r):S 70 [.ptr 0 0 0] [.box [ak bX.L,iV bX.At]] (nO r.1) [.box [ak r.2.L,iV r.2.At]] :=ZQ [13,17] Tryz.func70 rfl<|sq hm kD λ v1 hm=>sq hm bS λ v2 hm=>U5 [13,17] hm (λ g1=>⟨[(0,.ptr 0 0 0),(2,.ptr 1 0 0),(3,.ptr 2 0 0),(4,iV g1.1)],[(0,some (.box [ak g1.2.1,iV g1.2.2.1])),(1,some (.box [iV (0:Int),.sl 0 0 true cK])),(2,some (.box [iV v1.1,.dF 3 0 g1.2.2.2.length false])),(3,some (.row 3 g1.2.2.2.length (bA oP aM g1.2.2.2)))],4⟩) [(2,some 33),(3,none)] [] <|λ ah g1 hm=>si hm (λ _ hm=>sn hm λ _ hm=>by
 refine ⟨(aiX (es:=[.int .u8 (IntKind.u8.wrap ((97:Int)+(g1.2.2.2.length:Int)))]) rfl),?_⟩
 (conv=>whnf)
 refine aN hm λ h74 hm=>?_
 (conv=>whnf)
 refine bF hm λ v35 an6 hm=>?_
 refine ⟨_,_,(bS an6),?_⟩
 (conv=>whnf)
 refine eD (ct:=[13,17]) eX dk hm (λ g12=>⟨[(0,.ptr 0 0 0),(2,.ptr 1 0 0),(3,.ptr 2 0 0),(4,iV g1.1),(5,.ptr 3 0 0),(6,iV v35.1),(7,iV g12.1)],[(0,some (.box [ak g12.2.1,iV g12.2.2.1])),(1,some (.box [iV (0:Int),.sl 0 0 true cK])),(2,some (.box [iV v1.1,.dF 4 0 g1.2.2.2.length false])),(3,some (.box [.str (({ data:=#[103] }:ByteArray)++(strOf ([(IntKind.u8.wrap ((97:Int)+(g1.2.2.2.length:Int)))]:List Int))),.dF 5 0 g12.2.2.2.length false,.sl 0 0 true cK])),(4,some (.row 3 g1.2.2.2.length (bA oP aM g1.2.2.2))),(5,some (.row 1 g12.2.2.2.length (bA iV 0 g12.2.2.2)))],6⟩) [(3,some 92),(4,some 3),(5,none)] [] ⟨rfl,⟨r4,r4,r4,r2,r4,r2,r2,trivial⟩,⟨⟨sf,r2,trivial⟩,⟨r2,sr,trivial⟩,⟨r2,⟨rfl,rfl,rfl,rfl,nofun⟩,trivial⟩,⟨rfl,⟨rfl,rfl,rfl,rfl,rfl,rfl⟩,sr,trivial⟩,⟨rfl,rfl,(λ _ _=>.refl _)⟩,rfl,trivial⟩⟩ ?_
 intro aeF g12 hm
 (conv=>whnf)
 refine jq hm (λ c36 hm=>?_) (λ c36 hm=>?_)
 ·(conv=>whnf)
  refine bF hm λ v38 hv38 hm=>?_
  refine ⟨_,_,(kD hv38),?_⟩
  (conv=>whnf)
  refine aN hm λ h83 hm=>?_
  (conv=>whnf)
  refine jq hm (λ c37 hm=>?_) (λ c37 hm=>?_)
  ·(conv=>whnf)
   refine aN hm λ h84 hm=>?_
   (conv=>whnf)
   refine aN hm λ h85 hm=>?_
   (conv=>whnf)
   exact ⟨((g12.1+(1:Int)),v38.2.L,v38.2.At,(g12.2.2.2++([g12.1]:List Int))),[(5,some 134)],[],hm,⟨rfl,⟨r4,r4,r4,r2,r4,r2,r2,trivial⟩,⟨⟨sf,r2,trivial⟩,⟨r2,sr,trivial⟩,⟨r2,⟨rfl,rfl,rfl,rfl,nofun⟩,trivial⟩,⟨rfl,⟨rfl,rfl,rfl,oz,nofun⟩,sr,trivial⟩,⟨rfl,rfl,(λ _ _=>.refl _)⟩,⟨rfl,oz,(iP rfl (λ _ _=>.refl _) rfl (fT iV 0 [g12.1]))⟩,trivial⟩⟩⟩
  ·(conv=>whnf)
   refine TI (ct:=[13,17]) eX dk dk (ku g1 ah v38) r (λ g13=>⟨[(0,.ptr 0 0 0),(2,.ptr 1 0 0),(3,.ptr 2 0 0),(4,iV g1.1),(5,.ptr 3 0 0),(40,iV v38.1)],[(0,some (.box [ak v38.2.L,iV v38.2.At])),(1,some (.box [iV (0:Int),.sl 0 0 true cK])),(2,some (.box [iV v1.1,.dF 4 0 g1.2.2.2.length false])),(3,some (.box [.str (({ data:=#[103] }:ByteArray)++(strOf ([(IntKind.u8.wrap ((97:Int)+(g1.2.2.2.length:Int)))]:List Int))),.dF 5 0 g13.length false,.sl 0 0 true cK])),(4,some (.row 3 g1.2.2.2.length (bA oP aM g1.2.2.2))),(5,some (.row 1 g13.length (bA iV 0 g13)))],6⟩) ?_ (λ g13 hm=>?_)
   ·(conv=>whnf)
    refine jq hm (λ c41 hm=>?_) (λ c41 hm=>?_)
    ·(conv=>whnf)
     exact ⟨([v35.1]:List Int),[(5,some 142)],[],hm,⟨rfl,⟨r4,r4,r4,r2,r4,r2,trivial⟩,⟨⟨sr,r2,trivial⟩,⟨r2,sr,trivial⟩,⟨r2,⟨rfl,rfl,rfl,rfl,nofun⟩,trivial⟩,⟨rfl,⟨rfl,rfl,rfl,rfl,nofun⟩,sr,trivial⟩,⟨rfl,rfl,(λ _ _=>.refl _)⟩,⟨rfl,rfl,(fT iV 0 [v35.1])⟩,trivial⟩⟩⟩
    ·(conv=>whnf)
     exact ⟨g12.2.2.2,[],[],hm,⟨rfl,⟨r4,r4,r4,r2,r4,r2,trivial⟩,⟨⟨sr,r2,trivial⟩,⟨r2,sr,trivial⟩,⟨r2,⟨rfl,rfl,rfl,rfl,nofun⟩,trivial⟩,⟨rfl,⟨rfl,rfl,rfl,rfl,nofun⟩,sr,trivial⟩,⟨rfl,rfl,(λ _ _=>.refl _)⟩,⟨rfl,rfl,(λ _ _=>.refl _)⟩,trivial⟩⟩⟩
   ·(conv=>whnf)
    refine bF hm λ v39 hv39 hm=>?_
    refine ⟨_,_,(bS hv39),?_⟩
    (conv=>whnf)
    refine bF hm λ v40 ajl hm=>?_
    refine ⟨_,_,(mY ajl),?_⟩
    (conv=>whnf)
    refine aN hm λ h86 hm=>?_
    (conv=>whnf)
    refine TI (ct:=[13,17]) eX dk dk (iW g1 ah g13) r (λ g14=>⟨[(0,.ptr 0 0 0),(2,.ptr 1 0 0),(3,.ptr 2 0 0),(4,iV g1.1),(5,.ptr 3 0 0),(40,iV v38.1)],[(0,some (.box [ak g14.1,iV g14.2.1])),(1,some (.box [iV (0:Int),.sl 0 0 true cK])),(2,some (.box [iV v1.1,.dF 4 0 g1.2.2.2.length false])),(3,some (.box [.str (({ data:=#[103] }:ByteArray)++(strOf ([(IntKind.u8.wrap ((97:Int)+(g1.2.2.2.length:Int)))]:List Int))),.dF 5 0 g13.length false,.dF 6 0 g14.2.2.length false])),(4,some (.row 3 g1.2.2.2.length (bA oP aM g1.2.2.2))),(5,some (.row 1 g13.length (bA iV 0 g13))),(6,some (.row 1 g14.2.2.length (bA AV.str ByteArray.empty g14.2.2)))],7⟩) ?_ (λ g14 hm=>?_)
    ·(conv=>whnf)
     refine bF hm λ v43 ajm hm=>?_
     refine ⟨_,_,(bS ajm),?_⟩
     (conv=>whnf)
     refine jq hm (λ c40 hm=>?_) (λ c40 hm=>?_)
     ·(conv=>whnf)
      refine bF hm λ v44 ajn hm=>?_
      refine ⟨_,_,(mY ajn),?_⟩
      (conv=>whnf)
      refine aN hm λ h93 hm=>?_
      (conv=>whnf)
      refine aN hm λ h94 hm=>?_
      (conv=>whnf)
      refine aN hm λ h95 hm=>?_
      (conv=>whnf)
      refine aN hm λ h96 hm=>?_
      (conv=>whnf)
      exact ⟨(v43.2.L,v43.2.At,(([(v40.getD v39.1.toNat ByteArray.empty)]:List ByteArray)++([(v44.getD (((v39.1+(1:Int)).tmod (4:Int)).toNat) ByteArray.empty)]:List ByteArray))),[(6,some 182)],[],hm,⟨rfl,⟨r4,r4,r4,r2,r4,r2,trivial⟩,⟨⟨sf,r2,trivial⟩,⟨r2,sr,trivial⟩,⟨r2,⟨rfl,rfl,rfl,rfl,nofun⟩,trivial⟩,⟨rfl,⟨rfl,rfl,rfl,rfl,nofun⟩,⟨rfl,rfl,rfl,oz,nofun⟩,trivial⟩,⟨rfl,rfl,(λ _ _=>.refl _)⟩,⟨rfl,rfl,(λ _ _=>.refl _)⟩,⟨rfl,oz,(iP rfl (fT AV.str ByteArray.empty [(v40.getD v39.1.toNat ByteArray.empty)]) rfl (fT AV.str ByteArray.empty [(v44.getD (((v39.1+(1:Int)).tmod (4:Int)).toNat) ByteArray.empty)]))⟩,trivial⟩⟩⟩
     ·(conv=>whnf)
      exact ⟨(v43.2.L,v43.2.At,([(v40.getD v39.1.toNat ByteArray.empty)]:List ByteArray)),[(6,some 62)],[],hm,⟨rfl,⟨r4,r4,r4,r2,r4,r2,trivial⟩,⟨⟨sf,r2,trivial⟩,⟨r2,sr,trivial⟩,⟨r2,⟨rfl,rfl,rfl,rfl,nofun⟩,trivial⟩,⟨rfl,⟨rfl,rfl,rfl,rfl,nofun⟩,⟨rfl,rfl,rfl,rfl,nofun⟩,trivial⟩,⟨rfl,rfl,(λ _ _=>.refl _)⟩,⟨rfl,rfl,(λ _ _=>.refl _)⟩,⟨rfl,rfl,(fT AV.str ByteArray.empty [(v40.getD v39.1.toNat ByteArray.empty)])⟩,trivial⟩⟩⟩
    ·(conv=>whnf)
     refine aN hm λ h91 hm=>?_
     (conv=>whnf)
     refine aN hm λ h92 hm=>?_
     (conv=>whnf)
     exact ⟨((g1.1 - (1:Int)),g14.1,g14.2.1,(g1.2.2.2++([(⟨(({ data:=#[103] }:ByteArray)++(strOf ([(IntKind.u8.wrap ((97:Int)+(g1.2.2.2.length:Int)))]:List Int))),g13,g14.2.2⟩:dD)]:List dD))),[(3,some 39)],[],hm,⟨rfl,⟨r4,r4,r4,r2,trivial⟩,⟨⟨sf,r2,trivial⟩,⟨r2,sr,trivial⟩,⟨r2,⟨rfl,rfl,rfl,oz,nofun⟩,trivial⟩,⟨rfl,oz,(iP rfl (λ _ _=>.refl _) rfl (fT oP aM [(⟨(({ data:=#[103] }:ByteArray)++(strOf ([(IntKind.u8.wrap ((97:Int)+(g1.2.2.2.length:Int)))]:List Int))),g13,g14.2.2⟩:dD)]))⟩,trivial⟩⟩⟩
 ·(conv=>whnf)
  refine ⟨(λ q0=>absurd q0 (vac c36)),?_⟩
  (conv=>whnf)
  refine ⟨(λ q0=>absurd q0 (vac c36)),?_⟩
  (conv=>whnf)
  refine aN hm λ h97 hm=>?_
  (conv=>whnf)
  refine TI (ct:=[13,17]) eX dk dk (jI g1 ah g12) r (λ g15=>⟨[(0,.ptr 0 0 0),(2,.ptr 1 0 0),(3,.ptr 2 0 0),(4,iV g1.1),(5,.ptr 3 0 0)],[(0,some (.box [ak g12.2.1,iV g12.2.2.1])),(1,some (.box [iV (0:Int),.sl 0 0 true cK])),(2,some (.box [iV v1.1,.dF 4 0 g1.2.2.2.length false])),(3,some (.box [.str (({ data:=#[103] }:ByteArray)++(strOf ([(IntKind.u8.wrap ((97:Int)+(g1.2.2.2.length:Int)))]:List Int))),.dF 5 0 g15.length false,.sl 0 0 true cK])),(4,some (.row 3 g1.2.2.2.length (bA oP aM g1.2.2.2))),(5,some (.row 1 g15.length (bA iV 0 g15)))],6⟩) ?_ (λ g15 hm=>?_)
  ·(conv=>whnf)
   refine jq hm (λ c45 hm=>?_) (λ c45 hm=>?_)
   ·(conv=>whnf)
    exact ⟨([v35.1]:List Int),[(5,some 142)],[],hm,⟨rfl,⟨r4,r4,r4,r2,r4,trivial⟩,⟨⟨sr,r2,trivial⟩,⟨r2,sr,trivial⟩,⟨r2,⟨rfl,rfl,rfl,rfl,nofun⟩,trivial⟩,⟨rfl,⟨rfl,rfl,rfl,rfl,nofun⟩,sr,trivial⟩,⟨rfl,rfl,(λ _ _=>.refl _)⟩,⟨rfl,rfl,(fT iV 0 [v35.1])⟩,trivial⟩⟩⟩
   ·(conv=>whnf)
    exact ⟨g12.2.2.2,[],[],hm,⟨rfl,⟨r4,r4,r4,r2,r4,trivial⟩,⟨⟨sr,r2,trivial⟩,⟨r2,sr,trivial⟩,⟨r2,⟨rfl,rfl,rfl,rfl,nofun⟩,trivial⟩,⟨rfl,⟨rfl,rfl,rfl,rfl,nofun⟩,sr,trivial⟩,⟨rfl,rfl,(λ _ _=>.refl _)⟩,⟨rfl,rfl,(λ _ _=>.refl _)⟩,trivial⟩⟩⟩
  ·(conv=>whnf)
   refine bF hm λ v45 ajo hm=>?_
   refine ⟨_,_,(bS ajo),?_⟩
   (conv=>whnf)
   refine bF hm λ v46 aeK hm=>?_
   refine ⟨_,_,(mY aeK),?_⟩
   (conv=>whnf)
   refine aN hm λ h98 hm=>?_
   (conv=>whnf)
   refine TI (ct:=[13,17]) eX dk dk (iF g1 ah g15) r (λ g16=>⟨[(0,.ptr 0 0 0),(2,.ptr 1 0 0),(3,.ptr 2 0 0),(4,iV g1.1),(5,.ptr 3 0 0)],[(0,some (.box [ak g16.1,iV g16.2.1])),(1,some (.box [iV (0:Int),.sl 0 0 true cK])),(2,some (.box [iV v1.1,.dF 4 0 g1.2.2.2.length false])),(3,some (.box [.str (({ data:=#[103] }:ByteArray)++(strOf ([(IntKind.u8.wrap ((97:Int)+(g1.2.2.2.length:Int)))]:List Int))),.dF 5 0 g15.length false,.dF 6 0 g16.2.2.length false])),(4,some (.row 3 g1.2.2.2.length (bA oP aM g1.2.2.2))),(5,some (.row 1 g15.length (bA iV 0 g15))),(6,some (.row 1 g16.2.2.length (bA AV.str ByteArray.empty g16.2.2)))],7⟩) ?_ (λ g16 hm=>?_)
   ·(conv=>whnf)
    refine bF hm λ v49 aeJ hm=>?_
    refine ⟨_,_,(bS aeJ),?_⟩
    (conv=>whnf)
    refine jq hm (λ c44 hm=>?_) (λ c44 hm=>?_)
    ·(conv=>whnf)
     refine bF hm λ v50 aaL hm=>?_
     refine ⟨_,_,(mY aaL),?_⟩
     (conv=>whnf)
     refine aN hm λ axl hm=>?_
     (conv=>whnf)
     refine aN hm λ axn hm=>?_
     (conv=>whnf)
     refine aN hm λ axo hm=>?_
     (conv=>whnf)
     refine aN hm λ axp hm=>?_
     (conv=>whnf)
     exact ⟨(v49.2.L,v49.2.At,(([(v46.getD v45.1.toNat ByteArray.empty)]:List ByteArray)++([(v50.getD (((v45.1+(1:Int)).tmod (4:Int)).toNat) ByteArray.empty)]:List ByteArray))),[(6,some 182)],[],hm,⟨rfl,⟨r4,r4,r4,r2,r4,trivial⟩,⟨⟨sf,r2,trivial⟩,⟨r2,sr,trivial⟩,⟨r2,⟨rfl,rfl,rfl,rfl,nofun⟩,trivial⟩,⟨rfl,⟨rfl,rfl,rfl,rfl,nofun⟩,⟨rfl,rfl,rfl,oz,nofun⟩,trivial⟩,⟨rfl,rfl,(λ _ _=>.refl _)⟩,⟨rfl,rfl,(λ _ _=>.refl _)⟩,⟨rfl,oz,(iP rfl (fT AV.str ByteArray.empty [(v46.getD v45.1.toNat ByteArray.empty)]) rfl (fT AV.str ByteArray.empty [(v50.getD (((v45.1+(1:Int)).tmod (4:Int)).toNat) ByteArray.empty)]))⟩,trivial⟩⟩⟩
    ·(conv=>whnf)
     exact ⟨(v49.2.L,v49.2.At,([(v46.getD v45.1.toNat ByteArray.empty)]:List ByteArray)),[(6,some 62)],[],hm,⟨rfl,⟨r4,r4,r4,r2,r4,trivial⟩,⟨⟨sf,r2,trivial⟩,⟨r2,sr,trivial⟩,⟨r2,⟨rfl,rfl,rfl,rfl,nofun⟩,trivial⟩,⟨rfl,⟨rfl,rfl,rfl,rfl,nofun⟩,⟨rfl,rfl,rfl,rfl,nofun⟩,trivial⟩,⟨rfl,rfl,(λ _ _=>.refl _)⟩,⟨rfl,rfl,(λ _ _=>.refl _)⟩,⟨rfl,rfl,(fT AV.str ByteArray.empty [(v46.getD v45.1.toNat ByteArray.empty)])⟩,trivial⟩⟩⟩
   ·(conv=>whnf)
    refine aN hm λ axq hm=>?_
    (conv=>whnf)
    refine aN hm λ axr hm=>?_
    (conv=>whnf)
    exact ⟨((g1.1 - (1:Int)),g16.1,g16.2.1,(g1.2.2.2++([(⟨(({ data:=#[103] }:ByteArray)++(strOf ([(IntKind.u8.wrap ((97:Int)+(g1.2.2.2.length:Int)))]:List Int))),g15,g16.2.2⟩:dD)]:List dD))),[(3,some 39)],[],hm,⟨rfl,⟨r4,r4,r4,r2,trivial⟩,⟨⟨sf,r2,trivial⟩,⟨r2,sr,trivial⟩,⟨r2,⟨rfl,rfl,rfl,oz,nofun⟩,trivial⟩,⟨rfl,oz,(iP rfl (λ _ _=>.refl _) rfl (fT oP aM [(⟨(({ data:=#[103] }:ByteArray)++(strOf ([(IntKind.u8.wrap ((97:Int)+(g1.2.2.2.length:Int)))]:List Int))),g15,g16.2.2⟩:dD)]))⟩,trivial⟩⟩⟩) λ _ hm=>by cases hm;exact rt [3] []
variable {k_:Int}
theorem rJ {n_:Int} {r:List Int×cB} (hm:kC n_ k_ bX r):S 77 [.ptr 0 0 0,iV n_,iV k_] [.box [ak bX.L,iV bX.At]] (ak r.1) [.box [ak r.2.L,iV r.2.At]] :=sp Tryz.func77 rfl<|lf hm (λ g1=>⟨[(0,.ptr 0 0 0),(1,iV n_),(2,iV k_),(7,.dF 1 0 g1.2.2.2.length false),(8,iV g1.1)],[(0,some (.box [ak g1.2.1,iV g1.2.2.1])),(1,some (.row 1 g1.2.2.2.length (bA iV 0 g1.2.2.2)))],2⟩) [(1,none)] [] <|λ ah g1 hm=>si hm (λ _ hm=>sq hm bS λ v3 hm=>sn hm λ _ hm=>si hm (λ _ hm=>s2 hm λ _ _ hm=>lc [(1,some 98)] [] hm) λ _ hm=>sn hm λ _ hm=>le hm) λ _ hm=>by cases hm;exact rt [1] []
variable {iX:Int}
theorem JM {r:List eu×cB} (hm:qI iX bX r):S 71 [.ptr 0 0 0,iV iX] [.box [ak bX.L,iV bX.At]] (bV r.1) [.box [ak r.2.L,iV r.2.At]] :=sp Tryz.func71 rfl<|sn hm λ _ hm=>sq hm bS λ v1 hm=>lf hm (λ g1=>⟨[(0,.ptr 0 0 0),(5,.dF 1 0 g1.2.2.2.length false),(6,iV g1.1)],[(0,some (.box [ak g1.2.1,iV g1.2.2.1])),(1,some (.row 1 g1.2.2.2.length (bA aaw eU g1.2.2.2)))],2⟩) [(1,none)] [] <|λ ah g1 hm=>si hm (λ _ hm=>sq hm rJ λ v4 hm=>s2 hm λ _ _ hm=>lc [(1,some 74)] [] hm) λ _ hm=>by cases hm;exact rt [1] []
theorem H7 {r:List dG×cB} (hm:pF iX bX r):S 72 [.ptr 0 0 0,iV iX] [.box [ak bX.L,iV bX.At]] (bI r.1) [.box [ak r.2.L,iV r.2.At]] :=sp Tryz.func72 rfl<|sn hm λ _ hm=>sq hm bS λ v1 hm=>lf hm (λ g1=>⟨[(0,.ptr 0 0 0),(5,.dF 1 0 g1.2.2.2.length false),(6,iV g1.1)],[(0,some (.box [ak g1.2.1,iV g1.2.2.1])),(1,some (.row 2 g1.2.2.2.length (bA afG eY g1.2.2.2)))],2⟩) [(1,none)] [] <|λ ah g1 hm=>si hm (λ _ hm=>sn hm λ _ hm=>sq hm kD λ v6 hm=>sq hm bS λ v7 hm=>s2 hm λ _ _ hm=>lc [(1,some 106)] [] hm) λ _ hm=>by cases hm;exact rt [1] []
theorem Ma {r:aP×cB} (hm:sP bX r):S 21 [.ptr 0 0 0] [.box [ak bX.L,iV bX.At]] (iM r.1) [.box [ak r.2.L,iV r.2.At]] :=sp Tryz.func21 rfl<|sq hm JK λ v1 hm=>sq hm F8 λ v2 hm=>sq hm JL λ v3 hm=>sq hm JM λ v4 hm=>sq hm H7 λ v5 hm=>by cases hm;exact re
theorem Mc {r:bg×cB} (hm:sQ b_ bX r):S 74 [.ptr 0 0 0,iM b_] [.box [ak bX.L,iV bX.At]] (A9 r.1) [.box [ak r.2.L,iV r.2.At]] :=sp Tryz.func74 rfl<|sq hm bS λ v1 hm=>sb hm λ v2 hv2 hm=>cl ((gy hv2).le ⟨.refl _,(.sl rfl (λ _=>rfl) nofun (fT iV 0 [(0:Int),(0:Int),(6:Int),(12:Int),(24:Int)])),trivial⟩ ⟨mG _,trivial⟩)<|sb hm λ v3 hv3 hm=>cl ((gy hv3).le ⟨.refl _,(.sl rfl (λ _=>rfl) nofun (fT iV 0 [(24:Int),(48:Int),(100:Int),(300:Int)])),trivial⟩ ⟨mG _,trivial⟩)<|by cases hm;exact re
theorem Nk {r:bU×cB} (hm:vE b_ bX r):S 75 [.ptr 0 0 0,iM b_] [.box [ak bX.L,iV bX.At]] (Ka r.1) [.box [ak r.2.L,iV r.2.At]] :=sp Tryz.func75 rfl<|sq hm bS λ v1 hm=>sb hm λ v2 hv2 hm=>cl ((gy hv2).le ⟨.refl _,(.sl rfl (λ _=>rfl) nofun (fT iV 0 [(0:Int),(900:Int),(1000:Int),(1800:Int)])),trivial⟩ ⟨mG _,trivial⟩)<|sb hm λ v3 hv3 hm=>cl ((gy hv3).le ⟨.refl _,(.sl rfl (λ _=>rfl) nofun (fT iV 0 [(1800:Int),(3300:Int),(5000:Int)])),trivial⟩ ⟨mG _,trivial⟩)<|sb hm λ v4 hv4 hm=>cl ((gy hv4).le ⟨.refl _,(.sl rfl (λ _=>rfl) nofun (fT iV 0 [(0:Int),(10:Int),(50:Int),(200:Int)])),trivial⟩ ⟨mG _,trivial⟩)<|by cases hm;exact re
theorem Nl {l_:List ByteArray} {r:ByteArray×cB} (hm:vF l_ bX r):S 139 [.ptr 0 0 0,iU l_] [.box [ak bX.L,iV bX.At]] (.str r.1) [.box [ak r.2.L,iV r.2.At]] :=sp Tryz.func139 rfl<|sq hm bS λ v1 hm=>sn hm λ _ hm=>by cases hm;exact re
theorem H8 {r:List ByteArray×cB} (hm:pG iX bX r):S 76 [.ptr 0 0 0,iV iX] [.box [ak bX.L,iV bX.At]] (iU r.1) [.box [ak r.2.L,iV r.2.At]] :=sp Tryz.func76 rfl<|sn hm λ _ hm=>sq hm bS λ v1 hm=>lf hm (λ g1=>⟨[(0,.ptr 0 0 0),(5,.dF 1 0 g1.2.2.2.length false),(6,iV g1.1)],[(0,some (.box [ak g1.2.1,iV g1.2.2.1])),(1,some (.row 1 g1.2.2.2.length (bA AV.str ByteArray.empty g1.2.2.2)))],2⟩) [(1,none)] [] <|λ ah g1 hm=>si hm (λ _ hm=>sq hm mY λ v6 hm=>sq hm Nl λ v7 hm=>s2 hm λ _ _ hm=>lc [(1,some 58)] [] hm) λ _ hm=>by cases hm;exact rt [1] []
theorem H9 {r:List aO×cB} (hm:pI b_ iX bX r):S 22 [.ptr 0 0 0,iM b_,iV iX] [.box [ak bX.L,iV bX.At]] (dB r.1) [.box [ak r.2.L,iV r.2.At]] :=ZQ [9,11,13,18,19] Tryz.func22 rfl<|sn hm λ _ hm=>sq hm bS λ v1 hm=>U5 [9,11,13,18,19] hm (λ g1=>⟨[(0,.ptr 0 0 0),(4,.ptr 1 0 0),(7,.dF 2 0 g1.2.2.2.length false),(8,iV v1.1),(9,iV g1.1)],[(0,some (.box [ak g1.2.1,iV g1.2.2.1])),(1,some (.box [aU b_.bT,aT b_.bD,iV b_.aQ.dz,aX b_.aQ.aG,bV b_.bf,bI b_.bO])),(2,some (.row 6 g1.2.2.2.length (bA zw dh g1.2.2.2)))],3⟩) [(2,none)] [] <|λ ah g1 hm=>si hm (λ _ hm=>sn hm λ _ hm=>sq hm kD λ v46 hm=>ck [9,11,13,18,19] (jC b_ v1 g1 ah v46) r (λ g14=>⟨[(0,.ptr 0 0 0),(4,.ptr 1 0 0),(7,.dF 2 0 g1.2.2.2.length false),(8,iV v1.1),(9,iV g1.1),(10,.ptr 3 0 0)],[(0,some (.box [ak g14.1,iV g14.2.1])),(1,some (.box [aU b_.bT,aT b_.bD,iV b_.aQ.dz,aX b_.aQ.aG,bV b_.bf,bI b_.bO])),(2,some (.row 6 g1.2.2.2.length (bA zw dh g1.2.2.2))),(3,some (.box [.dF 4 0 g14.2.2.length false,.sl 0 0 true cK,.sl 0 0 true cK,.sl 0 0 true cK,iV v46.1,.sl 0 0 true cK])),(4,some (.row 3 g14.2.2.length (bA A9 dU g14.2.2)))],5⟩) (si hm (λ _ hm=>sq hm bS λ v66 hm=>si hm (λ _ hm=>sq hm Mc λ v67 hm=>sn hm λ _ hm=>lc [(3,some 83),(4,some 219)] [] hm) λ _ hm=>lc [(3,some 83),(4,none)] [] hm) λ c50 hm=>by
 refine ⟨(λ q0=>absurd q0 (vac c50)),?_⟩
 (conv=>whnf)
 refine aN hm λ h34 hm=>?_
 (conv=>whnf)
 exact ⟨(v46.2.L,v46.2.At,([]:List bg)),[(3,some 83),(4,none)],[],hm,⟨rfl,⟨r4,r4,⟨rfl,rfl,rfl,rfl,nofun⟩,r2,r2,r4,trivial⟩,⟨⟨sf,r2,trivial⟩,⟨sr,sr,r2,sr,sr,sr,trivial⟩,⟨rfl,rfl,(λ _ _=>.refl _)⟩,⟨⟨rfl,rfl,rfl,rfl,rfl,rfl⟩,sr,sr,sr,r2,sr,trivial⟩,rfl,trivial⟩⟩⟩) λ g14 hm=>ck [9,11,13,18,19] (jh b_ v1 g1 ah v46 g14) r (λ g15=>⟨[(0,.ptr 0 0 0),(4,.ptr 1 0 0),(7,.dF 2 0 g1.2.2.2.length false),(8,iV v1.1),(9,iV g1.1),(10,.ptr 3 0 0)],[(0,some (.box [ak g15.1,iV g15.2.1])),(1,some (.box [aU b_.bT,aT b_.bD,iV b_.aQ.dz,aX b_.aQ.aG,bV b_.bf,bI b_.bO])),(2,some (.row 6 g1.2.2.2.length (bA zw dh g1.2.2.2))),(3,some (.box [.dF 4 0 g14.2.2.length false,.dF 5 0 g15.2.2.length false,.sl 0 0 true cK,.sl 0 0 true cK,iV v46.1,.sl 0 0 true cK])),(4,some (.row 3 g14.2.2.length (bA A9 dU g14.2.2))),(5,some (.row 4 g15.2.2.length (bA Ka eP g15.2.2)))],6⟩) (si hm (λ _ hm=>sq hm bS λ v64 hm=>si hm (λ _ hm=>sq hm Nk λ v65 hm=>sn hm λ _ hm=>lc [(5,some 125)] [] hm) λ _ hm=>lc [(5,none)] [] hm) λ c48 hm=>by
 refine ⟨(λ q0=>absurd q0 (vac c48)),?_⟩
 (conv=>whnf)
 refine aN hm λ h32 hm=>?_
 (conv=>whnf)
 exact ⟨(g14.1,g14.2.1,([]:List bU)),[(5,none)],[],hm,⟨rfl,⟨r4,r4,⟨rfl,rfl,rfl,rfl,nofun⟩,r2,r2,r4,trivial⟩,⟨⟨sf,r2,trivial⟩,⟨sr,sr,r2,sr,sr,sr,trivial⟩,⟨rfl,rfl,(λ _ _=>.refl _)⟩,⟨⟨rfl,rfl,rfl,rfl,nofun⟩,⟨rfl,rfl,rfl,rfl,rfl,rfl⟩,sr,sr,r2,sr,trivial⟩,⟨rfl,rfl,(λ _ _=>.refl _)⟩,rfl,trivial⟩⟩⟩) λ g15 hm=>ck [9,11,13,18,19] (jT b_ v1 g1 ah v46 g14 g15) r (λ g16=>⟨[(0,.ptr 0 0 0),(4,.ptr 1 0 0),(7,.dF 2 0 g1.2.2.2.length false),(8,iV v1.1),(9,iV g1.1),(10,.ptr 3 0 0)],[(0,some (.box [ak g16.1,iV g16.2.1])),(1,some (.box [aU b_.bT,aT b_.bD,iV b_.aQ.dz,aX b_.aQ.aG,bV b_.bf,bI b_.bO])),(2,some (.row 6 g1.2.2.2.length (bA zw dh g1.2.2.2))),(3,some (.box [.dF 4 0 g14.2.2.length false,.dF 5 0 g15.2.2.length false,iU g16.2.2,.sl 0 0 true cK,iV v46.1,.sl 0 0 true cK])),(4,some (.row 3 g14.2.2.length (bA A9 dU g14.2.2))),(5,some (.row 4 g15.2.2.length (bA Ka eP g15.2.2)))],6⟩) (sq hm bS λ v62 hm=>si hm (λ _ hm=>sq hm H8 λ v63 hm=>le hm) λ _ hm=>le hm) λ g16 hm=>sq hm rJ λ v53 hm=>ck [9,11,13,18,19] (jR g1 ah v46 g14 g15 g16 v53) r (λ g18=>⟨[(0,.ptr 0 0 0),(4,.ptr 1 0 0),(7,.dF 2 0 g1.2.2.2.length false),(8,iV v1.1),(9,iV g1.1),(10,.ptr 3 0 0)],[(0,some (.box [ak g18.1,iV g18.2.1])),(1,some (.box [aU b_.bT,aT b_.bD,iV b_.aQ.dz,aX b_.aQ.aG,bV b_.bf,bI b_.bO])),(2,some (.row 6 g1.2.2.2.length (bA zw dh g1.2.2.2))),(3,some (.box [.dF 4 0 g14.2.2.length false,.dF 5 0 g15.2.2.length false,iU g16.2.2,ak v53.1,iV v46.1,ak g18.2.2])),(4,some (.row 3 g14.2.2.length (bA A9 dU g14.2.2))),(5,some (.row 4 g15.2.2.length (bA Ka eP g15.2.2)))],6⟩) (sq hm bS λ v58 hm=>si hm (λ _ hm=>ck [9,11,13,18,19] (jS g1 ah v46 g14 g15 g16 v53) r (λ g19=>⟨[(0,.ptr 0 0 0),(4,.ptr 1 0 0),(7,.dF 2 0 g1.2.2.2.length false),(8,iV v1.1),(9,iV g1.1),(10,.ptr 3 0 0),(11,iV g19.1)],[(0,some (.box [ak g19.2.1,iV g19.2.2])),(1,some (.box [aU b_.bT,aT b_.bD,iV b_.aQ.dz,aX b_.aQ.aG,bV b_.bf,bI b_.bO])),(2,some (.row 6 g1.2.2.2.length (bA zw dh g1.2.2.2))),(3,some (.box [.dF 4 0 g14.2.2.length false,.dF 5 0 g15.2.2.length false,iU g16.2.2,ak v53.1,iV v46.1,.sl 0 0 true cK])),(4,some (.row 3 g14.2.2.length (bA A9 dU g14.2.2))),(5,some (.row 4 g15.2.2.length (bA Ka eP g15.2.2)))],6⟩) (sq hm bS λ v61 hm=>si hm (λ _ hm=>le hm) λ _ hm=>le hm) λ g19 hm=>sq hm rJ λ v60 hm=>le hm) λ _ hm=>le hm) λ g18 hm=>s2 hm λ _ _ hm=>lc [(2,some 30)] [] hm) λ _ hm=>si hm (λ _ hm=>sq hm bS λ v68 hm=>si hm (λ _ hm=>sn hm λ _ hm=>U5 [9,11,13,18,19] hm (λ g20=>⟨[(7,.dF 1 0 g20.2.2.length false),(8,iV v1.1),(12,iV g20.1),(13,iV g20.2.1)],[(0,some (.box [ak v68.2.L,iV v68.2.At])),(1,some (.row 6 g20.2.2.length (bA zw dh g20.2.2)))],2⟩) [(1,some 2)] [] <|λ aeH g20 hm=>si hm (λ _ hm=>s2 hm λ _ _ hm=>s2 hm λ _ _ hm=>s2 hm λ _ _ hm=>le hm) λ _ hm=>U5 [9,11,13,18,19] hm (λ g21=>⟨[(7,.dF 1 0 g21.2.length false),(8,iV v1.1),(126,iV (g20.2.2.length:Int)),(127,iV g21.1)],[(0,some (.box [ak v68.2.L,iV v68.2.At])),(1,some (.row 6 g21.2.length (bA zw dh g21.2)))],2⟩) [] [] <|λ WY g21 hm=>si hm (λ _ hm=>s2 hm λ _ _ hm=>U5 [9,11,13,18,19] hm (λ g24=>⟨[(7,.dF 1 0 g21.2.length false),(8,iV v1.1),(14,iV g21.1),(15,.dF 2 0 g24.2.length false),(16,iV g24.1),(126,iV (g20.2.2.length:Int)),(127,iV g21.1)],[(0,some (.box [ak v68.2.L,iV v68.2.At])),(1,some (.row 6 g21.2.length (bA zw dh g21.2))),(2,some (.row 1 g24.2.length (bA iV 0 g24.2)))],3⟩) [(2,none)] [] <|λ aeG g24 hm=>si hm (λ _ hm=>s2 hm λ _ _ hm=>s2 hm λ _ _ hm=>s2 hm λ _ _ hm=>lc [(2,some 123)] [] hm) λ _ hm=>s2 hm λ _ _ hm=>le hm) λ _ hm=>by cases hm;exact rt [1] []) λ _ hm=>by cases hm;exact rt [2] []) λ c52 hm=>by
 refine ⟨(λ q0=>absurd q0 (vac c52)),?_⟩
 (conv=>whnf)
 refine aN hm λ axw hm=>?_
 (conv=>whnf)
 have hm:r=(g1.2.2.2,(⟨g1.2.1,g1.2.2.1⟩:cB)):=hm
 subst hm
 refine ⟨[2],[],?_⟩
 (conv=>whnf)
 exact ⟨⟨rfl,trivial,⟨⟨sf,r2,trivial⟩,trivial⟩⟩,sf⟩
theorem abz {l_:List Int} (hm:VB l_ x_ r):S 272 [ak l_,iV x_] [] (.bool r) [] :=sp Tryz.func272 rfl<|l0 hm (λ g1=>⟨[(0,ak l_),(1,iV x_),(5,iV g1)],[],0⟩) <|λ ah g1 hm=>si hm (λ _ hm=>sn hm λ _ hm=>si hm (λ _ hm=>by cases hm;exact re) λ _ hm=>sn hm λ _ hm=>le hm) λ _ hm=>by cases hm;exact re
theorem lX {l_:List Int} {Gi:Int} {JF:Int} (hm:kK l_ Gi JF r):S 263 [ak l_,iV Gi,iV JF] [] (.bool r) [] :=sp Tryz.func263 rfl<|l0 hm (λ g1=>⟨[(0,ak l_),(1,iV Gi),(2,iV JF),(9,ak l_),(10,iV (l_.length:Int)),(11,iV g1)],[],0⟩) <|λ ah g1 hm=>si hm (λ _ hm=>s2 hm λ _ _ hm=>sb hm λ v3 hv3 hm=>cl (λ q0=>((abz (hv3 q0)).le ⟨(.sl oz (λ _=>rfl) nofun (iG (f:=iV) (d:=0) (by first | omega | exact Nat.min_le_left _ _ | exact Nat.le_trans (Nat.min_le_left _ _) om | (simp; omega)))),.refl _,trivial⟩ trivial))<|si hm (λ _ hm=>by cases hm;exact re) λ _ hm=>sn hm λ _ hm=>le hm) λ _ hm=>by cases hm;exact re
theorem Cm {a_:List Int} {b_:List Int} (hm:AO a_ b_ r):S 134 [ak a_,ak b_] [] (.bool r) [] :=sp Tryz.func134 rfl<|si hm (λ _ hm=>by cases hm;exact re) λ _ hm=>l0 hm (λ g1=>⟨[(0,ak a_),(1,ak b_),(5,iV g1)],[],0⟩) <|λ ah g1 hm=>si hm (λ _ hm=>s2 hm λ _ _ hm=>si hm (λ _ hm=>by cases hm;exact re) λ _ hm=>sn hm λ _ hm=>le hm) λ _ hm=>by cases hm;exact re
theorem O7 {c_:ay} (hm:xO c_ r):S 239 [RU c_] [] (.bool r) [] :=sp Tryz.func239 rfl<|si hm (λ _ hm=>s2 hm λ _ _ hm=>by cases hm;exact re) λ _ hm=>si hm (λ _ hm=>si hm (λ _ hm=>sb hm λ v1 hv1 hm=>cl (λ q0=>(lX (hv1 q0)))<|by cases hm;exact re) λ _ hm=>si hm (λ _ hm=>sn hm λ _ hm=>sb hm λ v2 hv2 hm=>cl (λ q0=>(lX (hv2 q0)))<|by cases hm;exact re) λ _ hm=>si hm (λ _ hm=>si hm (λ _ hm=>sb hm λ v3 hv3 hm=>cl (λ q0=>((Cm (hv3 q0)).le ⟨.refl _,(.sl rfl (λ _=>rfl) nofun (fT iV 0 [(0:Int),(1:Int)])),trivial⟩ trivial))<|by cases hm;exact re) λ c6 hm=>by
 refine ⟨.bool false,[],(λ q0=>absurd q0 (vac c6)),?_⟩
 (conv=>whnf)
 have hm:r=(((c_.bJ.length:Int)==(1:Int))&&false):=hm
 subst hm
 refine ⟨[],[],?_⟩
 (conv=>whnf)
 exact ⟨⟨rfl,trivial,trivial⟩,rfl⟩) λ _ hm=>by cases hm;exact re) λ _ hm=>si hm (λ _ hm=>sb hm λ v4 hv4 hm=>cl (λ q0=>(lX (hv4 q0)))<|by cases hm;exact re) λ _ hm=>si hm (λ _ hm=>sn hm λ _ hm=>sb hm λ v5 hv5 hm=>cl (λ q0=>(lX (hv5 q0)))<|by cases hm;exact re) λ _ hm=>si hm (λ _ hm=>si hm (λ _ hm=>sb hm λ v6 hv6 hm=>cl (λ q0=>((Cm (hv6 q0)).le ⟨.refl _,(.sl rfl (λ _=>rfl) nofun (fT iV 0 [(0:Int),(1:Int)])),trivial⟩ trivial))<|by cases hm;exact re) λ c10 hm=>by
 refine ⟨.bool false,[],(λ q0=>absurd q0 (vac c10)),?_⟩
 (conv=>whnf)
 have hm:r=(((c_.bJ.length:Int)==(1:Int))&&false):=hm
 subst hm
 refine ⟨[],[],?_⟩
 (conv=>whnf)
 exact ⟨⟨rfl,trivial,trivial⟩,rfl⟩) λ _ hm=>by cases hm;exact re
theorem O8 {l_:List ay} {r:List Int} (hm:xP l_ r):S 240 [aU l_] [] (ak r) [] :=ZQ [13] Tryz.func240 rfl<|U5 [13] hm (λ g1=>⟨[(3,.dF 0 0 g1.2.length false),(9,aU l_),(10,iV (l_.length:Int)),(11,iV g1.1)],[(0,some (.row 1 g1.2.length (bA iV 0 g1.2)))],1⟩) [(0,none)] [] <|λ ah g1 hm=>si hm (λ _ hm=>sn hm λ _ hm=>U5 [13] hm (λ g6=>⟨[(3,.dF 0 0 g1.2.length false),(5,.ptr 1 0 0),(6,iV g6.1),(9,aU l_),(10,iV (l_.length:Int)),(11,iV g1.1),(16,ak ((l_.getD g1.1.toNat aV).bJ)),(17,iV ((((l_.getD g1.1.toNat aV).bJ).length:Nat):Int)),(18,iV g6.2)],[(0,some (.row 1 g1.2.length (bA iV 0 g1.2))),(1,some (.box [iV ((l_.getD g1.1.toNat aV).eT),ak ((l_.getD g1.1.toNat aV).bJ),ak ((l_.getD g1.1.toNat aV).aR),iV ((l_.getD g1.1.toNat aV).Low),iV ((l_.getD g1.1.toNat aV).gF)]))],2⟩) [(1,some 25)] [] <|λ jE g6 hm=>si hm (λ _ hm=>s2 hm λ _ _ hm=>sn hm λ _ hm=>le hm) λ _ hm=>ck [13] (lV g1 ah) r (λ g7=>⟨[(3,.dF 0 0 g1.2.length false),(6,iV g7),(9,aU l_),(10,iV (l_.length:Int)),(11,iV g1.1)],[(0,some (.row 1 g1.2.length (bA iV 0 g1.2)))],1⟩) (si hm (λ _ hm=>sn hm λ _ hm=>le hm) λ _ hm=>le hm) λ g7 hm=>s2 hm λ _ _ hm=>lc [(0,some 25)] [] hm) λ _ hm=>by cases hm;exact rt [0] []
theorem mZ {l_:List ay} {r:Int} (hm:nC l_ r):S 187 [aU l_] [] (iV r) [] :=sp Tryz.func187 rfl<|si hm (λ _ hm=>by cases hm;exact re) λ _ hm=>l0 hm (λ g1=>⟨[(0,aU l_),(15,aU l_),(16,iV (l_.length:Int)),(17,iV g1)],[],0⟩) <|λ ah g1 hm=>si hm (λ _ hm=>sn hm λ _ hm=>si hm (λ _ hm=>by cases hm;exact re) λ _ hm=>sn hm λ _ hm=>le hm) λ _ hm=>l0 hm (λ g2=>⟨[(0,aU l_),(5,iV g2.1),(32,aU l_),(33,iV (l_.length:Int)),(34,iV g2.2)],[],0⟩) <|λ dR g2 hm=>si hm (λ _ hm=>sn hm λ _ hm=>lf hm (λ g5=>⟨[(0,aU l_),(5,iV g2.1),(6,iV g2.2),(7,.ptr 0 0 0),(32,aU l_),(33,iV (l_.length:Int)),(34,iV g2.2),(40,ak ((l_.getD g2.2.toNat aV).bJ)),(41,iV ((((l_.getD g2.2.toNat aV).bJ).length:Nat):Int)),(42,iV g5)],[(0,some (.box [iV ((l_.getD g2.2.toNat aV).eT),ak ((l_.getD g2.2.toNat aV).bJ),ak ((l_.getD g2.2.toNat aV).aR),iV ((l_.getD g2.2.toNat aV).Low),iV ((l_.getD g2.2.toNat aV).gF)]))],1⟩) [(0,some 32)] [] <|λ jP g5 hm=>si hm (λ _ hm=>sn hm λ _ hm=>si hm (λ _ hm=>by cases hm;exact re) λ _ hm=>sn hm λ _ hm=>le hm) λ _ hm=>sq hm O7 λ v3 hm=>si hm (λ _ hm=>by cases hm;exact re) λ _ hm=>s2 hm λ _ _ hm=>le hm) λ _ hm=>si hm (λ _ hm=>by cases hm;exact re) λ _ hm=>sq hm O8 λ v4 hm=>l0 hm (λ g6=>⟨[(84,ak v4),(85,iV (v4.length:Int)),(86,iV g6)],[],0⟩) <|λ jE g6 hm=>si hm (λ _ hm=>sn hm λ _ hm=>si hm (λ _ hm=>by cases hm;exact re) λ _ hm=>sn hm λ _ hm=>le hm) λ _ hm=>by cases hm;exact re
theorem j4 {Gi:Int} {JF:Int} (hm:oI x_ Gi JF r):S 198 [iV x_,iV Gi,iV JF] [] (.bool r) [] :=sp Tryz.func198 rfl<|by cases hm;exact re
theorem ng {l_:List aC} {r:Int} (hm:nD l_ r):S 126 [aT l_] [] (iV r) [] :=sp Tryz.func126 rfl<|si hm (λ _ hm=>by cases hm;exact re) λ _ hm=>l0 hm (λ g1=>⟨[(0,aT l_),(12,aT l_),(13,iV (l_.length:Int)),(14,iV g1)],[],0⟩) <|λ ah g1 hm=>si hm (λ _ hm=>sn hm λ _ hm=>si hm (λ _ hm=>by cases hm;exact re) λ _ hm=>sn hm λ _ hm=>le hm) λ _ hm=>l0 hm (λ g2=>⟨[(23,aT l_),(24,iV (l_.length:Int)),(25,iV g2)],[],0⟩) <|λ dR g2 hm=>si hm (λ _ hm=>s2 hm λ _ _ hm=>sq hm j4 λ v13 hm=>sb hm λ v14 Qn hm=>cl (λ q0=>(j4 (Qn q0)))<|sb hm λ v15 aaV hm=>cl (λ q0=>(j4 (aaV q0)))<|si hm (λ _ hm=>by cases hm;exact re) λ _ hm=>lf hm (λ g5=>⟨[(6,.ptr 0 0 0),(23,aT l_),(24,iV (l_.length:Int)),(25,iV g2),(65,ak ((l_.getD g2.toNat aH).dV)),(66,iV ((((l_.getD g2.toNat aH).dV).length:Nat):Int)),(67,iV g5)],[(0,some (.box [iV ((l_.getD g2.toNat aH).bG),ak ((l_.getD g2.toNat aH).dV),iV ((l_.getD g2.toNat aH).iZ),iV ((l_.getD g2.toNat aH).jk),.bool ((l_.getD g2.toNat aH).gY)]))],1⟩) [(0,some 32)] [] <|λ jP g5 hm=>si hm (λ _ hm=>sn hm λ _ hm=>sq hm j4 λ v18 hm=>s2 hm λ _ _ hm=>si hm (λ _ hm=>by cases hm;exact re) λ _ hm=>sn hm λ _ hm=>le hm) λ _ hm=>sn hm λ _ hm=>le hm) λ _ hm=>by cases hm;exact re
theorem sZ {s_:ByteArray} (hm:tH s_ r):S 190 [.str s_] [] (.bool r) [] :=sp Tryz.func190 rfl<|s2 hm λ _ _ hm=>si hm (λ _ hm=>by cases hm;exact re) λ _ hm=>l0 hm (λ g1=>⟨[(0,.str s_),(3,iV g1)],[],0⟩) <|λ ah g1 hm=>si hm (λ _ hm=>s2 hm λ _ _ hm=>s2 hm λ _ _ hm=>sn hm λ _ hm=>si hm (λ _ hm=>by cases hm;exact re) λ _ hm=>sn hm λ _ hm=>le hm) λ _ hm=>by cases hm;exact re
variable {p_:bL}
theorem SK {i_:Int} {r:Int} (hm:Df p_ i_ r):S 241 [nO p_,iV i_] [] (iV r) [] :=sp Tryz.func241 rfl<|sn hm λ _ hm=>sq hm sZ λ v1 hm=>si hm (λ _ hm=>by cases hm;exact re) λ _ hm=>lf hm (λ g1=>⟨[(1,iV i_),(2,.ptr 0 0 0),(5,.ptr 1 0 0),(6,iV g1)],[(0,some (.box [iV p_.dz,aX p_.aG])),(1,some (.box [.str ((p_.aG.getD i_.toNat aM).EF),ak ((p_.aG.getD i_.toNat aM).dz),iU ((p_.aG.getD i_.toNat aM).aI)]))],2⟩) [(1,some 56)] [] <|λ ah g1 hm=>si hm (λ _ hm=>sn hm λ _ hm=>si hm (λ _ hm=>by cases hm;exact re) λ _ hm=>sn hm λ _ hm=>le hm) λ _ hm=>si hm (λ _ hm=>by cases hm;exact re) λ _ hm=>si hm (λ _ hm=>by cases hm;exact re) λ _ hm=>l0 hm (λ g2=>⟨[(2,.ptr 0 0 0),(5,.ptr 1 0 0),(7,iV g2)],[(0,some (.box [iV p_.dz,aX p_.aG])),(1,some (.box [.str ((p_.aG.getD i_.toNat aM).EF),ak ((p_.aG.getD i_.toNat aM).dz),iU ((p_.aG.getD i_.toNat aM).aI)]))],2⟩) <|λ dR g2 hm=>si hm (λ _ hm=>s2 hm λ _ _ hm=>si hm (λ _ hm=>by cases hm;exact re) λ _ hm=>sn hm λ _ hm=>le hm) λ _ hm=>lf hm (λ g3=>⟨[(5,.ptr 0 0 0),(8,iV g3)],[(0,some (.box [.str ((p_.aG.getD i_.toNat aM).EF),ak ((p_.aG.getD i_.toNat aM).dz),iU ((p_.aG.getD i_.toNat aM).aI)]))],1⟩) [(0,some 1)] [] <|λ vk g3 hm=>si hm (λ _ hm=>s2 hm λ _ _ hm=>sn hm λ _ hm=>si hm (λ _ hm=>by cases hm;exact re) λ _ hm=>sn hm λ _ hm=>le hm) λ _ hm=>l0 hm (λ g4=>⟨[(5,.ptr 0 0 0),(9,iV g4)],[(0,some (.box [.str ((p_.aG.getD i_.toNat aM).EF),ak ((p_.aG.getD i_.toNat aM).dz),iU ((p_.aG.getD i_.toNat aM).aI)]))],1⟩) <|λ kE g4 hm=>si hm (λ _ hm=>sn hm λ _ hm=>sq hm sZ λ v4 hm=>si hm (λ _ hm=>by cases hm;exact re) λ _ hm=>sn hm λ _ hm=>le hm) λ _ hm=>l0 hm (λ g5=>⟨[(5,.ptr 0 0 0),(10,iV g5)],[(0,some (.box [.str ((p_.aG.getD i_.toNat aM).EF),ak ((p_.aG.getD i_.toNat aM).dz),iU ((p_.aG.getD i_.toNat aM).aI)]))],1⟩) <|λ jP g5 hm=>si hm (λ _ hm=>l0 hm (λ g8=>⟨[(5,.ptr 0 0 0),(10,iV g5),(11,iV g8)],[(0,some (.box [.str ((p_.aG.getD i_.toNat aM).EF),ak ((p_.aG.getD i_.toNat aM).dz),iU ((p_.aG.getD i_.toNat aM).aI)]))],1⟩) <|λ Iw g8 hm=>si hm (λ _ hm=>s2 hm λ _ _ hm=>si hm (λ _ hm=>by cases hm;exact re) λ _ hm=>sn hm λ _ hm=>le hm) λ _ hm=>sn hm λ _ hm=>le hm) λ _ hm=>by cases hm;exact re
theorem xC {r:Int} (hm:uy p_ r):S 188 [nO p_] [] (iV r) [] :=sp Tryz.func188 rfl<|si hm (λ _ hm=>by cases hm;exact re) λ _ hm=>si hm (λ _ hm=>by cases hm;exact re) λ _ hm=>l0 hm (λ g1=>⟨[(1,.ptr 0 0 0),(3,iV g1)],[(0,some (.box [iV p_.dz,aX p_.aG]))],1⟩) <|λ ah g1 hm=>si hm (λ _ hm=>sq hm SK λ v3 hm=>si hm (λ _ hm=>by cases hm;exact re) λ _ hm=>sn hm λ _ hm=>le hm) λ _ hm=>by cases hm;exact re
theorem xD {l_:List eu} {r:Int} (hm:uz l_ r):S 189 [bV l_] [] (iV r) [] :=sp Tryz.func189 rfl<|si hm (λ _ hm=>by cases hm;exact re) λ _ hm=>l0 hm (λ g1=>⟨[(0,bV l_),(3,iV g1)],[],0⟩) <|λ ah g1 hm=>si hm (λ _ hm=>l0 hm (λ g6=>⟨[(0,bV l_),(3,iV g1),(4,iV g6)],[],0⟩) <|λ jE g6 hm=>sn hm λ _ hm=>si hm (λ _ hm=>s2 hm λ _ _ hm=>s2 hm λ _ _ hm=>si hm (λ _ hm=>by cases hm;exact re) λ _ hm=>sn hm λ _ hm=>le hm) λ _ hm=>l0 hm (λ g7=>⟨[(0,bV l_),(3,iV g1),(5,iV g7)],[],0⟩) <|λ ou g7 hm=>sn hm λ _ hm=>si hm (λ _ hm=>s2 hm λ _ _ hm=>s2 hm λ _ _ hm=>sn hm λ _ hm=>si hm (λ _ hm=>by cases hm;exact re) λ _ hm=>sn hm λ _ hm=>le hm) λ _ hm=>sn hm λ _ hm=>le hm) λ _ hm=>by cases hm;exact re
theorem qM {l_:List dG} {r:Int} (hm:qb l_ r):S 136 [bI l_] [] (iV r) [] :=sp Tryz.func136 rfl<|si hm (λ _ hm=>by cases hm;exact re) λ _ hm=>l0 hm (λ g1=>⟨[(0,bI l_),(3,iV g1)],[],0⟩) <|λ ah g1 hm=>si hm (λ _ hm=>s2 hm λ _ _ hm=>si hm (λ _ hm=>by cases hm;exact re) λ _ hm=>sn hm λ _ hm=>le hm) λ _ hm=>by cases hm;exact re
theorem SL {r:Int} (hm:Dg b_ r):S 111 [iM b_] [] (iV r) [] :=sp Tryz.func111 rfl<|sq hm mZ λ v1 hm=>si hm (λ _ hm=>by cases hm;exact re) λ _ hm=>sq hm ng λ v2 hm=>si hm (λ _ hm=>by cases hm;exact re) λ _ hm=>sq hm xC λ v3 hm=>si hm (λ _ hm=>by cases hm;exact re) λ _ hm=>sq hm xD λ v4 hm=>si hm (λ _ hm=>by cases hm;exact re) λ _ hm=>sq hm qM λ v5 hm=>by cases hm;exact re
theorem U8 {x_:aO} {r:Int} (hm:GR b_ l_ x_ r):S 112 [iM b_,dB l_,zw x_] [] (iV r) [] :=sp Tryz.func112 rfl<|si hm (λ _ hm=>by cases hm;exact re) λ _ hm=>lf hm (λ g1=>⟨[(1,dB l_),(3,.ptr 0 0 0),(5,.ptr 1 0 0),(35,dK x_.eF),(36,iV (x_.eF.length:Int)),(37,iV g1)],[(0,some (.box [aU b_.bT,aT b_.bD,iV b_.aQ.dz,aX b_.aQ.aG,bV b_.bf,bI b_.bO])),(1,some (.box [dK x_.eF,fF x_.gJ,iU x_.aI,ak x_.bf,iV x_.gB,ak x_.dx]))],2⟩) [(1,some 8)] [] <|λ ah g1 hm=>si hm (λ _ hm=>sn hm λ _ hm=>si hm (λ _ hm=>by cases hm;exact re) λ _ hm=>sn hm λ _ hm=>le hm) λ _ hm=>l0 hm (λ g2=>⟨[(1,dB l_),(3,.ptr 0 0 0),(5,.ptr 1 0 0),(71,fF x_.gJ),(72,iV (x_.gJ.length:Int)),(73,iV g2)],[(0,some (.box [aU b_.bT,aT b_.bD,iV b_.aQ.dz,aX b_.aQ.aG,bV b_.bf,bI b_.bO])),(1,some (.box [dK x_.eF,fF x_.gJ,iU x_.aI,ak x_.bf,iV x_.gB,ak x_.dx]))],2⟩) <|λ dR g2 hm=>si hm (λ _ hm=>sn hm λ _ hm=>si hm (λ _ hm=>by cases hm;exact re) λ _ hm=>sn hm λ _ hm=>le hm) λ _ hm=>l0 hm (λ g3=>⟨[(1,dB l_),(3,.ptr 0 0 0),(5,.ptr 1 0 0),(117,iU x_.aI),(118,iV (x_.aI.length:Int)),(119,iV g3)],[(0,some (.box [aU b_.bT,aT b_.bD,iV b_.aQ.dz,aX b_.aQ.aG,bV b_.bf,bI b_.bO])),(1,some (.box [dK x_.eF,fF x_.gJ,iU x_.aI,ak x_.bf,iV x_.gB,ak x_.dx]))],2⟩) <|λ vk g3 hm=>si hm (λ _ hm=>sn hm λ _ hm=>sq hm sZ λ v3 hm=>si hm (λ _ hm=>by cases hm;exact re) λ _ hm=>sn hm λ _ hm=>le hm) λ _ hm=>l0 hm (λ g4=>⟨[(1,dB l_),(3,.ptr 0 0 0),(5,.ptr 1 0 0),(128,ak x_.bf),(129,iV (x_.bf.length:Int)),(130,iV g4)],[(0,some (.box [aU b_.bT,aT b_.bD,iV b_.aQ.dz,aX b_.aQ.aG,bV b_.bf,bI b_.bO])),(1,some (.box [dK x_.eF,fF x_.gJ,iU x_.aI,ak x_.bf,iV x_.gB,ak x_.dx]))],2⟩) <|λ kE g4 hm=>si hm (λ _ hm=>sn hm λ _ hm=>si hm (λ _ hm=>by cases hm;exact re) λ _ hm=>sn hm λ _ hm=>le hm) λ _ hm=>si hm (λ _ hm=>by cases hm;exact re) λ _ hm=>lf hm (λ g5=>⟨[(1,dB l_),(5,.ptr 0 0 0),(156,ak x_.dx),(157,iV (x_.dx.length:Int)),(158,iV g5)],[(0,some (.box [dK x_.eF,fF x_.gJ,iU x_.aI,ak x_.bf,iV x_.gB,ak x_.dx]))],1⟩) [(0,some 1)] [] <|λ jP g5 hm=>si hm (λ _ hm=>sn hm λ _ hm=>si hm (λ _ hm=>by cases hm;exact re) λ _ hm=>sn hm λ _ hm=>le hm) λ _ hm=>l0 hm (λ g6=>⟨[(5,.ptr 0 0 0),(17,iV g6)],[(0,some (.box [dK x_.eF,fF x_.gJ,iU x_.aI,ak x_.bf,iV x_.gB,ak x_.dx]))],1⟩) <|λ jE g6 hm=>si hm (λ _ hm=>s2 hm λ _ _ hm=>sn hm λ _ hm=>si hm (λ _ hm=>by cases hm;exact re) λ _ hm=>sn hm λ _ hm=>le hm) λ _ hm=>by cases hm;exact re
theorem oO {r:Int} (hm:qc b_ l_ r):S 47 [iM b_,dB l_] [] (iV r) [] :=sp Tryz.func47 rfl<|sq hm SL λ v1 hm=>si hm (λ _ hm=>by cases hm;exact re) λ _ hm=>si hm (λ _ hm=>by cases hm;exact re) λ _ hm=>l0 hm (λ g1=>⟨[(1,dB l_),(2,.ptr 0 0 0),(6,iV g1)],[(0,some (.box [aU b_.bT,aT b_.bD,iV b_.aQ.dz,aX b_.aQ.aG,bV b_.bf,bI b_.bO]))],1⟩) <|λ ah g1 hm=>si hm (λ _ hm=>sn hm λ _ hm=>sq hm U8 λ v4 hm=>si hm (λ _ hm=>by cases hm;exact re) λ _ hm=>sn hm λ _ hm=>le hm) λ _ hm=>by cases hm;exact re
theorem lC (hm:kU l_ aj r):S 48 [dB l_,ak aj] [] (.bool r) [] :=sp Tryz.func48 rfl<|l0 hm (λ g1=>⟨[(0,dB l_),(1,ak aj),(5,iV g1)],[],0⟩) <|λ ah g1 hm=>si hm (λ _ hm=>s2 hm λ _ _ hm=>si hm (λ _ hm=>by cases hm;exact re) λ _ hm=>l0 hm (λ g4=>⟨[(0,dB l_),(1,ak aj),(5,iV g1),(6,iV g4)],[],0⟩) <|λ kE g4 hm=>si hm (λ _ hm=>s2 hm λ _ _ hm=>si hm (λ _ hm=>by cases hm;exact re) λ _ hm=>sn hm λ _ hm=>le hm) λ _ hm=>sn hm λ _ hm=>le hm) λ _ hm=>by cases hm;exact re
theorem DT {r:List bg} (hm:GU l_ aj r):S 61 [dB l_,ak aj] [] (dK r) [] :=sp Tryz.func61 rfl<|lf hm (λ g1=>⟨[(0,dB l_),(5,.dF 0 0 g1.2.length false),(8,ak aj),(9,iV (aj.length:Int)),(10,iV g1.1)],[(0,some (.row 3 g1.2.length (bA A9 dU g1.2)))],1⟩) [(0,none)] [] <|λ ah g1 hm=>si hm (λ _ hm=>sn hm λ _ hm=>si hm (λ _ hm=>s2 hm λ _ _ hm=>sn hm λ _ hm=>lc [(0,some 145)] [] hm) λ _ hm=>sn hm λ _ hm=>le hm) λ _ hm=>by cases hm;exact rt [0] []
theorem F9 {r:List bU} (hm:KS l_ aj r):S 59 [dB l_,ak aj] [] (fF r) [] :=sp Tryz.func59 rfl<|lf hm (λ g1=>⟨[(0,dB l_),(5,.dF 0 0 g1.2.length false),(8,ak aj),(9,iV (aj.length:Int)),(10,iV g1.1)],[(0,some (.row 4 g1.2.length (bA Ka eP g1.2)))],1⟩) [(0,none)] [] <|λ ah g1 hm=>si hm (λ _ hm=>sn hm λ _ hm=>si hm (λ _ hm=>s2 hm λ _ _ hm=>sn hm λ _ hm=>lc [(0,some 145)] [] hm) λ _ hm=>sn hm λ _ hm=>le hm) λ _ hm=>by cases hm;exact rt [0] []
theorem yR {r:Int} (hm:oJ l_ aj r):S 140 [dB l_,ak aj] [] (iV r) [] :=sp Tryz.func140 rfl<|l0 hm (λ g1=>⟨[(0,dB l_),(5,iV g1.1),(8,ak aj),(9,iV (aj.length:Int)),(10,iV g1.2)],[],0⟩) <|λ ah g1 hm=>si hm (λ _ hm=>sn hm λ _ hm=>si hm (λ _ hm=>s2 hm λ _ _ hm=>sn hm λ _ hm=>le hm) λ _ hm=>sn hm λ _ hm=>le hm) λ _ hm=>by cases hm;exact re
variable {m_:List bg}
theorem vX {l_:List ay} (hm:qJ l_ m_ r):S 192 [aU l_,dK m_] [] (.bool r) [] :=sp Tryz.func192 rfl<|sq hm mZ λ v1 hm=>si hm (λ _ hm=>by cases hm;exact re) λ _ hm=>l0 hm (λ g1=>⟨[(0,aU l_),(15,dK m_),(16,iV (m_.length:Int)),(17,iV g1)],[],0⟩) <|λ ah g1 hm=>si hm (λ _ hm=>sn hm λ _ hm=>si hm (λ _ hm=>by cases hm;exact re) λ _ hm=>sn hm λ _ hm=>le hm) λ _ hm=>by cases hm;exact re
theorem SN {l_:List ay} {r:Int} (hm:Dh l_ m_ r):S 202 [aU l_,dK m_] [] (iV r) [] :=sp Tryz.func202 rfl<|sq hm mZ λ v1 hm=>si hm (λ _ hm=>by cases hm;exact re) λ _ hm=>sq hm vX λ v2 hm=>si hm (λ _ hm=>by cases hm;exact re) λ _ hm=>by cases hm;exact re
theorem Ra {c_:ay} {sS:Int} {r:Int} (hm:Aa c_ sS r):S 242 [RU c_,iV sS] [] (iV r) [] :=sp Tryz.func242 rfl<|si hm (λ _ hm=>by cases hm;exact re) λ _ hm=>si hm (λ _ hm=>s2 hm λ _ _ hm=>by cases hm;exact re) λ _ hm=>sn hm λ _ hm=>by cases hm;exact re
theorem tX {a_:Int} {b_:Int} {r:Int} (hm:oU a_ b_ r):S 266 [iV a_,iV b_] [] (iV r) [] :=sp Tryz.func266 rfl<|l0 hm (λ g1=>⟨[(0,iV g1.1),(1,iV g1.2)],[],0⟩) <|λ ah g1 hm=>si hm (λ _ hm=>sn hm λ _ hm=>le hm) λ _ hm=>by cases hm;exact re
variable {r_:dL}
theorem qN (hm:qg r_ r):S 245 [Ii r_] [] (.bool r) [] :=sp Tryz.func245 rfl<|sb hm λ v1 hv1 hm=>cl (λ q0=>(tX (hv1 q0)))<|by cases hm;exact re
theorem DU (hm:vG k_ r):S 264 [iV k_] [] (.bool r) [] :=sp Tryz.func264 rfl<|by cases hm;exact re
theorem Md {Qd:Int} {Qe:Int} {r:dL×Int} (hm:Fp Qd Qe r):S 265 [iV Qd,iV Qe] [] (.jM [Ii r.1,iV r.2]) [] :=sp Tryz.func265 rfl<|si hm (λ _ hm=>by cases hm;exact re) λ _ hm=>sq hm tX λ v1 hm=>s2 hm λ _ _ hm=>sq hm qN λ v2 hm=>si hm (λ _ hm=>by cases hm;exact re) λ _ hm=>by cases hm;exact re
theorem U9 {r:dL×Int} (hm:GV r_ k_ r):S 243 [Ii r_,iV k_] [] (.jM [Ii r.1,iV r.2]) [] :=sp Tryz.func243 rfl<|sq hm qN λ v1 hm=>si hm (λ _ hm=>by cases hm;exact re) λ _ hm=>sq hm DU λ v2 hm=>si hm (λ _ hm=>by cases hm;exact re) λ _ hm=>sn hm λ _ hm=>sq hm Md λ v3 hm=>by cases hm;exact re
theorem SQ {r:dL×Int} (hm:Di r_ k_ r):S 244 [Ii r_,iV k_] [] (.jM [Ii r.1,iV r.2]) [] :=sp Tryz.func244 rfl<|sq hm qN λ v1 hm=>si hm (λ _ hm=>by cases hm;exact re) λ _ hm=>sq hm DU λ v2 hm=>si hm (λ _ hm=>by cases hm;exact re) λ _ hm=>sq hm tX λ v3 hm=>s2 hm λ _ _ hm=>si hm (λ _ hm=>by cases hm;exact re) λ _ hm=>s2 hm λ _ _ hm=>sn hm λ _ hm=>sq hm Md λ v4 hm=>by cases hm;exact re
variable {s_:List Int}
theorem vY {l_:List ay} {r:List dL×List Bool} (hm:qK l_ s_ r):S 193 [aU l_,ak s_] [] (.jM [o8 r.1,av r.2]) [] :=ZQ [10,21] Tryz.func193 rfl<|U5 [10,21] hm (λ g1=>⟨[(1,ak s_),(6,.dF 0 0 g1.2.1.length false),(7,.dF 1 0 g1.2.2.length false),(14,aU l_),(15,iV (l_.length:Int)),(16,iV g1.1)],[(0,some (.row 2 g1.2.1.length (bA Ii gW g1.2.1))),(1,some (.row 1 g1.2.2.length (bA AV.bool false g1.2.2)))],2⟩) [(0,none),(1,none)] [] <|λ ah g1 hm=>si hm (λ _ hm=>sn hm λ _ hm=>ck [10,21] (mJ l_ s_ g1 ah) r (λ g6=>⟨[(1,ak s_),(6,.dF 0 0 g1.2.1.length false),(7,.dF 1 0 g1.2.2.length false),(8,iV g1.1),(9,.ptr 2 0 0),(10,.ptr 3 0 0),(11,.bool g6.1),(14,aU l_),(15,iV (l_.length:Int)),(16,iV g1.1)],[(0,some (.row 2 g1.2.1.length (bA Ii gW g1.2.1))),(1,some (.row 1 g1.2.2.length (bA AV.bool false g1.2.2))),(2,some (.box [iV ((l_.getD g1.1.toNat aV).eT),ak ((l_.getD g1.1.toNat aV).bJ),ak ((l_.getD g1.1.toNat aV).aR),iV ((l_.getD g1.1.toNat aV).Low),iV ((l_.getD g1.1.toNat aV).gF)])),(3,some (.box [iV g6.2.1,iV g6.2.2]))],4⟩) (sn hm λ _ hm=>sq hm Ra λ v18 hm=>si hm (λ _ hm=>s2 hm λ _ _ hm=>lc [(2,some 34),(3,some 66)] [] hm) λ _ hm=>lc [(2,some 34),(3,some 66)] [] hm) λ g6 hm=>s2 hm λ _ _ hm=>ck [10,21] (je g1 ah) r (λ g7=>⟨[(1,ak s_),(6,.dF 0 0 g1.2.1.length false),(7,.dF 1 0 g1.2.2.length false),(10,.ptr 2 0 0),(11,.bool g7.1),(14,aU l_),(15,iV (l_.length:Int)),(16,iV g1.1)],[(0,some (.row 2 g1.2.1.length (bA Ii gW g1.2.1))),(1,some (.row 1 g1.2.2.length (bA AV.bool false g1.2.2))),(2,some (.box [iV g7.2.1,iV g7.2.2]))],3⟩) (si hm (λ _ hm=>lc [(2,some 3)] [] hm) λ _ hm=>si hm (λ _ hm=>sq hm U9 λ v16 hm=>lc [(2,some 3)] [] hm) λ _ hm=>si hm (λ _ hm=>sq hm SQ λ v17 hm=>lc [(2,some 3)] [] hm) λ _ hm=>si hm (λ _ hm=>si hm (λ _ hm=>lc [(2,some 3)] [] hm) λ _ hm=>lc [(2,some 3)] [] hm) λ _ hm=>lc [(2,some 3)] [] hm) λ g7 hm=>s2 hm λ _ _ hm=>sn hm λ _ hm=>lc [(0,some 27),(1,some 59)] [] hm) λ _ hm=>by cases hm;exact rt [0,1] []
theorem pO {MR:Int} {wD:Int} (hm:nS r_ MR wD r):S 194 [Ii r_,iV MR,iV wD] [] (.bool r) [] :=sp Tryz.func194 rfl<|sq hm qN λ v1 hm=>si hm (λ _ hm=>by cases hm;exact re) λ _ hm=>s2 hm λ _ _ hm=>by cases hm;exact re
theorem Cn {l_:List ay} {r_:List dL} {xM:List Bool} (hm:AP l_ r_ xM r):S 195 [aU l_,o8 r_,av xM] [] (.bool r) [] :=sp Tryz.func195 rfl<|l0 hm (λ g1=>⟨[(1,o8 r_),(2,av xM),(9,aU l_),(10,iV (l_.length:Int)),(11,iV g1)],[],0⟩) <|λ ah g1 hm=>si hm (λ _ hm=>s2 hm λ _ _ hm=>sn hm λ _ hm=>sb hm λ v3 hv3 hm=>cl (λ q0=>(pO (hv3 q0)))<|si hm (λ _ hm=>by cases hm;exact re) λ _ hm=>sn hm λ _ hm=>le hm) λ _ hm=>by cases hm;exact re
theorem Va {l_:List ay} (hm:GX l_ s_ m_ r):S 247 [aU l_,ak s_,dK m_] [] (.bool r) [] :=sp Tryz.func247 rfl<|sq hm vY λ v1 hm=>l0 hm (λ g1=>⟨[(0,aU l_),(7,o8 v1.1),(8,av v1.2),(17,dK m_),(18,iV (m_.length:Int)),(19,iV g1)],[],0⟩) <|λ ah g1 hm=>si hm (λ _ hm=>s2 hm λ _ _ hm=>sn hm λ _ hm=>sb hm λ v4 hv4 hm=>cl (λ q0=>(pO (hv4 q0)))<|si hm (λ _ hm=>by cases hm;exact re) λ _ hm=>sn hm λ _ hm=>le hm) λ _ hm=>sq hm Cn λ v5 hm=>by cases hm;exact re
theorem Vb {l_:List ay} {r:List Int×Bool} (hm:GY l_ s_ r):S 248 [aU l_,ak s_] [] (.jM [ak r.1,.bool r.2]) [] :=ZQ [6] Tryz.func248 rfl<|s2 hm λ _ _ hm=>U5 [6] hm (λ g1=>⟨[(0,aU l_),(6,.dF 0 0 g1.2.length false),(7,iV g1.1)],[(0,some (.row 1 g1.2.length (bA iV 0 g1.2)))],1⟩) [(0,some 32)] [] <|λ ah g1 hm=>si hm (λ _ hm=>ck [6] (Eo l_ g1 ah) r (λ g4=>⟨[(0,aU l_),(6,.dF 0 0 g4.length false),(7,iV g1.1)],[(0,some (.row 1 g4.length (bA iV 0 g4)))],1⟩) (s2 hm λ _ _ hm=>sn hm λ _ hm=>le hm) λ g4 hm=>s2 hm λ _ _ hm=>si hm (λ _ hm=>by cases hm;exact rt [0] []) λ _ hm=>s2 hm λ _ _ hm=>le hm) λ _ hm=>by cases hm;exact re
theorem XY {l_:List ay} {r:(List (List Int))} (hm:MG l_ m_ r):S 203 [aU l_,dK m_] [] (anW r) [] :=ZQ [4,6] Tryz.func203 rfl<|sn hm λ _ hm=>U5 [4,6] hm (λ g1=>⟨[(0,aU l_),(1,dK m_),(5,.dF 0 0 g1.2.2.length false),(6,ak g1.1),(7,.bool g1.2.1)],[(0,some (.row 1 g1.2.2.length (bA ak [] g1.2.2)))],1⟩) [(0,none)] [32] <|λ ah g1 hm=>ck [4,6] (GZ l_ m_ g1 ah) r (λ g6=>⟨[(0,aU l_),(1,dK m_),(5,.dF 0 0 g1.2.2.length false),(6,ak g1.1)],[(0,some (.row 1 g1.2.2.length (bA ak [] g1.2.2)))],1⟩) (si hm (λ _ hm=>le hm) λ _ hm=>by cases hm;exact rt [0] []) λ g6 hm=>ck [4,6] (vH l_ g1 ah) r (λ g7=>⟨[(0,aU l_),(1,dK m_),(5,.dF 0 0 g7.length false),(6,ak g1.1)],[(0,some (.row 1 g7.length (bA ak [] g7)))],1⟩) (sq hm Va λ v9 hm=>si hm (λ _ hm=>sn hm λ _ hm=>lc [(0,some 57)] [] hm) λ _ hm=>le hm) λ g7 hm=>sq hm Vb λ v8 hm=>le hm
theorem Ga {l_:List ay} {r:List Int×Int} (hm:yF l_ m_ r):S 141 [aU l_,dK m_] [] (.jM [ak r.1,iV r.2]) [] :=sp Tryz.func141 rfl<|sq hm SN λ v1 hm=>si hm (λ _ hm=>by cases hm;exact re) λ _ hm=>sq hm XY λ v2 hm=>si hm (λ _ hm=>by cases hm;exact re) λ _ hm=>sn hm λ _ hm=>by cases hm;exact re
variable {d_:List bU}
theorem xE {l_:List aC} (hm:uD l_ d_ r):S 128 [aT l_,fF d_] [] (.bool r) [] :=sp Tryz.func128 rfl<|sq hm ng λ v1 hm=>si hm (λ _ hm=>by cases hm;exact re) λ _ hm=>l0 hm (λ g1=>⟨[(0,aT l_),(15,fF d_),(16,iV (d_.length:Int)),(17,iV g1)],[],0⟩) <|λ ah g1 hm=>si hm (λ _ hm=>s2 hm λ _ _ hm=>sq hm j4 λ v8 hm=>sb hm λ v9 QB hm=>cl (λ q0=>(j4 (QB q0)))<|sb hm λ v10 Ar hm=>cl (λ q0=>(j4 (Ar q0)))<|si hm (λ _ hm=>by cases hm;exact re) λ _ hm=>sn hm λ _ hm=>le hm) λ _ hm=>by cases hm;exact re
theorem SS {l_:List aC} {r:Int} (hm:Dj l_ d_ r):S 204 [aT l_,fF d_] [] (iV r) [] :=sp Tryz.func204 rfl<|sq hm ng λ v1 hm=>si hm (λ _ hm=>by cases hm;exact re) λ _ hm=>sq hm xE λ v2 hm=>si hm (λ _ hm=>by cases hm;exact re) λ _ hm=>by cases hm;exact re
theorem Jw {l_:List aC} {r:List Bool} (hm:Bq l_ d_ r):S 205 [aT l_,fF d_] [] (av r) [] :=sp Tryz.func205 rfl<|s2 hm λ _ _ hm=>lf hm (λ g1=>⟨[(0,aT l_),(1,fF d_),(5,.dF 0 0 g1.2.length false),(6,iV g1.1)],[(0,some (.row 1 g1.2.length (bA AV.bool false g1.2)))],1⟩) [(0,some 24)] [] <|λ ah g1 hm=>si hm (λ _ hm=>s2 hm λ _ _ hm=>sn hm λ _ hm=>l0 hm (λ g4=>⟨[(0,aT l_),(1,fF d_),(5,.dF 0 0 g4.2.length false),(6,iV g1.1),(34,fF d_),(35,iV (d_.length:Int)),(36,iV g4.1)],[(0,some (.row 1 g4.2.length (bA AV.bool false g4.2)))],1⟩) <|λ kE g4 hm=>si hm (λ _ hm=>s2 hm λ _ _ hm=>s2 hm λ _ _ hm=>le hm) λ _ hm=>s2 hm λ _ _ hm=>si hm (λ _ hm=>s2 hm λ _ _ hm=>le hm) λ _ hm=>sn hm λ _ hm=>le hm) λ _ hm=>by cases hm;exact rt [0] []
theorem SV {s_:aC} {v_:Int} {r:Int} (hm:Dk s_ v_ r):S 206 [MC s_,iV v_] [] (iV r) [] :=sp Tryz.func206 rfl<|l0 hm (λ g1=>⟨[(1,iV v_),(8,ak s_.dV),(9,iV (s_.dV.length:Int)),(10,iV g1)],[],0⟩) <|λ ah g1 hm=>si hm (λ _ hm=>sn hm λ _ hm=>si hm (λ _ hm=>by cases hm;exact re) λ _ hm=>sn hm λ _ hm=>le hm) λ _ hm=>by cases hm;exact re
theorem qO {l_:List aC} {r_:aW} {r:Int} (hm:qh l_ r_ k_ r):S 207 [aT l_,kH r_,iV k_] [] (iV r) [] :=sp Tryz.func207 rfl<|s2 hm λ _ _ hm=>sn hm λ _ hm=>by cases hm;exact re
theorem SX {l_:List aC} {r:List Int} (hm:Dl l_ d_ r):S 246 [aT l_,fF d_] [] (ak r) [] :=sp Tryz.func246 rfl<|s2 hm λ _ _ hm=>lf hm (λ g1=>⟨[(0,aT l_),(1,fF d_),(5,.dF 0 0 g1.2.length false),(6,iV g1.1)],[(0,some (.row 1 g1.2.length (bA iV 0 g1.2)))],1⟩) [(0,some 24)] [] <|λ ah g1 hm=>si hm (λ _ hm=>l0 hm (λ g4=>⟨[(0,aT l_),(1,fF d_),(5,.dF 0 0 g4.2.length false),(6,iV g1.1),(20,fF d_),(21,iV (d_.length:Int)),(22,iV g4.1)],[(0,some (.row 1 g4.2.length (bA iV 0 g4.2)))],1⟩) <|λ kE g4 hm=>si hm (λ _ hm=>sn hm λ _ hm=>si hm (λ _ hm=>s2 hm λ _ _ hm=>s2 hm λ _ _ hm=>le hm) λ _ hm=>sn hm λ _ hm=>le hm) λ _ hm=>sn hm λ _ hm=>si hm (λ _ hm=>s2 hm λ _ _ hm=>s2 hm λ _ _ hm=>sn hm λ _ hm=>le hm) λ _ hm=>sn hm λ _ hm=>le hm) λ _ hm=>by cases hm;exact rt [0] []
theorem Gb {l_:List aC} {r_:aW} (hm:yG l_ r_ d_ r):S 196 [aT l_,kH r_,fF d_] [] (.bool r) [] :=sp Tryz.func196 rfl<|sq hm Jw λ v1 hm=>sq hm SX λ v2 hm=>l0 hm (λ g1=>⟨[(0,aT l_),(2,fF d_),(4,.ptr 0 0 0),(7,av v1),(8,ak v2),(19,aT l_),(20,iV (l_.length:Int)),(21,iV g1)],[(0,some (.box [av r_.On,ak r_.bC]))],1⟩) <|λ ah g1 hm=>si hm (λ _ hm=>s2 hm λ _ _ hm=>sn hm λ _ hm=>si hm (λ _ hm=>by cases hm;exact re) λ _ hm=>sn hm λ _ hm=>si hm (λ _ hm=>sn hm λ _ hm=>le hm) λ _ hm=>s2 hm λ _ _ hm=>sb hm λ v7 hv7 hm=>cl (λ q0 q1 q2=>(qO (hv7 q0 q1 q2)))<|sb hm λ v8 vZ hm=>cl (λ q0 q1 q2=>(qO (vZ q0 q1 q2)))<|sn hm λ _ hm=>si hm (λ _ hm=>by cases hm;exact re) λ _ hm=>sn hm λ _ hm=>le hm) λ _ hm=>l0 hm (λ g2=>⟨[(0,aT l_),(4,.ptr 0 0 0),(81,fF d_),(82,iV (d_.length:Int)),(83,iV g2)],[(0,some (.box [av r_.On,ak r_.bC]))],1⟩) <|λ dR g2 hm=>si hm (λ _ hm=>sn hm λ _ hm=>sq hm qO λ v13 hm=>sq hm j4 λ v14 hm=>si hm (λ _ hm=>by cases hm;exact re) λ _ hm=>sn hm λ _ hm=>le hm) λ _ hm=>by cases hm;exact re
theorem Gc {l_:List aC} {r:aW×Int} (hm:yH l_ d_ r):S 142 [aT l_,fF d_] [] (.jM [kH r.1,iV r.2]) [] :=ZQ [17] Tryz.func142 rfl<|sq hm SS λ v1 hm=>si hm (λ _ hm=>by cases hm;exact re) λ _ hm=>sq hm Jw λ v2 hm=>s2 hm λ _ _ hm=>U5 [17] hm (λ g1=>⟨[(0,aT l_),(1,fF d_),(4,.ptr 0 0 0),(7,av v2),(8,.ptr 1 0 0),(9,.dF 2 0 g1.2.1.length false),(32,fF d_),(33,iV (d_.length:Int)),(34,iV g1.1)],[(0,some (.box [.sl 0 0 true cK,.sl 0 0 true cK])),(1,some (.box [av v2,.dF 3 0 g1.2.2.length false])),(2,some (.row 1 g1.2.1.length (bA iV 0 g1.2.1))),(3,some (.row 1 g1.2.2.length (bA iV 0 g1.2.2)))],4⟩) [(1,some 136),(2,some 168),(3,some 120)] [] <|λ ah g1 hm=>si hm (λ _ hm=>s2 hm λ _ _ hm=>s2 hm λ _ _ hm=>le hm) λ _ hm=>sn hm λ _ hm=>U5 [17] hm (λ g2=>⟨[(0,aT l_),(1,fF d_),(4,.ptr 0 0 0),(7,av v2),(8,.ptr 1 0 0),(9,.dF 2 0 g2.2.1.length false),(12,iV g2.1)],[(0,some (.box [.sl 0 0 true cK,.sl 0 0 true cK])),(1,some (.box [av v2,.dF 3 0 g2.2.2.length false])),(2,some (.row 1 g2.2.1.length (bA iV 0 g2.2.1))),(3,some (.row 1 g2.2.2.length (bA iV 0 g2.2.2)))],4⟩) [] [] <|λ dR g2 hm=>si hm (λ _ hm=>sn hm λ _ hm=>si hm (λ _ hm=>sn hm λ _ hm=>le hm) λ _ hm=>ck [17] (zh l_ v2 g2 dR) r (λ g5=>⟨[(0,aT l_),(1,fF d_),(4,.ptr 0 0 0),(7,av v2),(8,.ptr 1 0 0),(9,.dF 2 0 g2.2.1.length false),(12,iV g2.1)],[(0,some (.box [.sl 0 0 true cK,.sl 0 0 true cK])),(1,some (.box [av v2,.dF 3 0 g5.length false])),(2,some (.row 1 g2.2.1.length (bA iV 0 g2.2.1))),(3,some (.row 1 g5.length (bA iV 0 g5)))],4⟩) (s2 hm λ _ _ hm=>sq hm SV λ v11 hm=>sn hm λ _ hm=>le hm) λ g5 hm=>sn hm λ _ hm=>si hm (λ _ hm=>by cases hm;exact re) λ _ hm=>sn hm λ _ hm=>si hm (λ _ hm=>sn hm λ _ hm=>sq hm qO λ v10 hm=>s2 hm λ _ _ hm=>s2 hm λ _ _ hm=>le hm) λ _ hm=>sn hm λ _ hm=>le hm) λ _ hm=>sq hm Gb λ v12 hm=>si hm (λ _ hm=>by cases hm;exact re) λ _ hm=>by cases hm;exact rt [3] []
theorem DV {l_:List eu} {jy:List Int} {r:List Bool×Int} (hm:vI l_ jy r):S 143 [bV l_,ak jy] [] (.jM [av r.1,iV r.2]) [] :=sp Tryz.func143 rfl<|sq hm xD λ v1 hm=>si hm (λ _ hm=>by cases hm;exact re) λ _ hm=>sn hm λ _ hm=>lf hm (λ g1=>⟨[(0,bV l_),(1,ak jy),(6,.dF 0 0 g1.2.length false),(7,iV g1.1)],[(0,some (.row 1 g1.2.length (bA AV.bool false g1.2)))],1⟩) [(0,some 56)] [] <|λ ah g1 hm=>si hm (λ _ hm=>s2 hm λ _ _ hm=>si hm (λ _ hm=>by cases hm;exact re) λ _ hm=>s2 hm λ _ _ hm=>sn hm λ _ hm=>le hm) λ _ hm=>sn hm λ _ hm=>l0 hm (λ g2=>⟨[(0,bV l_),(6,.dF 0 0 g2.2.length false),(8,iV g2.1)],[(0,some (.row 1 g2.2.length (bA AV.bool false g2.2)))],1⟩) <|λ dR g2 hm=>si hm (λ _ hm=>l0 hm (λ g5=>⟨[(0,bV l_),(6,.dF 0 0 g5.2.length false),(8,iV g2.1),(9,iV g5.1)],[(0,some (.row 1 g5.2.length (bA AV.bool false g5.2)))],1⟩) <|λ jP g5 hm=>s2 hm λ _ _ hm=>si hm (λ _ hm=>s2 hm λ _ _ hm=>s2 hm λ _ _ hm=>le hm) λ _ hm=>sn hm λ _ hm=>le hm) λ _ hm=>by cases hm;exact rt [0] []
theorem XZ {l_:List dG} {gX:List Int} {r:Int} (hm:MH l_ gX r):S 208 [bI l_,ak gX] [] (iV r) [] :=sp Tryz.func208 rfl<|sq hm qM λ v1 hm=>si hm (λ _ hm=>by cases hm;exact re) λ _ hm=>l0 hm (λ g1=>⟨[(0,bI l_),(1,ak gX),(5,iV g1)],[],0⟩) <|λ ah g1 hm=>si hm (λ _ hm=>s2 hm λ _ _ hm=>si hm (λ _ hm=>by cases hm;exact re) λ _ hm=>sn hm λ _ hm=>le hm) λ _ hm=>by cases hm;exact re
theorem Ol {l_:List dG} {gX:List Int} {r:List Bool×Int} (hm:KZ l_ gX r):S 144 [bI l_,ak gX] [] (.jM [av r.1,iV r.2]) [] :=ZQ [13] Tryz.func144 rfl<|sq hm XZ λ v1 hm=>si hm (λ _ hm=>by cases hm;exact re) λ _ hm=>sn hm λ _ hm=>U5 [13] hm (λ g1=>⟨[(0,bI l_),(1,ak gX),(7,.dF 0 0 g1.2.length false),(8,iV g1.1)],[(0,some (.row 1 g1.2.length (bA AV.bool false g1.2)))],1⟩) [(0,some 80)] [] <|λ ah g1 hm=>si hm (λ _ hm=>s2 hm λ _ _ hm=>sn hm λ _ hm=>le hm) λ _ hm=>sn hm λ _ hm=>U5 [13] hm (λ g2=>⟨[(0,bI l_),(7,.dF 0 0 g2.2.length false),(9,iV g2.1)],[(0,some (.row 1 g2.2.length (bA AV.bool false g2.2)))],1⟩) [] [] <|λ dR g2 hm=>si hm (λ _ hm=>ck [13] (G5 l_ g2 dR) r (λ g5=>⟨[(0,bI l_),(7,.dF 0 0 g5.length false),(9,iV g2.1)],[(0,some (.row 1 g5.length (bA AV.bool false g5)))],1⟩) (s2 hm λ _ _ hm=>sn hm λ _ hm=>le hm) λ g5 hm=>s2 hm λ _ _ hm=>si hm (λ _ hm=>s2 hm λ _ _ hm=>sn hm λ _ hm=>le hm) λ _ hm=>sn hm λ _ hm=>le hm) λ _ hm=>by cases hm;exact rt [0] []
theorem sO {l_:List Int} (hm:yI l_ x_ r):S 57 [ak l_,iV x_] [] (.bool r) [] :=sp Tryz.func57 rfl<|l0 hm (λ g1=>⟨[(0,ak l_),(1,iV x_),(5,iV g1)],[],0⟩) <|λ ah g1 hm=>si hm (λ _ hm=>sn hm λ _ hm=>si hm (λ _ hm=>by cases hm;exact re) λ _ hm=>sn hm λ _ hm=>le hm) λ _ hm=>by cases hm;exact re
theorem X0 {l_:List au} {r:List au} (hm:MI l_ aj r):S 80 [bn l_,ak aj] [] (.dF 0 0 r.length false) [.row 3 r.length (bA jd bE r)] :=sp Tryz.func80 rfl<|lf hm (λ g1=>⟨[(1,ak aj),(5,.dF 0 0 g1.2.length false),(8,bn l_),(9,iV (l_.length:Int)),(10,iV g1.1)],[(0,some (.row 3 g1.2.length (bA jd bE g1.2)))],1⟩) [(0,none)] [] <|λ ah g1 hm=>si hm (λ _ hm=>sn hm λ _ hm=>sq hm sO λ v3 hm=>si hm (λ _ hm=>s2 hm λ _ _ hm=>lc [(0,some 97)] [] hm) λ _ hm=>sn hm λ _ hm=>le hm) λ _ hm=>by cases hm;exact re
theorem Gd {r:List Int×List Bool×List Int×List Bool×List Bool×Int×Int×List au} (hm:yJ b_ l_ aj g_ r):S 78 [iM b_,dB l_,ak aj,gN g_] [] (.jM [.agg [ak r.1,av r.2.1,ak r.2.2.1,.dF 0 0 r.2.2.2.2.2.2.2.length false,av r.2.2.2.1,av r.2.2.2.2.1],iV r.2.2.2.2.2.1,iV r.2.2.2.2.2.2.1]) [.row 3 r.2.2.2.2.2.2.2.length (bA jd bE r.2.2.2.2.2.2.2)] :=sp Tryz.func78 rfl<|sq hm oO λ v1 hm=>si hm (λ _ hm=>by cases hm;exact rt [] [(0,none)]) λ _ hm=>sq hm lC λ v2 hm=>si hm (λ _ hm=>by cases hm;exact rt [] [(0,none)]) λ _ hm=>sq hm DT λ v3 hm=>sq hm F9 λ v4 hm=>sb hm λ v5 hv5 hm=>cl (λ q0=>(yR (hv5 q0)))<|si hm (λ _ hm=>by cases hm;exact rt [] [(0,none)]) λ _ hm=>sq hm Ga λ v6 hm=>si hm (λ _ hm=>by cases hm;exact rt [] [(0,none)]) λ _ hm=>sq hm Gc λ v7 hm=>si hm (λ _ hm=>by cases hm;exact rt [] [(0,none)]) λ _ hm=>lf hm (λ g1=>⟨[(1,dB l_),(2,ak aj),(4,.ptr 0 0 0),(7,.ptr 1 0 0),(8,.ptr 2 0 0),(14,ak v6.1),(16,.ptr 3 0 0),(17,.dF 4 0 g1.2.1.length false),(18,.dF 5 0 g1.2.2.length false),(78,ak aj),(79,iV (aj.length:Int)),(80,iV g1.1)],[(0,some (.box [aU b_.bT,aT b_.bD,iV b_.aQ.dz,aX b_.aQ.aG,bV b_.bf,bI b_.bO])),(1,some (.box [ak g_.Setting,av g_.aY.On,ak g_.aY.bC,bn g_.Uses,av g_.Released,av g_.bq])),(2,some (.box [.sl 0 0 true cK,.sl 0 0 true cK,.sl 0 0 true cK,.sl 0 0 true cK,.sl 0 0 true cK,.sl 0 0 true cK])),(3,some (.box [av v7.1.On,ak v7.1.bC])),(4,some (.row 1 g1.2.1.length (bA iV 0 g1.2.1))),(5,some (.row 1 g1.2.2.length (bA iV 0 g1.2.2)))],6⟩) [(1,some 8),(2,some 16),(3,some 440),(4,none),(5,none)] [] <|λ ah g1 hm=>si hm (λ _ hm=>s2 hm λ _ _ hm=>s2 hm λ _ _ hm=>si hm (λ _ hm=>s2 hm λ _ _ hm=>sn hm λ _ hm=>lc [(4,some 86),(5,some 206)] [] hm) λ _ hm=>sn hm λ _ hm=>lc [(4,some 86)] [] hm) λ _ hm=>sq hm DV λ v8 hm=>sq hm Ol λ v9 hm=>sq hm X0 λ v10 hm=>by cases hm;exact rt [] [(0,some 198)]
theorem Vd {r:aF×Int} (hm:G6 b_ r):S 23 [iM b_] [] (.jM [gN r.1,iV r.2]) [] :=sp Tryz.func23 rfl<|sb hm λ v1 hv1 hm=>cl ((Gd hv1).le ⟨.refl _,(.sl rfl (λ h=>absurd rfl h) nofun (λ _ h=>absurd h (Nat.not_lt_zero _))),(.sl rfl (λ h=>absurd rfl h) nofun (λ _ h=>absurd h (Nat.not_lt_zero _))),(Le.u6 ⟨(.sl rfl (λ h=>absurd rfl h) nofun (λ _ h=>absurd h (Nat.not_lt_zero _))),(.sl rfl (λ h=>absurd rfl h) nofun (λ _ h=>absurd h (Nat.not_lt_zero _))),(.sl rfl (λ h=>absurd rfl h) nofun (λ _ h=>absurd h (Nat.not_lt_zero _))),(.sl rfl (λ h=>absurd rfl h) nofun (λ _ h=>absurd h (Nat.not_lt_zero _))),(.sl rfl (λ h=>absurd rfl h) nofun (λ _ h=>absurd h (Nat.not_lt_zero _))),(.sl rfl (λ h=>absurd rfl h) nofun (λ _ h=>absurd h (Nat.not_lt_zero _))),trivial⟩),trivial⟩ trivial)<|by cases hm;exact rt [40] []
theorem Rb (hm:Ac b_ l_ g_ r):S 113 [iM b_,dB l_,gN g_] [] (.bool r) [] :=sp Tryz.func113 rfl<|si hm (λ _ hm=>by cases hm;exact re) λ _ hm=>lf hm (λ g1=>⟨[(1,dB l_),(3,.ptr 0 0 0),(5,.ptr 1 0 0),(7,iV g1)],[(0,some (.box [aU b_.bT,aT b_.bD,iV b_.aQ.dz,aX b_.aQ.aG,bV b_.bf,bI b_.bO])),(1,some (.box [ak g_.Setting,av g_.aY.On,ak g_.aY.bC,bn g_.Uses,av g_.Released,av g_.bq]))],2⟩) [(1,some 8)] [] <|λ ah g1 hm=>si hm (λ _ hm=>s2 hm λ _ _ hm=>sn hm λ _ hm=>si hm (λ _ hm=>by cases hm;exact re) λ _ hm=>sn hm λ _ hm=>le hm) λ _ hm=>lf hm (λ g2=>⟨[(1,dB l_),(5,.ptr 0 0 0),(8,iV g2)],[(0,some (.box [ak g_.Setting,av g_.aY.On,ak g_.aY.bC,bn g_.Uses,av g_.Released,av g_.bq]))],1⟩) [(0,some 1)] [] <|λ dR g2 hm=>si hm (λ _ hm=>s2 hm λ _ _ hm=>si hm (λ _ hm=>by cases hm;exact re) λ _ hm=>sn hm λ _ hm=>le hm) λ _ hm=>by cases hm;exact re
theorem tY {l_:List ay} (hm:oV l_ s_ r):S 191 [aU l_,ak s_] [] (.bool r) [] :=sp Tryz.func191 rfl<|sq hm mZ λ v1 hm=>si hm (λ _ hm=>by cases hm;exact re) λ _ hm=>l0 hm (λ g1=>⟨[(1,ak s_),(17,aU l_),(18,iV (l_.length:Int)),(19,iV g1)],[],0⟩) <|λ ah g1 hm=>si hm (λ _ hm=>s2 hm λ _ _ hm=>sn hm λ _ hm=>si hm (λ _ hm=>by cases hm;exact re) λ _ hm=>sn hm λ _ hm=>le hm) λ _ hm=>by cases hm;exact re
theorem Gf {l_:List ay} (hm:yK l_ s_ m_ r):S 114 [aU l_,ak s_,dK m_] [] (.bool r) [] :=sp Tryz.func114 rfl<|sq hm tY λ v1 hm=>sb hm λ v2 hv2 hm=>cl (λ q0=>(vX (hv2 q0)))<|si hm (λ _ hm=>by cases hm;exact re) λ _ hm=>sq hm vY λ v3 hm=>l0 hm (λ g1=>⟨[(0,aU l_),(7,o8 v3.1),(8,av v3.2),(27,dK m_),(28,iV (m_.length:Int)),(29,iV g1)],[],0⟩) <|λ ah g1 hm=>si hm (λ _ hm=>s2 hm λ _ _ hm=>sn hm λ _ hm=>sb hm λ v6 hv6 hm=>cl (λ q0=>(pO (hv6 q0)))<|si hm (λ _ hm=>by cases hm;exact re) λ _ hm=>sn hm λ _ hm=>le hm) λ _ hm=>sq hm Cn λ v7 hm=>by cases hm;exact re
theorem Rc {x_:aO} {gI:Bool} (hm:Ad b_ g_ x_ gI r):S 115 [iM b_,gN g_,zw x_,.bool gI] [] (.bool r) [] :=ZQ [6] Tryz.func115 rfl<|U5 [6] hm (λ g1=>⟨[(3,.bool gI),(4,.ptr 0 0 0),(5,.ptr 1 0 0),(12,dK x_.eF),(13,iV (x_.eF.length:Int)),(14,iV g1)],[(0,some (.box [aU b_.bT,aT b_.bD,iV b_.aQ.dz,aX b_.aQ.aG,bV b_.bf,bI b_.bO])),(1,some (.box [ak g_.Setting,av g_.aY.On,ak g_.aY.bC,bn g_.Uses,av g_.Released,av g_.bq]))],2⟩) [(1,some 8)] [] <|λ ah g1 hm=>si hm (λ _ hm=>sn hm λ _ hm=>ck [6] (oK b_ g_ x_ g1 ah) r (λ g4=>⟨[(3,.bool gI),(4,.ptr 0 0 0),(5,.ptr 1 0 0),(10,.ptr 2 0 0),(12,dK x_.eF),(13,iV (x_.eF.length:Int)),(14,iV g1)],[(0,some (.box [aU b_.bT,aT b_.bD,iV b_.aQ.dz,aX b_.aQ.aG,bV b_.bf,bI b_.bO])),(1,some (.box [ak g_.Setting,av g_.aY.On,ak g_.aY.bC,bn g_.Uses,av g_.Released,av g_.bq])),(2,some (.box [iV ((x_.eF.getD g1.toNat dU).fJ),iV g4,iV ((x_.eF.getD g1.toNat dU).gF)]))],3⟩) (si hm (λ _ hm=>lc [(2,some 26)] [] hm) λ _ hm=>lc [(2,some 26)] [] hm) λ g4 hm=>sb hm λ v3 hv3 hm=>cl ((Gf hv3).le ⟨.refl _,.refl _,(.sl rfl (λ _=>rfl) nofun (fT A9 dU [(⟨(x_.eF.getD g1.toNat dU).fJ,g4,(x_.eF.getD g1.toNat dU).gF⟩:bg)])),trivial⟩ trivial)<|si hm (λ _ hm=>by cases hm;exact re) λ _ hm=>sn hm λ _ hm=>le hm) λ _ hm=>by cases hm;exact re
theorem xG {l_:List aC} {r_:aW} (hm:uE l_ r_ r):S 127 [aT l_,kH r_] [] (.bool r) [] :=sp Tryz.func127 rfl<|sq hm ng λ v1 hm=>si hm (λ _ hm=>by cases hm;exact re) λ _ hm=>l0 hm (λ g1=>⟨[(3,.ptr 0 0 0),(26,aT l_),(27,iV (l_.length:Int)),(28,iV g1)],[(0,some (.box [av r_.On,ak r_.bC]))],1⟩) <|λ ah g1 hm=>si hm (λ _ hm=>s2 hm λ _ _ hm=>sn hm λ _ hm=>sq hm j4 λ v4 hm=>si hm (λ _ hm=>by cases hm;exact re) λ _ hm=>sn hm λ _ hm=>le hm) λ _ hm=>by cases hm;exact re
theorem xH {l_:List aC} {r_:aW} (hm:uF l_ r_ d_ r):S 116 [aT l_,kH r_,fF d_] [] (.bool r) [] :=sp Tryz.func116 rfl<|sq hm xE λ v1 hm=>sb hm λ v2 hv2 hm=>cl (λ q0=>(xG (hv2 q0)))<|sb hm λ v3 hv3 hm=>cl (λ q0=>(Gb (hv3 q0)))<|by cases hm;exact re
theorem Ve {l_:List au} {r:List gM} (hm:G7 l_ r):S 118 [bn l_] [] (.dF 0 0 r.length false) [.row 2 r.length (bA anV jg r)] :=sp Tryz.func118 rfl<|lf hm (λ g1=>⟨[(0,bn l_),(3,.dF 0 0 g1.2.length false),(4,iV g1.1)],[(0,some (.row 2 g1.2.length (bA anV jg g1.2)))],1⟩) [(0,none)] [] <|λ ah g1 hm=>si hm (λ _ hm=>s2 hm λ _ _ hm=>sn hm λ _ hm=>lc [(0,some 89)] [] hm) λ _ hm=>by cases hm;exact re
theorem Rf {l_:List gM} {r:List Int×Int} (hm:Ae p_ l_ r):S 117 [nO p_,PN l_] [] (.jM [ak r.1,iV r.2]) [] :=sp Tryz.func117 rfl<|sq hm xC λ v1 hm=>si hm (λ _ hm=>by cases hm;exact re) λ _ hm=>sn hm λ _ hm=>lf hm (λ g1=>⟨[(1,PN l_),(2,.ptr 0 0 0),(6,.dF 1 0 g1.2.length false),(7,iV g1.1)],[(0,some (.box [iV p_.dz,aX p_.aG])),(1,some (.row 1 g1.2.length (bA iV 0 g1.2)))],2⟩) [(1,some 64)] [] <|λ ah g1 hm=>si hm (λ _ hm=>s2 hm λ _ _ hm=>le hm) λ _ hm=>l0 hm (λ g2=>⟨[(1,PN l_),(2,.ptr 0 0 0),(6,.dF 1 0 g2.2.length false),(8,iV g2.1)],[(0,some (.box [iV p_.dz,aX p_.aG])),(1,some (.row 1 g2.2.length (bA iV 0 g2.2)))],2⟩) <|λ dR g2 hm=>si hm (λ _ hm=>s2 hm λ _ _ hm=>s2 hm λ _ _ hm=>si hm (λ _ hm=>by cases hm;exact re) λ _ hm=>l0 hm (λ g7=>⟨[(1,PN l_),(2,.ptr 0 0 0),(6,.dF 1 0 g2.2.length false),(8,iV g2.1),(9,iV ((l_.getD g2.1.toNat jg).bM)),(10,iV g7)],[(0,some (.box [iV p_.dz,aX p_.aG])),(1,some (.row 1 g2.2.length (bA iV 0 g2.2)))],2⟩) <|λ ou g7 hm=>si hm (λ _ hm=>sn hm λ _ hm=>si hm (λ _ hm=>by cases hm;exact re) λ _ hm=>sn hm λ _ hm=>le hm) λ _ hm=>sn hm λ _ hm=>l0 hm (λ g8=>⟨[(1,PN l_),(2,.ptr 0 0 0),(6,.dF 1 0 g8.2.length false),(8,iV g2.1),(9,iV ((l_.getD g2.1.toNat jg).bM)),(88,ak ((p_.aG.getD (((l_.getD g2.1.toNat jg).bM).toNat) aM).dz)),(89,iV ((((p_.aG.getD (((l_.getD g2.1.toNat jg).bM).toNat) aM).dz).length:Nat):Int)),(90,iV g8.1)],[(0,some (.box [iV p_.dz,aX p_.aG])),(1,some (.row 1 g8.2.length (bA iV 0 g8.2)))],2⟩) <|λ Iw g8 hm=>si hm (λ _ hm=>s2 hm λ _ _ hm=>si hm (λ _ hm=>by cases hm;exact re) λ _ hm=>s2 hm λ _ _ hm=>le hm) λ _ hm=>sn hm λ _ hm=>le hm) λ _ hm=>by cases hm;exact rt [1] []
theorem Me {x_:aO} {cZ:Int} (hm:sU b_ g_ x_ cZ r):S 119 [iM b_,gN g_,zw x_,iV cZ] [] (.bool r) [] :=sp Tryz.func119 rfl<|lf hm (λ g1=>⟨[(3,iV cZ),(4,.ptr 0 0 0),(5,.ptr 1 0 0),(6,.ptr 2 0 0),(18,iU x_.aI),(19,iV (x_.aI.length:Int)),(20,iV g1)],[(0,some (.box [aU b_.bT,aT b_.bD,iV b_.aQ.dz,aX b_.aQ.aG,bV b_.bf,bI b_.bO])),(1,some (.box [ak g_.Setting,av g_.aY.On,ak g_.aY.bC,bn g_.Uses,av g_.Released,av g_.bq])),(2,some (.box [dK x_.eF,fF x_.gJ,iU x_.aI,ak x_.bf,iV x_.gB,ak x_.dx]))],3⟩) [(1,some 8),(2,some 16)] [] <|λ ah g1 hm=>si hm (λ _ hm=>sn hm λ _ hm=>l0 hm (λ g6=>⟨[(3,iV cZ),(4,.ptr 0 0 0),(5,.ptr 1 0 0),(6,.ptr 2 0 0),(10,.str (x_.aI.getD g1.toNat ByteArray.empty)),(11,iV g6.1),(12,iV (0:Int)),(18,iU x_.aI),(19,iV (x_.aI.length:Int)),(20,iV g1),(25,iU x_.aI),(26,iV (x_.aI.length:Int)),(27,iV g6.2)],[(0,some (.box [aU b_.bT,aT b_.bD,iV b_.aQ.dz,aX b_.aQ.aG,bV b_.bf,bI b_.bO])),(1,some (.box [ak g_.Setting,av g_.aY.On,ak g_.aY.bC,bn g_.Uses,av g_.Released,av g_.bq])),(2,some (.box [dK x_.eF,fF x_.gJ,iU x_.aI,ak x_.bf,iV x_.gB,ak x_.dx]))],3⟩) <|λ jE g6 hm=>si hm (λ _ hm=>sn hm λ _ hm=>si hm (λ _ hm=>s2 hm λ _ _ hm=>le hm) λ _ hm=>sn hm λ _ hm=>le hm) λ _ hm=>l0 hm (λ g7=>⟨[(3,iV cZ),(4,.ptr 0 0 0),(5,.ptr 1 0 0),(6,.ptr 2 0 0),(10,.str (x_.aI.getD g1.toNat ByteArray.empty)),(11,iV g6.1),(12,iV g7.1),(18,iU x_.aI),(19,iV (x_.aI.length:Int)),(20,iV g1),(38,bn g_.Uses),(39,iV (g_.Uses.length:Int)),(40,iV g7.2)],[(0,some (.box [aU b_.bT,aT b_.bD,iV b_.aQ.dz,aX b_.aQ.aG,bV b_.bf,bI b_.bO])),(1,some (.box [ak g_.Setting,av g_.aY.On,ak g_.aY.bC,bn g_.Uses,av g_.Released,av g_.bq])),(2,some (.box [dK x_.eF,fF x_.gJ,iU x_.aI,ak x_.bf,iV x_.gB,ak x_.dx]))],3⟩) <|λ ou g7 hm=>si hm (λ _ hm=>s2 hm λ _ _ hm=>sn hm λ _ hm=>si hm (λ _ hm=>s2 hm λ _ _ hm=>le hm) λ _ hm=>sn hm λ _ hm=>le hm) λ _ hm=>si hm (λ _ hm=>by cases hm;exact re) λ _ hm=>sn hm λ _ hm=>le hm) λ _ hm=>by cases hm;exact re
theorem Rh {l_:List eu} {fB:List Bool} (hm:Af l_ fB r):S 120 [bV l_,av fB] [] (.bool r) [] :=sp Tryz.func120 rfl<|sq hm xD λ v1 hm=>si hm (λ _ hm=>by cases hm;exact re) λ _ hm=>l0 hm (λ g1=>⟨[(0,bV l_),(1,av fB),(5,iV g1)],[],0⟩) <|λ ah g1 hm=>si hm (λ _ hm=>l0 hm (λ g4=>⟨[(0,bV l_),(1,av fB),(5,iV g1),(6,iV g4)],[],0⟩) <|λ kE g4 hm=>sn hm λ _ hm=>si hm (λ _ hm=>s2 hm λ _ _ hm=>s2 hm λ _ _ hm=>si hm (λ _ hm=>by cases hm;exact re) λ _ hm=>sn hm λ _ hm=>le hm) λ _ hm=>sn hm λ _ hm=>le hm) λ _ hm=>by cases hm;exact re
theorem xI {l_:List dG} {xM:List Bool} (hm:uG l_ xM r):S 121 [bI l_,av xM] [] (.bool r) [] :=sp Tryz.func121 rfl<|sq hm qM λ v1 hm=>si hm (λ _ hm=>by cases hm;exact re) λ _ hm=>l0 hm (λ g1=>⟨[(0,bI l_),(1,av xM),(5,iV g1)],[],0⟩) <|λ ah g1 hm=>si hm (λ _ hm=>s2 hm λ _ _ hm=>s2 hm λ _ _ hm=>s2 hm λ _ _ hm=>si hm (λ _ hm=>by cases hm;exact re) λ _ hm=>sn hm λ _ hm=>le hm) λ _ hm=>by cases hm;exact re
theorem Ri {gI:Bool} {r:Int} (hm:Ag b_ l_ aj g_ gI r):S 49 [iM b_,dB l_,ak aj,gN g_,.bool gI] [] (iV r) [] :=sp Tryz.func49 rfl<|sq hm oO λ v1 hm=>sb hm λ v2 hv2 hm=>cl (λ q0=>(lC (hv2 q0)))<|sb hm λ v3 hv3 hm=>cl (λ q0=>(Rb (hv3 q0)))<|si hm (λ _ hm=>by cases hm;exact re) λ _ hm=>sb hm λ v4 hv4 hm=>cl ((Gf hv4).le ⟨.refl _,.refl _,(.sl rfl (λ h=>absurd rfl h) nofun (λ _ h=>absurd h (Nat.not_lt_zero _))),trivial⟩ trivial)<|si hm (λ _ hm=>by cases hm;exact re) λ _ hm=>lf hm (λ g1=>⟨[(1,dB l_),(2,ak aj),(4,.bool gI),(5,.ptr 0 0 0),(8,.ptr 1 0 0),(11,.dF 2 0 g1.2.length false),(48,ak aj),(49,iV (aj.length:Int)),(50,iV g1.1)],[(0,some (.box [aU b_.bT,aT b_.bD,iV b_.aQ.dz,aX b_.aQ.aG,bV b_.bf,bI b_.bO])),(1,some (.box [ak g_.Setting,av g_.aY.On,ak g_.aY.bC,bn g_.Uses,av g_.Released,av g_.bq])),(2,some (.row 4 g1.2.length (bA Ka eP g1.2)))],3⟩) [(1,some 8),(2,none)] [] <|λ ah g1 hm=>si hm (λ _ hm=>s2 hm λ _ _ hm=>sq hm Rc λ v7 hm=>si hm (λ _ hm=>by cases hm;exact re) λ _ hm=>s2 hm λ _ _ hm=>sn hm λ _ hm=>lc [(2,some 155)] [] hm) λ _ hm=>sq hm xH λ v8 hm=>si hm (λ _ hm=>by cases hm;exact re) λ _ hm=>sq hm Ve λ v9 hm=>sq hm Rf λ v10 hm=>si hm (λ _ hm=>by cases hm;exact re) λ _ hm=>l0 hm (λ g2=>⟨[(1,dB l_),(2,ak aj),(5,.ptr 0 0 0),(8,.ptr 1 0 0),(89,ak aj),(90,iV (aj.length:Int)),(91,iV g2)],[(0,some (.box [aU b_.bT,aT b_.bD,iV b_.aQ.dz,aX b_.aQ.aG,bV b_.bf,bI b_.bO])),(1,some (.box [ak g_.Setting,av g_.aY.On,ak g_.aY.bC,bn g_.Uses,av g_.Released,av g_.bq]))],2⟩) <|λ dR g2 hm=>si hm (λ _ hm=>s2 hm λ _ _ hm=>sq hm Me λ v13 hm=>si hm (λ _ hm=>by cases hm;exact re) λ _ hm=>sn hm λ _ hm=>le hm) λ _ hm=>sq hm Rh λ v14 hm=>si hm (λ _ hm=>by cases hm;exact re) λ _ hm=>l0 hm (λ g3=>⟨[(1,dB l_),(2,ak aj),(5,.ptr 0 0 0),(8,.ptr 1 0 0),(111,ak aj),(112,iV (aj.length:Int)),(113,iV g3)],[(0,some (.box [aU b_.bT,aT b_.bD,iV b_.aQ.dz,aX b_.aQ.aG,bV b_.bf,bI b_.bO])),(1,some (.box [ak g_.Setting,av g_.aY.On,ak g_.aY.bC,bn g_.Uses,av g_.Released,av g_.bq]))],2⟩) <|λ vk g3 hm=>si hm (λ _ hm=>s2 hm λ _ _ hm=>l0 hm (λ g6=>⟨[(1,dB l_),(2,ak aj),(5,.ptr 0 0 0),(8,.ptr 1 0 0),(111,ak aj),(112,iV (aj.length:Int)),(113,iV g3),(121,ak ((l_.getD ((aj.getD g3.toNat 0).toNat) dh).bf)),(122,iV ((((l_.getD ((aj.getD g3.toNat 0).toNat) dh).bf).length:Nat):Int)),(123,iV g6)],[(0,some (.box [aU b_.bT,aT b_.bD,iV b_.aQ.dz,aX b_.aQ.aG,bV b_.bf,bI b_.bO])),(1,some (.box [ak g_.Setting,av g_.aY.On,ak g_.aY.bC,bn g_.Uses,av g_.Released,av g_.bq]))],2⟩) <|λ jE g6 hm=>si hm (λ _ hm=>s2 hm λ _ _ hm=>si hm (λ _ hm=>by cases hm;exact re) λ _ hm=>sn hm λ _ hm=>le hm) λ _ hm=>sn hm λ _ hm=>le hm) λ _ hm=>sq hm xI λ v15 hm=>si hm (λ _ hm=>by cases hm;exact re) λ _ hm=>lf hm (λ g7=>⟨[(1,dB l_),(8,.ptr 0 0 0),(141,ak aj),(142,iV (aj.length:Int)),(143,iV g7)],[(0,some (.box [ak g_.Setting,av g_.aY.On,ak g_.aY.bC,bn g_.Uses,av g_.Released,av g_.bq]))],1⟩) [(0,some 1)] [] <|λ ou g7 hm=>si hm (λ _ hm=>s2 hm λ _ _ hm=>sn hm λ _ hm=>si hm (λ _ hm=>by cases hm;exact re) λ _ hm=>sn hm λ _ hm=>le hm) λ _ hm=>by cases hm;exact re
theorem xJ (hm:nE b_ l_ aj g_ r):S 55 [iM b_,dB l_,ak aj,gN g_] [] (.bool r) [] :=sp Tryz.func55 rfl<|sq hm Ri λ v1 hm=>by cases hm;exact re
theorem DW {cZ:Int} {r:Int} (hm:vJ b_ l_ aj g_ cZ r):S 79 [iM b_,dB l_,ak aj,gN g_,iV cZ] [] (iV r) [] :=sp Tryz.func79 rfl<|sq hm oO λ v1 hm=>si hm (λ _ hm=>by cases hm;exact re) λ _ hm=>sq hm lC λ v2 hm=>si hm (λ _ hm=>by cases hm;exact re) λ _ hm=>sq hm xJ λ v3 hm=>si hm (λ _ hm=>by cases hm;exact re) λ _ hm=>si hm (λ _ hm=>by cases hm;exact re) λ _ hm=>by cases hm;exact re
theorem Mf {bX:List Int} {r:List bg} (hm:I7 l_ bX r):S 61 [dB l_,.dF 0 0 bX.length false] [.row 1 bX.length (bA iV 0 bX)] (dK r) [.row 1 bX.length (bA iV 0 bX)] :=sp Tryz.func61 rfl<|lf hm (λ g1=>⟨[(0,dB l_),(5,.dF 1 0 g1.2.length false),(8,.dF 0 0 bX.length false),(9,iV (bX.length:Int)),(10,iV g1.1)],[(0,some (.row 1 bX.length (bA iV 0 bX))),(1,some (.row 3 g1.2.length (bA A9 dU g1.2)))],2⟩) [(1,none)] [] <|λ ah g1 hm=>si hm (λ _ hm=>sn hm λ _ hm=>si hm (λ _ hm=>s2 hm λ _ _ hm=>sn hm λ _ hm=>lc [(1,some 146)] [] hm) λ _ hm=>sn hm λ _ hm=>le hm) λ _ hm=>by cases hm;exact rt [1] []
theorem Nn {bX:List Int} {r:List bU} (hm:K6 l_ bX r):S 59 [dB l_,.dF 0 0 bX.length false] [.row 1 bX.length (bA iV 0 bX)] (fF r) [.row 1 bX.length (bA iV 0 bX)] :=sp Tryz.func59 rfl<|lf hm (λ g1=>⟨[(0,dB l_),(5,.dF 1 0 g1.2.length false),(8,.dF 0 0 bX.length false),(9,iV (bX.length:Int)),(10,iV g1.1)],[(0,some (.row 1 bX.length (bA iV 0 bX))),(1,some (.row 4 g1.2.length (bA Ka eP g1.2)))],2⟩) [(1,none)] [] <|λ ah g1 hm=>si hm (λ _ hm=>sn hm λ _ hm=>si hm (λ _ hm=>s2 hm λ _ _ hm=>sn hm λ _ hm=>lc [(1,some 146)] [] hm) λ _ hm=>sn hm λ _ hm=>le hm) λ _ hm=>by cases hm;exact rt [1] []
theorem DX {l_:List au} {bX:List Int} {r:List au} (hm:vK l_ bX r):S 80 [bn l_,.dF 0 0 bX.length false] [.row 1 bX.length (bA iV 0 bX)] (.dF 1 0 r.length false) [.row 1 bX.length (bA iV 0 bX),.row 3 r.length (bA jd bE r)] :=sp Tryz.func80 rfl<|lf hm (λ g1=>⟨[(1,.dF 0 0 bX.length false),(5,.dF 1 0 g1.2.length false),(8,bn l_),(9,iV (l_.length:Int)),(10,iV g1.1)],[(0,some (.row 1 bX.length (bA iV 0 bX))),(1,some (.row 3 g1.2.length (bA jd bE g1.2)))],2⟩) [(1,none)] [] <|λ ah g1 hm=>si hm (λ _ hm=>sn hm λ _ hm=>sq hm sO λ v3 hm=>si hm (λ _ hm=>s2 hm λ _ _ hm=>lc [(1,some 98)] [] hm) λ _ hm=>sn hm λ _ hm=>le hm) λ _ hm=>by cases hm;exact re
theorem Np {bX:List Int} {r:List Int×List Bool×List Int×List Bool×List Bool×Int×Int×List au} (hm:vL b_ l_ g_ bX r):S 78 [iM b_,dB l_,.dF 0 0 bX.length false,gN g_] [.row 1 bX.length (bA iV 0 bX)] (.jM [.agg [ak r.1,av r.2.1,ak r.2.2.1,.dF 1 0 r.2.2.2.2.2.2.2.length false,av r.2.2.2.1,av r.2.2.2.2.1],iV r.2.2.2.2.2.1,iV r.2.2.2.2.2.2.1]) [.row 1 bX.length (bA iV 0 bX),.row 3 r.2.2.2.2.2.2.2.length (bA jd bE r.2.2.2.2.2.2.2)] :=sp Tryz.func78 rfl<|sq hm oO λ v1 hm=>si hm (λ _ hm=>by cases hm;exact rt [] [(1,none)]) λ _ hm=>sq hm lC λ v2 hm=>si hm (λ _ hm=>by cases hm;exact rt [] [(1,none)]) λ _ hm=>sq hm Mf λ v3 hm=>sq hm Nn λ v4 hm=>sb hm λ v5 hv5 hm=>cl (λ q0=>(yR (hv5 q0)))<|si hm (λ _ hm=>by cases hm;exact rt [] [(1,none)]) λ _ hm=>sq hm Ga λ v6 hm=>si hm (λ _ hm=>by cases hm;exact rt [] [(1,none)]) λ _ hm=>sq hm Gc λ v7 hm=>si hm (λ _ hm=>by cases hm;exact rt [] [(1,none)]) λ _ hm=>lf hm (λ g1=>⟨[(1,dB l_),(2,.dF 0 0 bX.length false),(4,.ptr 1 0 0),(7,.ptr 2 0 0),(8,.ptr 3 0 0),(14,ak v6.1),(16,.ptr 4 0 0),(17,.dF 5 0 g1.2.1.length false),(18,.dF 6 0 g1.2.2.length false),(78,.dF 0 0 bX.length false),(79,iV (bX.length:Int)),(80,iV g1.1)],[(0,some (.row 1 bX.length (bA iV 0 bX))),(1,some (.box [aU b_.bT,aT b_.bD,iV b_.aQ.dz,aX b_.aQ.aG,bV b_.bf,bI b_.bO])),(2,some (.box [ak g_.Setting,av g_.aY.On,ak g_.aY.bC,bn g_.Uses,av g_.Released,av g_.bq])),(3,some (.box [.sl 0 0 true cK,.sl 0 0 true cK,.sl 0 0 true cK,.sl 0 0 true cK,.sl 0 0 true cK,.sl 0 0 true cK])),(4,some (.box [av v7.1.On,ak v7.1.bC])),(5,some (.row 1 g1.2.1.length (bA iV 0 g1.2.1))),(6,some (.row 1 g1.2.2.length (bA iV 0 g1.2.2)))],7⟩) [(2,some 9),(3,some 17),(4,some 441),(5,none),(6,none)] [] <|λ ah g1 hm=>si hm (λ _ hm=>s2 hm λ _ _ hm=>s2 hm λ _ _ hm=>si hm (λ _ hm=>s2 hm λ _ _ hm=>sn hm λ _ hm=>lc [(5,some 87),(6,some 207)] [] hm) λ _ hm=>sn hm λ _ hm=>lc [(5,some 87)] [] hm) λ _ hm=>sq hm DV λ v8 hm=>sq hm Ol λ v9 hm=>sq hm DX λ v10 hm=>by cases hm;exact rt [] [(1,some 199)]
theorem SY {l_:List au} {r:List ByteArray×List Int} (hm:Dn b_ l_ r):S 81 [iM b_,bn l_] [] (.jM [.dF 0 0 r.1.length false,.dF 1 0 r.2.length false]) [.row 1 r.1.length (bA AV.str ByteArray.empty r.1),.row 1 r.2.length (bA iV 0 r.2)] :=sp Tryz.func81 rfl<|lf hm (λ g1=>⟨[(2,.ptr 0 0 0),(6,.dF 1 0 g1.2.1.length false),(7,.dF 2 0 g1.2.2.length false),(10,bn l_),(11,iV (l_.length:Int)),(12,iV g1.1)],[(0,some (.box [aU b_.bT,aT b_.bD,iV b_.aQ.dz,aX b_.aQ.aG,bV b_.bf,bI b_.bO])),(1,some (.row 1 g1.2.1.length (bA AV.str ByteArray.empty g1.2.1))),(2,some (.row 1 g1.2.2.length (bA iV 0 g1.2.2)))],3⟩) [(1,none),(2,none)] [] <|λ ah g1 hm=>si hm (λ _ hm=>s2 hm λ _ _ hm=>s2 hm λ _ _ hm=>s2 hm λ _ _ hm=>lc [(1,some 171),(2,some 227)] [] hm) λ _ hm=>by cases hm;exact rt [] [(0,some 1),(1,some 2)]
theorem S9 {l_:List ByteArray} (hm:K9 p_ l_ r):S 209 [nO p_,iU l_] [] (.bool r) [] :=sp Tryz.func209 rfl<|sq hm xC λ v1 hm=>si hm (λ _ hm=>by cases hm;exact re) λ _ hm=>l0 hm (λ g1=>⟨[(1,iU l_),(5,iV g1)],[],0⟩) <|λ ah g1 hm=>si hm (λ _ hm=>sn hm λ _ hm=>sq hm sZ λ v4 hm=>si hm (λ _ hm=>by cases hm;exact re) λ _ hm=>sn hm λ _ hm=>le hm) λ _ hm=>by cases hm;exact re
theorem ED {g_:dD} {gV:ByteArray} {r:Int} (hm:FD g_ gV r):S 83 [oP g_,.str gV] [] (iV r) [] :=sp Tryz.func83 rfl<|l0 hm (λ g1=>⟨[(1,.str gV),(2,.ptr 0 0 0),(5,iV g1)],[(0,some (.box [.str g_.EF,ak g_.dz,iU g_.aI]))],1⟩) <|λ ah g1 hm=>si hm (λ _ hm=>sn hm λ _ hm=>si hm (λ _ hm=>by cases hm;exact re) λ _ hm=>sn hm λ _ hm=>le hm) λ _ hm=>by cases hm;exact re
theorem Ta {a_:List Int} {b_:List Int} (hm:Dp a_ b_ r):S 249 [ak a_,ak b_] [] (.bool r) [] :=sp Tryz.func249 rfl<|l0 hm (λ g1=>⟨[(0,ak a_),(1,ak b_),(5,iV g1.1),(6,iV g1.2)],[],0⟩) <|λ ah g1 hm=>si hm (λ _ hm=>s2 hm λ _ _ hm=>si hm (λ _ hm=>by cases hm;exact re) λ _ hm=>s2 hm λ _ _ hm=>si hm (λ _ hm=>sn hm λ _ hm=>le hm) λ _ hm=>sn hm λ _ hm=>le hm) λ _ hm=>by cases hm;exact re
theorem Jy {eH:List Int} {g_:Int} (hm:Bw p_ eH g_ r):S 212 [nO p_,ak eH,iV g_] [] (.bool r) [] :=sp Tryz.func212 rfl<|l0 hm (λ g1=>⟨[(1,ak eH),(2,iV g_),(3,.ptr 0 0 0),(7,iV g1)],[(0,some (.box [iV p_.dz,aX p_.aG]))],1⟩) <|λ ah g1 hm=>si hm (λ _ hm=>s2 hm λ _ _ hm=>s2 hm λ _ _ hm=>sb hm λ v3 hv3 hm=>cl (λ q0=>(Ta (hv3 q0)))<|si hm (λ _ hm=>by cases hm;exact re) λ _ hm=>sn hm λ _ hm=>le hm) λ _ hm=>by cases hm;exact re
theorem Vf {l_:List ByteArray} {eH:List Int} (hm:OD p_ l_ eH r):S 210 [nO p_,iU l_,ak eH] [] (.bool r) [] :=sp Tryz.func210 rfl<|si hm (λ _ hm=>by cases hm;exact re) λ _ hm=>l0 hm (λ g1=>⟨[(1,iU l_),(2,ak eH),(3,.ptr 0 0 0),(7,iV g1)],[(0,some (.box [iV p_.dz,aX p_.aG]))],1⟩) <|λ ah g1 hm=>si hm (λ _ hm=>s2 hm λ _ _ hm=>sn hm λ _ hm=>sb hm λ v5 hv5 hm=>cl (λ q0=>(ED (hv5 q0)))<|sn hm λ _ hm=>sb hm λ v6 hv6 hm=>cl (λ q0=>((Jy (hv6 q0)).le ⟨.refl _,(.sl oz (λ _=>rfl) nofun (iG (f:=iV) (d:=0) (by first | omega | exact Nat.min_le_left _ _ | exact Nat.le_trans (Nat.min_le_left _ _) om | (simp; omega)))),.refl _,trivial⟩ trivial))<|si hm (λ _ hm=>by cases hm;exact re) λ _ hm=>sn hm λ _ hm=>le hm) λ _ hm=>by cases hm;exact re
theorem X3 {l_:List ByteArray} {jD:List Int} {r:Int} (hm:MJ p_ l_ jD r):S 145 [nO p_,iU l_,ak jD] [] (iV r) [] :=sp Tryz.func145 rfl<|sq hm S9 λ v1 hm=>si hm (λ _ hm=>by cases hm;exact re) λ _ hm=>sq hm Vf λ v2 hm=>si hm (λ _ hm=>by cases hm;exact re) λ _ hm=>by cases hm;exact re
theorem Rj {gV:ByteArray} {r:List Int} (hm:Ah p_ gV r):S 211 [nO p_,.str gV] [] (ak r) [] :=sp Tryz.func211 rfl<|lf hm (λ g1=>⟨[(1,.str gV),(2,.ptr 0 0 0),(5,.dF 1 0 g1.2.length false),(9,iV (p_.aG.length:Int)),(10,iV g1.1)],[(0,some (.box [iV p_.dz,aX p_.aG])),(1,some (.row 1 g1.2.length (bA iV 0 g1.2)))],2⟩) [(1,none)] [] <|λ ah g1 hm=>si hm (λ _ hm=>sn hm λ _ hm=>sq hm ED λ v3 hm=>si hm (λ _ hm=>s2 hm λ _ _ hm=>lc [(1,some 114)] [] hm) λ _ hm=>sn hm λ _ hm=>le hm) λ _ hm=>by cases hm;exact rt [1] []
end Go.Proofs.YtifekdmmpbcdgaaGreatDoor
namespace Go.Proofs.YtifekdmmpbcdgaaGreatDoor
open Go.Ab
theorem ozz {p:Prop} (h:p:=by first | omega | (simp [gZ]; done) | (simp [gZ,Pp]; done) | (simp [gZ]; omega) | (simp [gZ,Pp]; omega)):p:=h
end Go.Proofs.YtifekdmmpbcdgaaGreatDoor
namespace Go.Proofs.YtifekdmmpbcdgaaGreatDoor
open Go.Ab
set_option maxRecDepth 100000
set_option maxHeartbeats 20000000
theorem Vg:∀(n:Nat) (NS:bL×List ByteArray×List Int) (r:List Int×Bool),itM mK n NS r→S 146 [nO NS.1,iU NS.2.1,ak NS.2.2] [] (.jM [ak r.1,.bool r.2]) [] :=by
 intro n
 induction n with
 | zero=>intro NS r hm; exact hm.elim
 | succ n ih=>
   intro NS r hm
   have hm:mK (itM mK n) NS r:=hm
   generalize itM mK n=aaH at hm ih
   refine tC (ct:=[]) eX Tryz.func146 rfl rfl (Nat.le_of_ble_eq_true rfl) dk (Nat.le_of_ble_eq_true rfl) ?_
   (conv=>whnf)
   refine jq hm (λ c1 hm=>?_) (λ c1 hm=>?_)
   · (conv=>whnf)
     refine aN hm λ h1 hm=>?_
     (conv=>whnf)
     have hm:r=(NS.2.2,true):=hm
     subst hm
     refine ⟨[72],[],?_⟩
     (conv=>whnf)
     exact ⟨⟨rfl,trivial,trivial⟩,(by (conv=>whnf); exact ⟨(by (conv=>whnf); exact sf),(by (conv=>whnf); exact ⟨(by first | ((conv=>whnf); exact rfl) | exact rfl),trivial⟩)⟩)⟩
   · (conv=>whnf)
     refine aN hm λ h2 hm=>?_
     (conv=>whnf)
     refine bF hm λ v1 hv1 hm=>?_
     refine ⟨_,_,(Rj hv1),?_⟩
     (conv=>whnf)
     refine eD (ct:=[]) eX dk hm (λ g1=>⟨[(1,iU NS.2.1),(2,ak NS.2.2),(3,.ptr 0 0 0),(8,ak v1),(9,iV g1)],[(0,some (.box [iV NS.1.dz,aX NS.1.aG]))],1⟩) [] [] ⟨rfl,⟨sr,sr,r4,sr,r2,trivial⟩,⟨⟨r2,sr,trivial⟩,trivial⟩⟩ ?_
     intro ah g1 hm
     (conv=>whnf)
     refine jq hm (λ c8 hm=>?_) (λ c8 hm=>?_)
     · (conv=>whnf)
       refine aN hm λ h15 hm=>?_
       (conv=>whnf)
       refine bF hm λ v6 hv6 hm=>?_
       refine ⟨_,_,(Jy hv6),?_⟩
       (conv=>whnf)
       refine jq hm (λ c9 hm=>?_) (λ c9 hm=>?_)
       · (conv=>whnf)
         refine aN hm λ h16 hm=>?_
         (conv=>whnf)
         exact ⟨(g1+(1:Int)),[],[],hm,⟨rfl,⟨sr,sr,r4,sr,r2,trivial⟩,⟨⟨r2,sr,trivial⟩,trivial⟩⟩⟩
       · (conv=>whnf)
         refine aN hm λ h17 hm=>?_
         (conv=>whnf)
         refine aN hm λ h18 hm=>?_
         (conv=>whnf)
         refine aN hm λ h19 hm=>?_
         (conv=>whnf)
         refine bF hm λ v7 hv7 hm=>?_
         refine ⟨_,_,((ih _ _ hv7).le ⟨.refl _,.refl _,(.sl ozz (λ _=>rfl) nofun (iP rfl (λ _ _=>.refl _) rfl (fT iV 0 [(v1.getD g1.toNat 0)]))),trivial⟩ trivial),?_⟩
         (conv=>whnf)
         refine jq hm (λ c10 hm=>?_) (λ c10 hm=>?_)
         · (conv=>whnf)
           have hm:r=(v7.1,true):=hm
           subst hm
           refine ⟨[],[],?_⟩
           (conv=>whnf)
           exact ⟨⟨rfl,trivial,trivial⟩,⟨sf,rfl,trivial⟩⟩
         · (conv=>whnf)
           refine aN hm λ h20 hm=>?_
           (conv=>whnf)
           exact ⟨(g1+(1:Int)),[],[],hm,⟨rfl,⟨sr,sr,r4,sr,r2,trivial⟩,⟨⟨r2,sr,trivial⟩,trivial⟩⟩⟩
     · (conv=>whnf)
       have hm:r=(([]:List Int),false):=hm
       subst hm
       refine ⟨[],[],?_⟩
       (conv=>whnf)
       exact ⟨⟨rfl,trivial,trivial⟩,⟨⟨rfl,(λ h=>absurd rfl h),nofun,(λ _ h=>absurd h (Nat.not_lt_zero _))⟩,rfl,trivial⟩⟩
theorem Rk {p_:bL} {l_:List ByteArray} {eH:List Int} {r:List Int×Bool} (hm:Ai p_ l_ eH r):S 146 [nO p_,iU l_,ak eH] [] (.jM [ak r.1,.bool r.2]) [] :=by
 obtain ⟨n,hm⟩:=hm
 exact Vg n (p_,l_,eH) r hm
theorem Rl {p_:bL} {l_:List ByteArray} {jD:List Int} {r:List Int×Int} (hm:Aj p_ l_ jD r):S 82 [nO p_,iU l_,ak jD] [] (.jM [ak r.1,iV r.2]) [] :=sp Tryz.func82 rfl<|sq hm X3 λ v1 hm=>si hm (λ _ hm=>by cases hm;exact re) λ _ hm=>sq hm Rk λ v2 hm=>si hm (λ _ hm=>by cases hm;exact re) λ _ hm=>by cases hm;exact re
theorem yS {b_:aP} {l_:List aO} {g_:aF} {cZ:Int} {bX:List Int} {r:aF×Int×Int} (hm:oL b_ l_ g_ cZ bX r):S 24 [iM b_,dB l_,.dF 0 0 bX.length false,gN g_,iV cZ] [.row 1 bX.length (bA iV 0 bX)] (.jM [gN r.1,iV r.2.1,iV r.2.2]) [.row 1 bX.length (bA iV 0 bX)] :=ZQ [8,12] Tryz.func24 rfl<|sq hm DW λ v1 hm=>si hm (λ _ hm=>by cases hm;exact re) λ _ hm=>sq hm sO λ v2 hm=>si hm (λ _ hm=>by cases hm;exact re) λ _ hm=>s2 hm λ _ _ hm=>ck [8,12] (tJ b_ l_ cZ) r (λ g1=>⟨[(1,dB l_),(4,iV cZ),(5,.ptr 1 0 0),(10,.ptr 2 0 0),(14,.dF 3 0 g1.1.length false),(15,.ptr 4 0 0)],[(0,some (.row 1 bX.length (bA iV 0 bX))),(1,some (.box [aU b_.bT,aT b_.bD,iV b_.aQ.dz,aX b_.aQ.aG,bV b_.bf,bI b_.bO])),(2,some (.box [.sl 0 0 true cK,.sl 0 0 true cK,.sl 0 0 true cK,.sl 0 0 true cK,.sl 0 0 true cK,.sl 0 0 true cK])),(3,some (.row 1 g1.1.length (bA iV 0 g1.1))),(4,some (.box [.sl 0 0 true cK,.sl 0 0 true cK,.sl 0 0 true cK,bn g1.2,.sl 0 0 true cK,.sl 0 0 true cK]))],5⟩) (sq hm DX λ v11 hm=>lc [(2,some 17),(3,some 169),(4,some 225)] [209] hm) λ g1 hm=>sb hm λ v4 hv4 hm=>cl ((Np hv4).le ⟨.refl _,.refl _,.refl _,(Le.u6 ⟨(.sl rfl (λ h=>absurd rfl h) nofun (λ _ h=>absurd h (Nat.not_lt_zero _))),(.sl rfl (λ h=>absurd rfl h) nofun (λ _ h=>absurd h (Nat.not_lt_zero _))),(.sl rfl (λ h=>absurd rfl h) nofun (λ _ h=>absurd h (Nat.not_lt_zero _))),(.refl _),(.sl rfl (λ h=>absurd rfl h) nofun (λ _ h=>absurd h (Nat.not_lt_zero _))),(.sl rfl (λ h=>absurd rfl h) nofun (λ _ h=>absurd h (Nat.not_lt_zero _))),trivial⟩),trivial⟩ ⟨mG _,trivial⟩)<|si hm (λ _ hm=>by cases hm;exact re) λ _ hm=>ck [8,12] (qY b_ l_ cZ v4) r (λ g2=>⟨[(1,dB l_),(4,iV cZ),(5,.ptr 1 0 0),(10,.ptr 2 0 0),(16,.ptr 3 0 0),(19,.dF 4 0 g2.2.length false),(20,ak g2.1)],[(0,some (.row 1 bX.length (bA iV 0 bX))),(1,some (.box [aU b_.bT,aT b_.bD,iV b_.aQ.dz,aX b_.aQ.aG,bV b_.bf,bI b_.bO])),(2,some (.box [.sl 0 0 true cK,.sl 0 0 true cK,.sl 0 0 true cK,.sl 0 0 true cK,.sl 0 0 true cK,.sl 0 0 true cK])),(3,some (.box [ak v4.1,av v4.2.1,ak v4.2.2.1,.dF 5 0 v4.2.2.2.2.2.2.2.length false,av v4.2.2.2.1,av v4.2.2.2.2.1])),(4,some (.row 1 g2.2.length (bA AV.str ByteArray.empty g2.2))),(5,some (.row 3 v4.2.2.2.2.2.2.2.length (bA jd bE v4.2.2.2.2.2.2.2)))],6⟩) (sq hm SY λ v10 hm=>lc [(3,some 77),(4,some 149),(5,some 37)] [150] hm) λ g2 hm=>s2 hm λ _ _ hm=>sb hm λ v6 hv6 hm=>cl ((Rl hv6).le ⟨.refl _,(.sl ozz (λ _=>rfl) nofun (iP rfl (λ _ _=>.refl _) rfl (λ _ _=>.refl _))),.refl _,trivial⟩ trivial)<|si hm (λ _ hm=>by cases hm;exact re) λ _ hm=>sn hm λ _ hm=>U5 [8,12] hm (λ g3=>⟨[(4,iV cZ),(5,.ptr 1 0 0),(10,.ptr 2 0 0),(16,.ptr 3 0 0),(20,ak g2.1),(21,ak v6.1),(91,iU ((l_.getD cZ.toNat dh).aI)),(92,iV ((((l_.getD cZ.toNat dh).aI).length:Nat):Int)),(93,iV g3.1)],[(0,some (.row 1 bX.length (bA iV 0 bX))),(1,some (.box [aU b_.bT,aT b_.bD,iV b_.aQ.dz,aX b_.aQ.aG,bV b_.bf,bI b_.bO])),(2,some (.box [.sl 0 0 true cK,.sl 0 0 true cK,.sl 0 0 true cK,.sl 0 0 true cK,.sl 0 0 true cK,.sl 0 0 true cK])),(3,some (.box [ak v4.1,av v4.2.1,ak v4.2.2.1,.dF 4 0 g3.2.length false,av v4.2.2.2.1,av v4.2.2.2.2.1])),(4,some (.row 3 g3.2.length (bA jd bE g3.2)))],5⟩) [(4,some 5)] [] <|λ vk g3 hm=>si hm (λ _ hm=>s2 hm λ _ _ hm=>s2 hm λ _ _ hm=>sq hm ED λ v9 hm=>s2 hm λ _ _ hm=>lc [(4,some 237)] [] hm) λ _ hm=>by cases hm;exact rt [4] []
theorem Co {l_:List Int} {x_:Int} {r:List Int} (hm:rX l_ x_ r):S 27 [ak l_,iV x_] [] (ak r) [] :=sp Tryz.func27 rfl<|lf hm (λ g1=>⟨[(0,ak l_),(1,iV x_),(5,.dF 0 0 g1.2.length false),(6,iV g1.1)],[(0,some (.row 1 g1.2.length (bA iV 0 g1.2)))],1⟩) [(0,none)] [] <|λ ah g1 hm=>si hm (λ _ hm=>sn hm λ _ hm=>si hm (λ _ hm=>s2 hm λ _ _ hm=>sn hm λ _ hm=>lc [(0,some 129)] [] hm) λ _ hm=>sn hm λ _ hm=>le hm) λ _ hm=>by cases hm;exact rt [0] []
theorem Rm {b_:aP} {l_:List aO} {aj:List Int} {g_:aF} {cZ:Int} {r:aF×Int} (hm:Ak b_ l_ aj g_ cZ r):S 26 [iM b_,dB l_,ak aj,gN g_,iV cZ] [] (.jM [gN r.1,iV r.2]) [] :=sp Tryz.func26 rfl<|sq hm DW λ v1 hm=>si hm (λ _ hm=>by cases hm;exact re) λ _ hm=>sq hm sO λ v2 hm=>si hm (λ _ hm=>by cases hm;exact re) λ _ hm=>sq hm Co λ v3 hm=>sq hm Gd λ v4 hm=>by cases hm;exact rt [184] []
theorem YX {l_:List Int} {x_:Int} {r:Bool} (hm:Ql l_ x_ r):S 28 [ak l_,iV x_] [] (.bool r) [] :=sp Tryz.func28 rfl<|l0 hm (λ g1=>⟨[(1,iV x_),(7,ak l_),(8,iV (l_.length:Int)),(9,iV g1)],[],0⟩) <|λ ah g1 hm=>si hm (λ _ hm=>sn hm λ _ hm=>si hm (λ _ hm=>by cases hm;exact re) λ _ hm=>sn hm λ _ hm=>le hm) λ _ hm=>by cases hm;exact re
theorem Tc {bX:cB} {r:aP×List aO×aF×aF×List Int×Bool×cB} (hm:Dq bX r):S 9 [.ptr 0 0 0] [.box [ak bX.L,iV bX.At]] (.jM [iM r.1,dB r.2.1,gN r.2.2.1,gN r.2.2.2.1,ak r.2.2.2.2.1,.bool r.2.2.2.2.2.1]) [.box [ak r.2.2.2.2.2.2.L,iV r.2.2.2.2.2.2.At]] :=ZQ [19,34] Tryz.func9 rfl<|sq hm Ma λ v1 hm=>sq hm H9 λ v2 hm=>sq hm Vd λ v3 hm=>si hm (λ _ hm=>by cases hm;exact re) λ _ hm=>U5 [19,34] hm (λ g1=>⟨[(0,.ptr 0 0 0),(2,.ptr 1 0 0),(3,dB v2.1),(4,.ptr 2 0 0),(5,.ptr 3 0 0),(6,.sl 0 0 true cK),(8,.ptr 4 0 0),(10,.dF 5 0 g1.2.2.2.2.2.2.2.2.2.length false),(41,iV (v2.1.length:Int)),(42,iV g1.1)],[(0,some (.box [ak g1.2.1,iV g1.2.2.1])),(1,some (.box [aU v1.1.bT,aT v1.1.bD,iV v1.1.aQ.dz,aX v1.1.aQ.aG,bV v1.1.bf,bI v1.1.bO])),(2,some (.box [.sl 0 0 true cK,.sl 0 0 true cK,.sl 0 0 true cK,.sl 0 0 true cK,.sl 0 0 true cK,.sl 0 0 true cK])),(3,some (.box [.sl 0 0 true cK,.sl 0 0 true cK,.sl 0 0 true cK,.sl 0 0 true cK,.sl 0 0 true cK,.sl 0 0 true cK])),(4,some (.box [ak g1.2.2.2.1,av g1.2.2.2.2.1,ak g1.2.2.2.2.2.1,bn g1.2.2.2.2.2.2.1,av g1.2.2.2.2.2.2.2.1,av g1.2.2.2.2.2.2.2.2.1])),(5,some (.row 1 g1.2.2.2.2.2.2.2.2.2.length (bA iV 0 g1.2.2.2.2.2.2.2.2.2)))],6⟩) [(2,some 17),(3,some 25),(4,some 145),(5,none)] [] <|λ ah g1 hm=>si hm (λ _ hm=>sq hm yS λ v8 hm=>si hm (λ _ hm=>sq hm bS λ v9 hm=>si hm (λ _ hm=>s2 hm λ _ _ hm=>lc [(5,some 230)] [] hm) λ _ hm=>sn hm λ _ hm=>le hm) λ c9 hm=>by
 refine ⟨(λ q0=>absurd q0 (vac c9)),?_⟩
 (conv=>whnf)
 refine aN hm λ h14 hm=>?_
 (conv=>whnf)
 refine aN hm λ h15 hm=>?_
 (conv=>whnf)
 exact ⟨((g1.1+(1:Int)),g1.2.1,g1.2.2.1,g1.2.2.2.1,g1.2.2.2.2.1,g1.2.2.2.2.2.1,g1.2.2.2.2.2.2.1,g1.2.2.2.2.2.2.2.1,g1.2.2.2.2.2.2.2.2.1,g1.2.2.2.2.2.2.2.2.2),[],[],hm,⟨rfl,⟨r4,r4,sr,r4,r4,sr,r4,⟨rfl,rfl,rfl,rfl,nofun⟩,r2,r2,trivial⟩,⟨⟨sf,r2,trivial⟩,⟨sr,sr,r2,sr,sr,sr,trivial⟩,⟨sr,sr,sr,sr,sr,sr,trivial⟩,⟨sr,sr,sr,sr,sr,sr,trivial⟩,⟨sf,sf,sf,sf,sf,sf,trivial⟩,⟨rfl,rfl,(λ _ _=>.refl _)⟩,trivial⟩⟩⟩) λ _ hm=>sn hm λ _ hm=>U5 [19,34] hm (λ g2=>⟨[(0,.ptr 0 0 0),(2,.ptr 1 0 0),(3,dB v2.1),(4,.ptr 2 0 0),(5,.ptr 3 0 0),(6,ak g2.1),(10,.dF 4 0 g1.2.2.2.2.2.2.2.2.2.length false),(73,.dF 4 0 g1.2.2.2.2.2.2.2.2.2.length false),(74,iV (g1.2.2.2.2.2.2.2.2.2.length:Int)),(75,iV g2.2.1)],[(0,some (.box [ak g2.2.2.1,iV g2.2.2.2.1])),(1,some (.box [aU v1.1.bT,aT v1.1.bD,iV v1.1.aQ.dz,aX v1.1.aQ.aG,bV v1.1.bf,bI v1.1.bO])),(2,some (.box [ak g1.2.2.2.1,av g1.2.2.2.2.1,ak g1.2.2.2.2.2.1,bn g1.2.2.2.2.2.2.1,av g1.2.2.2.2.2.2.2.1,av g1.2.2.2.2.2.2.2.2.1])),(3,some (.box [ak g2.2.2.2.2.1,av g2.2.2.2.2.2.1,ak g2.2.2.2.2.2.2.1,bn g2.2.2.2.2.2.2.2.1,av g2.2.2.2.2.2.2.2.2.1,av g2.2.2.2.2.2.2.2.2.2])),(4,some (.row 1 g1.2.2.2.2.2.2.2.2.2.length (bA iV 0 g1.2.2.2.2.2.2.2.2.2)))],5⟩) [(4,some 5)] [62] <|λ dR g2 hm=>si hm (λ _ hm=>ck [19,34] (zi v1 v2 g1 g2 dR) r (λ g5=>⟨[(0,.ptr 0 0 0),(2,.ptr 1 0 0),(3,dB v2.1),(4,.ptr 2 0 0),(5,.ptr 3 0 0),(6,ak g2.1),(10,.dF 4 0 g1.2.2.2.2.2.2.2.2.2.length false),(16,iV (g1.2.2.2.2.2.2.2.2.2.getD g2.2.1.toNat 0)),(73,.dF 4 0 g1.2.2.2.2.2.2.2.2.2.length false),(74,iV (g1.2.2.2.2.2.2.2.2.2.length:Int)),(75,iV g2.2.1)],[(0,some (.box [ak g2.2.2.1,iV g2.2.2.2.1])),(1,some (.box [aU v1.1.bT,aT v1.1.bD,iV v1.1.aQ.dz,aX v1.1.aQ.aG,bV v1.1.bf,bI v1.1.bO])),(2,some (.box [ak g1.2.2.2.1,av g1.2.2.2.2.1,ak g1.2.2.2.2.2.1,bn g1.2.2.2.2.2.2.1,av g1.2.2.2.2.2.2.2.1,av g1.2.2.2.2.2.2.2.2.1])),(3,some (.box [ak g2.2.2.2.2.1,av g2.2.2.2.2.2.1,ak g2.2.2.2.2.2.2.1,bn g2.2.2.2.2.2.2.2.1,av g2.2.2.2.2.2.2.2.2.1,av g2.2.2.2.2.2.2.2.2.2])),(4,some (.row 1 g1.2.2.2.2.2.2.2.2.2.length (bA iV 0 g1.2.2.2.2.2.2.2.2.2)))],5⟩) (sn hm λ _ hm=>le hm) λ g5 hm=>sq hm bS λ v16 hm=>si hm (λ _ hm=>sq hm Rm λ v17 hm=>si hm (λ _ hm=>sq hm Co λ v18 hm=>sn hm λ _ hm=>le hm) λ _ hm=>sn hm λ _ hm=>le hm) λ _ hm=>sn hm λ _ hm=>le hm) λ _ hm=>sn hm λ _ hm=>U5 [19,34] hm (λ g6=>⟨[(0,.ptr 0 0 0),(2,.ptr 1 0 0),(3,dB v2.1),(4,.ptr 2 0 0),(5,.ptr 3 0 0),(6,ak g2.1),(10,.dF 4 0 g1.2.2.2.2.2.2.2.2.2.length false),(19,.dF 5 0 g6.2.2.2.2.2.2.2.length false),(101,iV (v2.1.length:Int)),(102,iV g6.1)],[(0,some (.box [ak g2.2.2.1,iV g2.2.2.2.1])),(1,some (.box [aU v1.1.bT,aT v1.1.bD,iV v1.1.aQ.dz,aX v1.1.aQ.aG,bV v1.1.bf,bI v1.1.bO])),(2,some (.box [ak g1.2.2.2.1,av g1.2.2.2.2.1,ak g1.2.2.2.2.2.1,bn g1.2.2.2.2.2.2.1,av g1.2.2.2.2.2.2.2.1,av g1.2.2.2.2.2.2.2.2.1])),(3,some (.box [ak g6.2.1,av g6.2.2.1,ak g6.2.2.2.1,bn g6.2.2.2.2.1,av g6.2.2.2.2.2.1,av g6.2.2.2.2.2.2.1])),(4,some (.row 1 g1.2.2.2.2.2.2.2.2.2.length (bA iV 0 g1.2.2.2.2.2.2.2.2.2))),(5,some (.row 1 g6.2.2.2.2.2.2.2.length (bA iV 0 g6.2.2.2.2.2.2.2)))],6⟩) [(5,some 21)] [] <|λ jE g6 hm=>si hm (λ _ hm=>sq hm yS λ v23 hm=>sq hm YX λ v24 hm=>si hm (λ _ hm=>s2 hm λ _ _ hm=>lc [(5,some 238)] [] hm) λ _ hm=>sn hm λ _ hm=>le hm) λ _ hm=>ck [19,34] (oM v1 v2 g2) r (λ g7=>⟨[(2,.ptr 1 0 0),(3,dB v2.1),(4,.ptr 2 0 0),(5,.ptr 3 0 0),(6,ak g2.1)],[(0,some (.box [ak g7.1,iV g7.2.1])),(1,some (.box [aU v1.1.bT,aT v1.1.bD,iV v1.1.aQ.dz,aX v1.1.aQ.aG,bV v1.1.bf,bI v1.1.bO])),(2,some (.box [ak g7.2.2.1,av g7.2.2.2.1,ak g7.2.2.2.2.1,bn g7.2.2.2.2.2.1,av g7.2.2.2.2.2.2.1,av g7.2.2.2.2.2.2.2.1])),(3,some (.box [ak g7.2.2.2.2.2.2.2.2.1,av g7.2.2.2.2.2.2.2.2.2.1,ak g7.2.2.2.2.2.2.2.2.2.2.1,bn g7.2.2.2.2.2.2.2.2.2.2.2.1,av g7.2.2.2.2.2.2.2.2.2.2.2.2.1,av g7.2.2.2.2.2.2.2.2.2.2.2.2.2]))],4⟩) (sq hm bS λ v26 hm=>si hm (λ _ hm=>le hm) λ _ hm=>le hm) λ g7 hm=>by cases hm;exact re
end Go.Proofs.YtifekdmmpbcdgaaGreatDoor

/- A part of the proof. -/
import Derived.Test.YtnbjfoeapbncjaaGreatDoorA6
set_option maxHeartbeats 20000000
set_option linter.unusedVariables false
set_option linter.unusedSimpArgs false
namespace Go.Proofs.YtnbjfoeapbncjaaGreatDoor
open Go.Ab
set_option maxRecDepth 100000
set_option maxHeartbeats 20000000
variable {b_:aW} {l_:List ay}
theorem lQ {r:Int} (m:kW b_ l_ r):S 26 [gP b_,bC l_] [] (iV r) [] :=sp Tryz.func26 rfl<|sq m LA λ v1 m=>si m (λ _ m=>by cases m;exact re) λ _ m=>si m (λ _ m=>by cases m;exact re) λ _ m=>l0 m (λ g1=>⟨[(1,bC l_),(2,.ptr 0 0 0),(17,bC l_),(18,iV (l_.length:Int)),(19,iV g1)],[(0,some (.box [aY b_.bM,aQ b_.aT,iV b_.aU.bT,aX b_.aU.aF,bV b_.bg,bG b_.bF]))],1⟩) <|λ av g1 m=>si m (λ _ m=>sn m λ _ m=>sq m Oi λ v4 m=>si m (λ _ m=>by cases m;exact re) λ _ m=>sn m λ _ m=>le m) λ _ m=>by cases m;exact re
variable {ak:List Int}
theorem LB {r:Int} (m:MP b_ l_ ak r):S 155 [gP b_,bC l_,au ak] [] (iV r) [] :=sp Tryz.func155 rfl<|sq m lQ λ v1 m=>by
 have c1:=m.1
 have m:=m.2
 refine aj (λ q=>Bool.noConfusion (c1.symm.trans q)) (λ _=>?_)
 (conv=>whnf)
 refine aP (ct:=[]) bO dk m (λ g1=>⟨[(1,bC l_),(2,au ak),(16,au ak),(17,iV (ak.length:Int)),(18,iV g1)],[],0⟩) [] [] ⟨rfl,⟨sr,sr,sr,r2,r2,trivial⟩,trivial⟩ ?_
 intro av g1 m
 (conv=>whnf)
 refine dI m (λ c6 m=>?_) (λ c6 m=>?_)
 ·(conv=>whnf)
  refine ah m λ h7 m=>?_
  (conv=>whnf)
  refine ah m λ h8 m=>?_
  (conv=>whnf)
  refine aI m λ v4 hv4 m=>?_
  refine ⟨_,_,(λ q0=>((bR (hv4 q0)).le ⟨(.sl oz (λ _=>rfl) nofun (lF (f:=iV) (d:=0) (by first | omega | exact Nat.min_le_left _ _ | exact Nat.le_trans (Nat.min_le_left _ _) om | (simp; omega)))),.refl _,trivial⟩ trivial)),?_⟩
  (conv=>whnf)
  have c7:=m.1
  have m:=m.2
  refine aj (λ q=>Bool.noConfusion (c7.symm.trans q)) (λ _=>?_)
  (conv=>whnf)
  refine ah m λ h9 m=>?_
  (conv=>whnf)
  exact ⟨(g1+(1:Int)),[],[],m,⟨rfl,⟨sr,sr,sr,r2,r2,trivial⟩,trivial⟩⟩
 ·(conv=>whnf)
  have m:r=(0:Int):=m
  subst m
  refine ⟨[],[],?_⟩
  (conv=>whnf)
  exact ⟨⟨rfl,trivial,trivial⟩,r2⟩
variable {r:Bool}
theorem DY (m:Bg l_ ak r):S 303 [bC l_,au ak] [] (.bool r) [] :=sp Tryz.func303 rfl<|l0 m (λ g1=>⟨[(0,bC l_),(1,au ak),(7,au ak),(8,iV (ak.length:Int)),(9,iV g1)],[],0⟩) <|λ av g1 m=>si m (λ _ m=>s2 m λ _ _ m=>sq m jC λ v5 m=>sn m λ _ m=>sb m λ v6 hv6 m=>cl (λ q0=>((bR (hv6 q0)).le ⟨(.sl oz (λ _=>rfl) nofun (lF (f:=iV) (d:=0) (by first | omega | exact Nat.min_le_left _ _ | exact Nat.le_trans (Nat.min_le_left _ _) om | (simp; omega)))),.refl _,trivial⟩ trivial))<|by
 have c6:=m.1
 have m:=m.2
 refine aj (λ q=>Bool.noConfusion (c6.symm.trans q)) (λ _=>?_)
 (conv=>whnf)
 refine ah m λ h12 m=>?_
 (conv=>whnf)
 exact ⟨(g1+(1:Int)),[],[],m,⟨rfl,⟨sr,sr,sr,r2,r2,trivial⟩,trivial⟩⟩) λ _ m=>by cases m;exact re
theorem Aw {s_:dZ} (m:xL s_ r):S 289 [Af s_] [] (.bool r) [] :=sp Tryz.func289 rfl<|sq m DY λ v1 m=>by
 have c1:=m.1
 have m:=m.2
 refine aj (λ q=>Bool.noConfusion (c1.symm.trans q)) (λ _=>?_)
 (conv=>whnf)
 refine aP (ct:=[]) bO dk m (λ g1=>⟨[(1,.ptr 0 0 0),(4,.ptr 1 0 0),(67,aY s_.aK.bM),(68,iV (s_.aK.bM.length:Int)),(69,iV (0:Int))],[(0,some (.box [aY s_.aK.bM,aQ s_.aK.aT,iV s_.aK.aU.bT,aX s_.aK.aU.aF,bV s_.aK.bg,bG s_.aK.bF,bC s_.dS,au s_.bB,au s_.aH.dB,aN s_.aH.dF.On,au s_.aH.dF.dX,bP s_.aH.dR,aN s_.aH.dh,aN s_.aH.dJ,.bool s_.gG])),(1,some (.box [au s_.aH.dB,aN s_.aH.dF.On,au s_.aH.dF.dX,bP s_.aH.dR,aN s_.aH.dh,aN s_.aH.dJ]))],2⟩) [(1,some 112)] [] ⟨rfl,⟨r4,r4,sr,r2,r2,trivial⟩,⟨⟨sr,sr,r2,sr,sr,sr,sr,sr,sr,sr,sr,sr,sr,sr,rfl,trivial⟩,⟨sr,sr,sr,sr,sr,sr,trivial⟩,trivial⟩⟩ ?_
 intro av g1 m
 (conv=>whnf)
 have c3:=m.1
 have m:=m.2
 refine aj (λ q=>Bool.noConfusion (c3.symm.trans q)) (λ _=>?_)
 (conv=>whnf)
 refine aP (ct:=[]) bO dk m (λ g2=>⟨[(1,.ptr 0 0 0),(87,bP s_.aH.dR),(88,iV (s_.aH.dR.length:Int)),(89,iV g2)],[(0,some (.box [aY s_.aK.bM,aQ s_.aK.aT,iV s_.aK.aU.bT,aX s_.aK.aU.aF,bV s_.aK.bg,bG s_.aK.bF,bC s_.dS,au s_.bB,au s_.aH.dB,aN s_.aH.dF.On,au s_.aH.dF.dX,bP s_.aH.dR,aN s_.aH.dh,aN s_.aH.dJ,.bool s_.gG]))],1⟩) [] [] ⟨rfl,⟨r4,sr,r2,r2,trivial⟩,⟨⟨sr,sr,r2,sr,sr,sr,sr,sr,sr,sr,sr,sr,sr,sr,rfl,trivial⟩,trivial⟩⟩ ?_
 intro dL g2 m
 (conv=>whnf)
 refine dI m (λ c8 m=>?_) (λ c8 m=>?_)
 ·(conv=>whnf)
  refine ah m λ h7 m=>?_
  (conv=>whnf)
  refine ah m λ h8 m=>?_
  (conv=>whnf)
  refine aI m λ v4 hv4 m=>?_
  refine ⟨_,_,(jC hv4),?_⟩
  (conv=>whnf)
  have c9:=m.1
  have m:=m.2
  refine aj (λ q=>Bool.noConfusion (c9.symm.trans q)) (λ _=>?_)
  (conv=>whnf)
  refine ah m λ h9 m=>?_
  (conv=>whnf)
  exact ⟨(g2+(1:Int)),[],[],m,⟨rfl,⟨r4,sr,r2,r2,trivial⟩,⟨⟨sr,sr,r2,sr,sr,sr,sr,sr,sr,sr,sr,sr,sr,sr,rfl,trivial⟩,trivial⟩⟩⟩
 ·(conv=>whnf)
  have m:r=true:=m
  subst m
  refine ⟨[],[],?_⟩
  (conv=>whnf)
  exact ⟨⟨rfl,trivial,trivial⟩,rfl⟩
theorem sQ {s_:List bX} {f_:List bf} {r:Int} (m:nQ s_ f_ r):S 275 [dN s_,.fn 234 [.ro [aY f_]]] [] (iV r) [] :=sp Tryz.func275 rfl<|l0 m (λ g1=>⟨[(0,dN s_),(1,.fn 234 [.ro [aY f_]]),(7,iV (s_.length:Int)),(8,iV (0:Int))],[],0⟩) <|λ av g1 m=>by
 have c2:=m.1
 have m:=m.2
 refine aj (λ q=>Bool.noConfusion (c2.symm.trans q)) (λ _=>?_)
 (conv=>whnf)
 have m:r=(-1:Int):=m
 subst m
 refine ⟨[],[],?_⟩
 (conv=>whnf)
 exact ⟨⟨rfl,trivial,trivial⟩,r2⟩
theorem qx {s_:List bX} {f_:List bf} (m:lI s_ f_ r):S 233 [dN s_,.fn 234 [.ro [aY f_]]] [] (.bool r) [] :=sp Tryz.func233 rfl<|sq m sQ λ v1 m=>by cases m;exact re
variable {m_:List bX}
theorem yx {l_:List bf} (m:Al l_ m_ r):S 177 [aY l_,dN m_] [] (.bool r) [] :=sp Tryz.func177 rfl<|sq m kJ λ v1 m=>sb m λ v2 hv2 m=>cl (λ q0=>(qx (hv2 q0)))<|by cases m;exact re
variable {s_:List Int}
theorem pO {l_:List bf} (m:yH l_ s_ r):S 199 [aY l_,au s_] [] (.bool r) [] :=sp Tryz.func199 rfl<|by
 have c1:=m.1
 have m:=m.2
 refine aj (λ q=>Bool.noConfusion (c1.symm.trans q)) (λ _=>?_)
 (conv=>whnf)
 refine aP (ct:=[]) bO dk m (λ g1=>⟨[(0,aY l_),(12,au s_),(13,iV (s_.length:Int)),(14,iV (0:Int))],[],0⟩) [] [] ⟨rfl,⟨sr,sr,r2,r2,trivial⟩,trivial⟩ ?_
 intro av g1 m
 (conv=>whnf)
 have c3:=m.1
 have m:=m.2
 refine aj (λ q=>Bool.noConfusion (c3.symm.trans q)) (λ _=>?_)
 (conv=>whnf)
 have m:r=true:=m
 subst m
 refine ⟨[],[],?_⟩
 (conv=>whnf)
 exact ⟨⟨rfl,trivial,trivial⟩,rfl⟩
theorem zM {l_:List bf} {r:List gB} (m:xM l_ s_ r):S 274 [aY l_,au s_] [] (nW r) [] :=sp Tryz.func274 rfl<|sn m λ _ m=>lf m (λ g1=>⟨[(0,aY l_),(1,au s_),(5,.dA 0 0 g1.length false),(13,aY l_),(14,iV (l_.length:Int)),(15,iV (0:Int))],[(0,some (.row 2 g1.length (bD abT xE g1)))],1⟩) [(0,some 48)] [] <|λ av g1 m=>by
 have c2:=m.1
 have m:=m.2
 refine aj (λ q=>Bool.noConfusion (c2.symm.trans q)) (λ _=>?_)
 (conv=>whnf)
 have m:r=g1:=m
 subst m
 refine ⟨[0],[],?_⟩
 (conv=>whnf)
 exact ⟨⟨rfl,trivial,trivial⟩,sf⟩
theorem qy {s_:List bX} {f_:List gB} {r:Int} (m:lJ s_ f_ r):S 275 [dN s_,.fn 309 [.ro [nW f_]]] [] (iV r) [] :=sp Tryz.func275 rfl<|l0 m (λ g1=>⟨[(0,dN s_),(1,.fn 309 [.ro [nW f_]]),(7,iV (s_.length:Int)),(8,iV (0:Int))],[],0⟩) <|λ av g1 m=>by
 have c2:=m.1
 have m:=m.2
 refine aj (λ q=>Bool.noConfusion (c2.symm.trans q)) (λ _=>?_)
 (conv=>whnf)
 have m:r=(-1:Int):=m
 subst m
 refine ⟨[],[],?_⟩
 (conv=>whnf)
 exact ⟨⟨rfl,trivial,trivial⟩,r2⟩
theorem nZ {s_:List bX} {f_:List gB} (m:kg s_ f_ r):S 233 [dN s_,.fn 309 [.ro [nW f_]]] [] (.bool r) [] :=sp Tryz.func233 rfl<|sq m qy λ v1 m=>by cases m;exact re
theorem LC {l_:List bf} (m:MQ l_ s_ m_ r):S 304 [aY l_,au s_,dN m_] [] (.bool r) [] :=sp Tryz.func304 rfl<|sq m yx λ v1 m=>sb m λ v2 hv2 m=>cl (λ q0=>(pO (hv2 q0)))<|by
 have c1:=m.1
 have m:=m.2
 refine aj (λ q=>Bool.noConfusion (c1.symm.trans q)) (λ _=>?_)
 (conv=>whnf)
 refine aI m λ v3 hv3 m=>?_
 refine ⟨_,_,(zM hv3),?_⟩
 (conv=>whnf)
 refine aP (ct:=[]) bO dk m (λ g1=>⟨[(2,dN m_),(7,.ptr 0 0 0),(23,aY l_),(24,iV (l_.length:Int)),(25,iV (0:Int))],[(0,some (.box [nW v3]))],1⟩) [(0,some 224)] [] ⟨rfl,⟨sr,r4,sr,r2,r2,trivial⟩,⟨⟨sr,trivial⟩,trivial⟩⟩ ?_
 intro av g1 m
 (conv=>whnf)
 have c3:=m.1
 have m:=m.2
 refine aj (λ q=>Bool.noConfusion (c3.symm.trans q)) (λ _=>?_)
 (conv=>whnf)
 refine aI m λ v4 hv4 m=>?_
 refine ⟨_,_,(nZ hv4),?_⟩
 (conv=>whnf)
 have m:r=(!v4):=m
 subst m
 refine ⟨[],[],?_⟩
 (conv=>whnf)
 exact ⟨⟨rfl,trivial,trivial⟩,rfl⟩
theorem zN {s_:dZ} (m:wu s_ r):S 290 [Af s_] [] (.bool r) [] :=sp Tryz.func290 rfl<|sb m λ v1 hv1 m=>cl ((LC hv1).le ⟨.refl _,.refl _,(.sl rfl (λ h=>absurd rfl h) nofun (λ _ h=>absurd h (Nat.not_lt_zero _))),trivial⟩ trivial)<|by cases m;exact re
theorem LD {l_:List bf} {r:List gB×Int} (m:Dh l_ s_ r):S 229 [aY l_,au s_] [] (.jg [nW r.1,iV r.2]) [] :=sp Tryz.func229 rfl<|sq m kJ λ v1 m=>by
 have c1:=m.1
 have m:=m.2
 refine aj (λ q=>Bool.noConfusion (c1.symm.trans q)) (λ _=>?_)
 (conv=>whnf)
 refine aI m λ v2 hv2 m=>?_
 refine ⟨_,_,(pO hv2),?_⟩
 (conv=>whnf)
 have c2:=m.1
 have m:=m.2
 refine aj (λ q=>Bool.noConfusion (c2.symm.trans q)) (λ _=>?_)
 (conv=>whnf)
 refine aI m λ v3 hv3 m=>?_
 refine ⟨_,_,(zM hv3),?_⟩
 (conv=>whnf)
 have m:r=(v3,(0:Int)):=m
 subst m
 refine ⟨[],[],?_⟩
 (conv=>whnf)
 exact ⟨⟨rfl,trivial,trivial⟩,⟨sf,r2,trivial⟩⟩
theorem zO {s_:dZ} (m:wz s_ r):S 291 [Af s_] [] (.bool r) [] :=sp Tryz.func291 rfl<|sq m LD λ v1 m=>by
 have c1:=m.1
 have m:=m.2
 refine aj (λ q=>Bool.noConfusion (c1.symm.trans q)) (λ _=>?_)
 (conv=>whnf)
 refine aP (ct:=[]) bO dk m (λ g1=>⟨[(1,.ptr 0 0 0),(3,nW v1.1),(23,au s_.bB),(24,iV (s_.bB.length:Int)),(25,iV g1)],[(0,some (.box [aY s_.aK.bM,aQ s_.aK.aT,iV s_.aK.aU.bT,aX s_.aK.aU.aF,bV s_.aK.bg,bG s_.aK.bF,bC s_.dS,au s_.bB,au s_.aH.dB,aN s_.aH.dF.On,au s_.aH.dF.dX,bP s_.aH.dR,aN s_.aH.dh,aN s_.aH.dJ,.bool s_.gG]))],1⟩) [] [] ⟨rfl,⟨r4,sr,sr,r2,r2,trivial⟩,⟨⟨sr,sr,r2,sr,sr,sr,sr,sr,sr,sr,sr,sr,sr,sr,rfl,trivial⟩,trivial⟩⟩ ?_
 intro av g1 m
 (conv=>whnf)
 refine dI m (λ c8 m=>?_) (λ c8 m=>?_)
 ·(conv=>whnf)
  refine ah m λ h7 m=>?_
  (conv=>whnf)
  refine ah m λ h8 m=>?_
  (conv=>whnf)
  refine aP (ct:=[]) bO dk m (λ g4=>⟨[(1,.ptr 0 0 0),(3,nW v1.1),(23,au s_.bB),(24,iV (s_.bB.length:Int)),(25,iV g1),(34,dN ((s_.dS.getD ((s_.bB.getD g1.toNat 0).toNat) bE).eH)),(35,iV ((((s_.dS.getD ((s_.bB.getD g1.toNat 0).toNat) bE).eH).length:Nat):Int)),(36,iV (0:Int))],[(0,some (.box [aY s_.aK.bM,aQ s_.aK.aT,iV s_.aK.aU.bT,aX s_.aK.aU.aF,bV s_.aK.bg,bG s_.aK.bF,bC s_.dS,au s_.bB,au s_.aH.dB,aN s_.aH.dF.On,au s_.aH.dF.dX,bP s_.aH.dR,aN s_.aH.dh,aN s_.aH.dJ,.bool s_.gG]))],1⟩) [] [] ⟨rfl,⟨r4,sr,sr,r2,r2,sr,r2,r2,trivial⟩,⟨⟨sr,sr,r2,sr,sr,sr,sr,sr,sr,sr,sr,sr,sr,sr,rfl,trivial⟩,trivial⟩⟩ ?_
  intro nN g4 m
  (conv=>whnf)
  have c10:=m.1
  have m:=m.2
  refine aj (λ q=>Bool.noConfusion (c10.symm.trans q)) (λ _=>?_)
  (conv=>whnf)
  refine ah m λ h9 m=>?_
  (conv=>whnf)
  exact ⟨(g1+(1:Int)),[],[],m,⟨rfl,⟨r4,sr,sr,r2,r2,trivial⟩,⟨⟨sr,sr,r2,sr,sr,sr,sr,sr,sr,sr,sr,sr,sr,sr,rfl,trivial⟩,trivial⟩⟩⟩
 ·(conv=>whnf)
  have m:r=true:=m
  subst m
  refine ⟨[],[],?_⟩
  (conv=>whnf)
  exact ⟨⟨rfl,trivial,trivial⟩,rfl⟩
theorem Ay {s_:List Bool} {r:List Bool} (m:xO s_ r):S 111 [aN s_] [] (.dA 0 0 r.length false) [.row 1 r.length (bD AV.bool false r)] :=by
 obtain ⟨h1,m⟩:=m
 have m:r=s_:=m
 subst m
 refine jX (ct:=[1]) bO Tryz.func111 rfl rfl (Nat.le_of_ble_eq_true rfl) dk (Nat.le_of_ble_eq_true rfl) ?_
 (conv=>whnf)
 refine PU (ct:=[]) bO (bO.slice (t:=23) (e:=4) rfl rfl rfl).1 dk dk dk dk dk [(2,.iK),(0,aN r)] [] 16 rfl ?_ (λ hn=>?_) ?_
 ·exact rfl
 ·(conv=>whnf)
  have hn:r.length=0:=hn
  refine ⟨[],[(0,none)],?_⟩
  (conv=>whnf)
  exact ⟨⟨rfl,trivial,⟨hn,trivial⟩⟩,⟨rfl,rfl,rfl,rfl,rfl,hn⟩⟩
 ·(conv=>whnf)
  refine ⟨by rw [Nat.zero_add]; exact h1,?_⟩
  (conv=>whnf)
  refine ⟨[],[(0,some 48)],?_⟩
  (conv=>whnf)
  exact ⟨⟨rfl,trivial,⟨⟨rfl,Nat.zero_add _,gD (l:=[]) rfl (λ _ h=>absurd h (Nat.not_lt_zero _)) rfl (λ _ _=>.refl _)⟩,trivial⟩⟩,⟨rfl,rfl,rfl,Nat.zero_add _,nofun⟩⟩
theorem rO {r:List Int} (m:slices_Clone_int s_ r):S 23 [au s_] [] (.dA 0 0 r.length false) [.row 1 r.length (bD iV 0 r)] :=by
 obtain ⟨h1,m⟩:=m
 have m:r=s_:=m
 subst m
 refine jX (ct:=[1]) bO Tryz.func23 rfl rfl (Nat.le_of_ble_eq_true rfl) dk (Nat.le_of_ble_eq_true rfl) ?_
 (conv=>whnf)
 refine PU (ct:=[]) bO (bO.slice (t:=22) (e:=3) rfl rfl rfl).1 dk dk dk dk dk [(2,.iK),(0,au r)] [] 16 rfl ?_ (λ hn=>?_) ?_
 ·exact rfl
 ·(conv=>whnf)
  have hn:r.length=0:=hn
  refine ⟨[],[(0,none)],?_⟩
  (conv=>whnf)
  exact ⟨⟨rfl,trivial,⟨hn,trivial⟩⟩,⟨rfl,rfl,rfl,rfl,rfl,hn⟩⟩
 ·(conv=>whnf)
  refine ⟨by rw [Nat.zero_add]; exact h1,?_⟩
  (conv=>whnf)
  refine ⟨[],[(0,some 48)],?_⟩
  (conv=>whnf)
  exact ⟨⟨rfl,trivial,⟨⟨rfl,Nat.zero_add _,gD (l:=[]) rfl (λ _ h=>absurd h (Nat.not_lt_zero _)) rfl (λ _ _=>.refl _)⟩,trivial⟩⟩,⟨rfl,rfl,rfl,Nat.zero_add _,nofun⟩⟩
theorem Rc {r_:dO} {r:List Bool×List Int} (m:Tc r_ r):S 110 [Cz r_] [] (.agg [.dA 0 0 r.1.length false,.dA 1 0 r.2.length false]) [.row 1 r.1.length (bD AV.bool false r.1),.row 1 r.2.length (bD iV 0 r.2)] :=sp Tryz.func110 rfl<|sq m Ay λ v1 m=>sq m rO λ v2 m=>by cases m;exact rt [] [(0,some 64),(1,some 112)]
theorem JF {l_:List aL} {r_:dO} (m:Iy l_ r_ r):S 272 [aQ l_,Cz r_] [] (.bool r) [] :=sp Tryz.func272 rfl<|sq m mg λ v1 m=>by
 have c1:=m.1
 have m:=m.2
 refine aj (λ q=>Bool.noConfusion (c1.symm.trans q)) (λ _=>?_)
 (conv=>whnf)
 refine aP (ct:=[]) bO dk m (λ g1=>⟨[(0,aQ l_),(27,au r_.dX),(28,iV (r_.dX.length:Int)),(29,iV (0:Int))],[],0⟩) [] [] ⟨rfl,⟨sr,sr,r2,r2,trivial⟩,trivial⟩ ?_
 intro av g1 m
 (conv=>whnf)
 have c3:=m.1
 have m:=m.2
 refine aj (λ q=>Bool.noConfusion (c3.symm.trans q)) (λ _=>?_)
 (conv=>whnf)
 have m:r=true:=m
 subst m
 refine ⟨[],[],?_⟩
 (conv=>whnf)
 exact ⟨⟨rfl,trivial,trivial⟩,rfl⟩
theorem uh {s_:List bU} {f_:List aL} {r:Int} (m:jZ s_ f_ r):S 261 [eD s_,.fn 195 [.ro [aQ f_]]] [] (iV r) [] :=sp Tryz.func261 rfl<|l0 m (λ g1=>⟨[(0,eD s_),(1,.fn 195 [.ro [aQ f_]]),(7,iV (s_.length:Int)),(8,iV (0:Int))],[],0⟩) <|λ av g1 m=>by
 have c2:=m.1
 have m:=m.2
 refine aj (λ q=>Bool.noConfusion (c2.symm.trans q)) (λ _=>?_)
 (conv=>whnf)
 have m:r=(-1:Int):=m
 subst m
 refine ⟨[],[],?_⟩
 (conv=>whnf)
 exact ⟨⟨rfl,trivial,trivial⟩,r2⟩
theorem qR {s_:List bU} {f_:List aL} (m:l5 s_ f_ r):S 194 [eD s_,.fn 195 [.ro [aQ f_]]] [] (.bool r) [] :=sp Tryz.func194 rfl<|sq m uh λ v1 m=>by cases m;exact re
variable {d_:List bU}
theorem yA {l_:List aL} (m:Am l_ d_ r):S 129 [aQ l_,eD d_] [] (.bool r) [] :=sp Tryz.func129 rfl<|sq m mg λ v1 m=>sb m λ v2 hv2 m=>cl (λ q0=>(qR (hv2 q0)))<|by cases m;exact re
theorem je {s_:List aL} {r:List aL} (m:iQ s_ r):S 168 [aQ s_] [] (.fn 230 [.ro [aQ r]]) [] :=by
 have m:r=s_:=m
 subst m
 exact Si r
theorem sS {l_:List aL} {r:List Bool} (m:xP l_ d_ r):S 170 [aQ l_,eD d_] [] (aN r) [] :=spc [11] Tryz.func170 rfl<|sn m λ _ m=>lfc [11] m (λ g1=>⟨[(0,aQ l_),(5,.ptr 0 0 0),(13,eD d_),(14,iV (d_.length:Int)),(15,iV g1.1)],[(0,some (.box [.dA 1 0 g1.2.length false])),(1,some (.row 1 g1.2.length (bD AV.bool false g1.2)))],2⟩) [(0,some 64),(1,some 48)] [] <|λ av g1 m=>si m (λ _ m=>s2 m λ _ _ m=>sn m λ _ m=>le m) λ _ m=>sq m je λ v1 m=>by
 have h11:=m.1
 have m:=m.2
 refine KF (ct:=[11]) (ct':=[11]) bO dk dk dk dk (Lb v1 h11) rfl (by intro v hv; simp at hv; exact ⟨_,hv⟩) m (λ g2=>⟨[(5,.ptr 0 0 0),(25,.fn 230 [.ro [aQ v1]])],[(0,some (.box [.dA 1 0 g2.length false])),(1,some (.row 1 g2.length (bD AV.bool false g2)))],2⟩) (λ k2 g2=>⟨[(5,.ptr 0 0 0),(8,iV ((v1.length - 1 - k2:Nat):Int)),(9,.ptr 2 0 0)],[(0,some (.box [.dA 1 0 g2.length false])),(1,some (.row 1 g2.length (bD AV.bool false g2))),(2,some (.box [iV ((v1.getD (v1.length - 1 - k2) aZ).dx),au ((v1.getD (v1.length - 1 - k2) aZ).dY),iV ((v1.getD (v1.length - 1 - k2) aZ).iI),iV ((v1.getD (v1.length - 1 - k2) aZ).jT),.bool ((v1.getD (v1.length - 1 - k2) aZ).nk)]))],3⟩) (λ _ _=>r2) [] ⟨rfl,⟨r4,⟨rfl,Fg.refl _,trivial⟩,trivial⟩,⟨⟨⟨rfl,rfl,rfl,rfl,nofun⟩,trivial⟩,⟨rfl,rfl,(λ _ _=>.refl _)⟩,trivial⟩⟩ ?_ ?_ ?_
 ·intro k2 ll g2 hk
  refine ⟨Nat.le_of_ble_eq_true rfl,?_⟩
  (conv=>whnf)
  exact ⟨[(2,some 18)],⟨rfl,⟨r4,r2,r4,trivial⟩,⟨⟨⟨rfl,rfl,rfl,rfl,nofun⟩,trivial⟩,⟨rfl,rfl,(λ _ _=>.refl _)⟩,⟨r2,sr,r2,r2,rfl,trivial⟩,trivial⟩⟩⟩
 ·intro k2 ll dL g2 hk m
  (conv=>whnf)
  refine SL (ct:=[11]) bO dk dk (Bh v1 dL k2) r (λ g5=>⟨[(5,.ptr 0 0 0),(8,iV ((v1.length - 1 - k2:Nat):Int)),(9,.ptr 2 0 0)],[(0,some (.box [.dA 1 0 g5.length false])),(1,some (.row 1 g5.length (bD AV.bool false g5))),(2,some (.box [iV ((v1.getD (v1.length - 1 - k2) aZ).dx),au ((v1.getD (v1.length - 1 - k2) aZ).dY),iV ((v1.getD (v1.length - 1 - k2) aZ).iI),iV ((v1.getD (v1.length - 1 - k2) aZ).jT),.bool ((v1.getD (v1.length - 1 - k2) aZ).nk)]))],3⟩) ?_ (λ g5 m=>?_)
  ·(conv=>whnf)
   refine ah m λ h28 m=>?_
   (conv=>whnf)
   refine ah m λ h29 m=>?_
   (conv=>whnf)
   exact ⟨(g2.set (((v1.length - 1 - k2:Nat):Int).toNat) ((g2.getD (((v1.length - 1 - k2:Nat):Int).toNat) false)||(v1.getD (v1.length - 1 - k2) aZ).nk)),[],[],m,⟨rfl,⟨r4,r2,r4,trivial⟩,⟨⟨⟨rfl,rfl,rfl,oz,nofun⟩,trivial⟩,⟨rfl,oz,(oN (λ _ _=>.refl _) rfl (.refl _))⟩,⟨r2,sr,r2,r2,rfl,trivial⟩,trivial⟩⟩⟩
  ·(conv=>whnf)
   refine ah m λ h26 m=>?_
   (conv=>whnf)
   refine dI m (λ c6 m=>?_) (λ c6 m=>?_)
   ·(conv=>whnf)
    refine ah m λ h27 m=>?_
    (conv=>whnf)
    exact ⟨(g5.set (((v1.getD (v1.length - 1 - k2) aZ).dx).toNat) true),[],m,⟨rfl,⟨r4,⟨rfl,Fg.refl _,trivial⟩,trivial⟩,⟨⟨⟨rfl,rfl,rfl,oz,nofun⟩,trivial⟩,⟨rfl,oz,(oN (λ _ _=>.refl _) rfl (.refl _))⟩,trivial⟩⟩⟩
   ·(conv=>whnf)
    exact ⟨g5,[],m,⟨rfl,⟨r4,⟨rfl,Fg.refl _,trivial⟩,trivial⟩,⟨⟨⟨rfl,rfl,rfl,rfl,nofun⟩,trivial⟩,⟨rfl,rfl,(λ _ _=>.refl _)⟩,trivial⟩⟩⟩
 ·intro g2 m
  (conv=>whnf)
  have m:r=g2:=m
  subst m
  refine ⟨[1],[],?_⟩
  (conv=>whnf)
  exact ⟨⟨rfl,trivial,trivial⟩,sf⟩
theorem JG {l_:List aL} {r:List Int} (m:Iz l_ d_ r):S 92 [aQ l_,eD d_] [] (au r) [] :=sp Tryz.func92 rfl<|sn m λ _ m=>lf m (λ g1=>⟨[(0,aQ l_),(5,.ptr 0 0 0),(13,eD d_),(14,iV (d_.length:Int)),(15,iV g1.1)],[(0,some (.box [.dA 1 0 g1.2.length false])),(1,some (.row 1 g1.2.length (bD iV 0 g1.2)))],2⟩) [(0,some 64),(1,some 48)] [] <|λ av g1 m=>si m (λ _ m=>s2 m λ _ _ m=>s2 m λ _ _ m=>sn m λ _ m=>le m) λ _ m=>sq m je λ v1 m=>by
 have h17:=m.1
 have m:=m.2
 refine KF (ct:=[]) (ct':=[]) bO dk dk dk dk (Lb v1 h17) rfl (by intro v hv; simp at hv; exact ⟨_,hv⟩) m (λ g2=>⟨[(5,.ptr 0 0 0),(30,.fn 230 [.ro [aQ v1]])],[(0,some (.box [.dA 1 0 g2.length false])),(1,some (.row 1 g2.length (bD iV 0 g2)))],2⟩) (λ k2 g2=>⟨[(5,.ptr 0 0 0),(8,iV ((v1.length - 1 - k2:Nat):Int)),(9,.ptr 2 0 0)],[(0,some (.box [.dA 1 0 g2.length false])),(1,some (.row 1 g2.length (bD iV 0 g2))),(2,some (.box [iV ((v1.getD (v1.length - 1 - k2) aZ).dx),au ((v1.getD (v1.length - 1 - k2) aZ).dY),iV ((v1.getD (v1.length - 1 - k2) aZ).iI),iV ((v1.getD (v1.length - 1 - k2) aZ).jT),.bool ((v1.getD (v1.length - 1 - k2) aZ).nk)]))],3⟩) (λ _ _=>r2) [] ⟨rfl,⟨r4,⟨rfl,Fg.refl _,trivial⟩,trivial⟩,⟨⟨⟨rfl,rfl,rfl,rfl,nofun⟩,trivial⟩,⟨rfl,rfl,(λ _ _=>.refl _)⟩,trivial⟩⟩ ?_ ?_ ?_
 ·intro k2 ll g2 hk
  refine ⟨Nat.le_of_ble_eq_true rfl,?_⟩
  (conv=>whnf)
  exact ⟨[(2,some 18)],⟨rfl,⟨r4,r2,r4,trivial⟩,⟨⟨⟨rfl,rfl,rfl,rfl,nofun⟩,trivial⟩,⟨rfl,rfl,(λ _ _=>.refl _)⟩,⟨r2,sr,r2,r2,rfl,trivial⟩,trivial⟩⟩⟩
 ·intro k2 ll dL g2 hk m
  (conv=>whnf)
  refine dI m (λ c6 m=>?_) (λ c6 m=>?_)
  ·(conv=>whnf)
   refine ah m λ h26 m=>?_
   (conv=>whnf)
   refine ah m λ h27 m=>?_
   (conv=>whnf)
   refine ah m λ h28 m=>?_
   (conv=>whnf)
   refine ah m λ h29 m=>?_
   (conv=>whnf)
   exact ⟨(g2.set (((v1.getD (v1.length - 1 - k2) aZ).dx).toNat) ((g2.getD (((v1.getD (v1.length - 1 - k2) aZ).dx).toNat) 0)+(g2.getD (((v1.length - 1 - k2:Nat):Int).toNat) 0))),[],m,⟨rfl,⟨r4,⟨rfl,Fg.refl _,trivial⟩,trivial⟩,⟨⟨⟨rfl,rfl,rfl,oz,nofun⟩,trivial⟩,⟨rfl,oz,(oN (λ _ _=>.refl _) rfl (.refl _))⟩,trivial⟩⟩⟩
  ·(conv=>whnf)
   exact ⟨g2,[],m,⟨rfl,⟨r4,⟨rfl,Fg.refl _,trivial⟩,trivial⟩,⟨⟨⟨rfl,rfl,rfl,rfl,nofun⟩,trivial⟩,⟨rfl,rfl,(λ _ _=>.refl _)⟩,trivial⟩⟩⟩
 ·intro g2 m
  (conv=>whnf)
  have m:r=g2:=m
  subst m
  refine ⟨[1],[],?_⟩
  (conv=>whnf)
  exact ⟨⟨rfl,trivial,trivial⟩,sf⟩
theorem qU {s_:List bU} {f0_:List aL} {f1_:List Bool} {f2_:List Int} {r:Int} (m:l6 s_ f0_ f1_ f2_ r):S 261 [eD s_,.fn 273 [.ro [aQ f0_],.ro [aN f1_,au f2_]]] [] (iV r) [] :=sp Tryz.func261 rfl<|l0 m (λ g1=>⟨[(0,eD s_),(1,.fn 273 [.ro [aQ f0_],.ro [aN f1_,au f2_]]),(7,iV (s_.length:Int)),(8,iV (0:Int))],[],0⟩) <|λ av g1 m=>by
 have c2:=m.1
 have m:=m.2
 refine aj (λ q=>Bool.noConfusion (c2.symm.trans q)) (λ _=>?_)
 (conv=>whnf)
 have m:r=(-1:Int):=m
 subst m
 refine ⟨[],[],?_⟩
 (conv=>whnf)
 exact ⟨⟨rfl,trivial,trivial⟩,r2⟩
theorem oK {s_:List bU} {f0_:List aL} {f1_:List Bool} {f2_:List Int} (m:kD s_ f0_ f1_ f2_ r):S 194 [eD s_,.fn 273 [.ro [aQ f0_],.ro [aN f1_,au f2_]]] [] (.bool r) [] :=sp Tryz.func194 rfl<|sq m qU λ v1 m=>by cases m;exact re
theorem yB {l_:List aL} {r_:dO} (m:Ao l_ r_ d_ r):S 225 [aQ l_,Cz r_,eD d_] [] (.bool r) [] :=sp Tryz.func225 rfl<|sq m JF λ v1 m=>sb m λ v2 hv2 m=>cl (λ q0=>(yA (hv2 q0)))<|by
 have c1:=m.1
 have m:=m.2
 refine aj (λ q=>Bool.noConfusion (c1.symm.trans q)) (λ _=>?_)
 (conv=>whnf)
 refine aI m λ v3 hv3 m=>?_
 refine ⟨_,_,(sS hv3),?_⟩
 (conv=>whnf)
 refine aI m λ v4 hv4 m=>?_
 refine ⟨_,_,(JG hv4),?_⟩
 (conv=>whnf)
 refine aP (ct:=[]) bO dk m (λ g1=>⟨[(2,eD d_),(3,.ptr 0 0 0),(4,.ptr 1 0 0),(7,aN v3),(8,au v4),(28,aQ l_),(29,iV (l_.length:Int)),(30,iV (0:Int))],[(0,some (.box [aQ l_])),(1,some (.box [aN r_.On,au r_.dX]))],2⟩) [(1,some 16)] [] ⟨rfl,⟨sr,r4,r4,sr,sr,sr,r2,r2,trivial⟩,⟨⟨sr,trivial⟩,⟨sr,sr,trivial⟩,trivial⟩⟩ ?_
 intro av g1 m
 (conv=>whnf)
 have c3:=m.1
 have m:=m.2
 refine aj (λ q=>Bool.noConfusion (c3.symm.trans q)) (λ _=>?_)
 (conv=>whnf)
 refine aI m λ v5 hv5 m=>?_
 refine ⟨_,_,(oK hv5),?_⟩
 (conv=>whnf)
 have m:r=(!v5):=m
 subst m
 refine ⟨[],[],?_⟩
 (conv=>whnf)
 exact ⟨⟨rfl,trivial,trivial⟩,rfl⟩
theorem xk {s_:dZ} (m:tV s_ r):S 292 [Af s_] [] (.bool r) [] :=sp Tryz.func292 rfl<|lf m (λ g1=>⟨[(1,.ptr 0 0 0),(3,.dA 1 0 g1.2.length false),(7,au s_.bB),(8,iV (s_.bB.length:Int)),(9,iV g1.1)],[(0,some (.box [aY s_.aK.bM,aQ s_.aK.aT,iV s_.aK.aU.bT,aX s_.aK.aU.aF,bV s_.aK.bg,bG s_.aK.bF,bC s_.dS,au s_.bB,au s_.aH.dB,aN s_.aH.dF.On,au s_.aH.dF.dX,bP s_.aH.dR,aN s_.aH.dh,aN s_.aH.dJ,.bool s_.gG])),(1,some (.row 4 g1.2.length (bD H9 fI g1.2)))],2⟩) [(1,none)] [] <|λ av g1 m=>si m (λ _ m=>s2 m λ _ _ m=>s2 m λ _ _ m=>lc [(1,some 178)] [] m) λ _ m=>sq m Rc λ v1 m=>sq m yB λ v2 m=>by cases m;exact re
variable {p_:bI}
theorem LG {l_:List qm} {r:((Nat→Int)×Int)} (m:MR p_ l_ r):S 132 [jk p_,Ms l_] [] (.jg [adE r.1,iV r.2]) [] :=sp Tryz.func132 rfl<|lf m (λ g1=>⟨[(1,Ms l_),(2,.ptr 0 0 0),(4,.ptr 1 0 0),(6,.ptr 2 0 0),(13,iV g1.1)],[(0,some (.box [iV p_.bT,aX p_.aF])),(1,some (.row 1 64 (BM iV g1.2.1))),(2,some (.row 1 64 (BM iV g1.2.2)))],3⟩) [(1,some 16),(2,some 48)] [] <|λ av g1 m=>si m (λ _ m=>s2 m λ _ _ m=>le m) λ _ m=>sq m o8 λ v1 m=>by
 have c3:=m.1
 have m:=m.2
 refine aj (λ q=>Bool.noConfusion (c3.symm.trans q)) (λ _=>?_)
 (conv=>whnf)
 refine ah m λ h7 m=>?_
 (conv=>whnf)
 refine aP (ct:=[]) bO dk m (λ g2=>⟨[(2,.ptr 0 0 0),(4,.ptr 1 0 0),(6,.ptr 2 0 0),(8,.dA 3 0 g2.2.2.length false),(27,Ms l_),(28,iV (l_.length:Int)),(29,iV g2.1)],[(0,some (.box [iV p_.bT,aX p_.aF])),(1,some (.row 1 64 (BM iV g1.2.1))),(2,some (.row 1 64 (BM iV g2.2.1))),(3,some (.row 1 g2.2.2.length (bD AV.bool false g2.2.2)))],4⟩) [(3,some 115)] [] ⟨rfl,⟨r4,r4,r4,⟨rfl,rfl,rfl,oz,nofun⟩,sr,r2,r2,trivial⟩,⟨⟨r2,sr,trivial⟩,⟨rfl,rfl,(λ _ _=>.refl _)⟩,⟨rfl,rfl,(λ _ _=>.refl _)⟩,⟨rfl,oz,(lG AV.bool false)⟩,trivial⟩⟩ ?_
 intro dL g2 m
 (conv=>whnf)
 refine dI m (λ c22 m=>?_) (λ c22 m=>?_)
 ·(conv=>whnf)
  refine ah m λ h44 m=>?_
  (conv=>whnf)
  refine ah m λ h45 m=>?_
  (conv=>whnf)
  have c23:=m.1
  have m:=m.2
  refine aj (λ q=>Bool.noConfusion (c23.symm.trans q)) (λ _=>?_)
  (conv=>whnf)
  refine ah m λ h46 m=>?_
  (conv=>whnf)
  have c24:=m.1
  have m:=m.2
  refine aj (λ q=>Bool.noConfusion (c24.symm.trans q)) (λ _=>?_)
  (conv=>whnf)
  refine ah m λ h47 m=>?_
  (conv=>whnf)
  refine ah m λ h48 m=>?_
  (conv=>whnf)
  refine aP (ct:=[]) bO dk m (λ g5=>⟨[(2,.ptr 0 0 0),(4,.ptr 1 0 0),(6,.ptr 2 0 0),(8,.dA 3 0 g5.2.2.length false),(10,.ptr 4 0 0),(27,Ms l_),(28,iV (l_.length:Int)),(29,iV g2.1),(79,au ((p_.aF.getD (((l_.getD g2.1.toNat jD).fD).toNat) aM).bT)),(80,iV ((((p_.aF.getD (((l_.getD g2.1.toNat jD).fD).toNat) aM).bT).length:Nat):Int)),(81,iV g5.1)],[(0,some (.box [iV p_.bT,aX p_.aF])),(1,some (.row 1 64 (BM iV g1.2.1))),(2,some (.row 1 64 (BM iV g5.2.1))),(3,some (.row 1 g5.2.2.length (bD AV.bool false g5.2.2))),(4,some (.box [iV ((l_.getD g2.1.toNat jD).fD),iV ((l_.getD g2.1.toNat jD).iw)]))],5⟩) [(4,some 52)] [] ⟨rfl,⟨r4,r4,r4,⟨rfl,rfl,rfl,oz,nofun⟩,r4,sr,r2,r2,sr,r2,r2,trivial⟩,⟨⟨r2,sr,trivial⟩,⟨rfl,rfl,(λ _ _=>.refl _)⟩,⟨rfl,rfl,(λ _ _=>.refl _)⟩,⟨rfl,oz,(oN (λ _ _=>.refl _) rfl (.refl _))⟩,⟨r2,r2,trivial⟩,trivial⟩⟩ ?_
  intro uT g5 m
  (conv=>whnf)
  refine dI m (λ c29 m=>?_) (λ c29 m=>?_)
  ·(conv=>whnf)
   refine ah m λ h57 m=>?_
   (conv=>whnf)
   refine ah m λ h58 m=>?_
   (conv=>whnf)
   have c30:=m.1
   have m:=m.2
   refine aj (λ q=>Bool.noConfusion (c30.symm.trans q)) (λ _=>?_)
   (conv=>whnf)
   refine ah m λ h59 m=>?_
   (conv=>whnf)
   refine ah m λ h60 m=>?_
   (conv=>whnf)
   exact ⟨((g5.1+(1:Int)),(upd g5.2.1 ((((p_.aF.getD (((l_.getD g2.1.toNat jD).fD).toNat) aM).bT).getD g5.1.toNat 0).toNat) ((l_.getD g2.1.toNat jD).fD)),g5.2.2),[],[],m,⟨rfl,⟨r4,r4,r4,⟨rfl,rfl,rfl,rfl,nofun⟩,r4,sr,r2,r2,sr,r2,r2,trivial⟩,⟨⟨r2,sr,trivial⟩,⟨rfl,rfl,(λ _ _=>.refl _)⟩,⟨rfl,rfl,(YQ (λ _ _=>.refl _) (.refl _))⟩,⟨rfl,rfl,(λ _ _=>.refl _)⟩,⟨r2,r2,trivial⟩,trivial⟩⟩⟩
  ·(conv=>whnf)
   refine ah m λ h61 m=>?_
   (conv=>whnf)
   exact ⟨((g2.1+(1:Int)),g5.2.1,g5.2.2),[],[],m,⟨rfl,⟨r4,r4,r4,⟨rfl,rfl,rfl,rfl,nofun⟩,sr,r2,r2,trivial⟩,⟨⟨r2,sr,trivial⟩,⟨rfl,rfl,(λ _ _=>.refl _)⟩,⟨rfl,rfl,(λ _ _=>.refl _)⟩,⟨rfl,rfl,(λ _ _=>.refl _)⟩,trivial⟩⟩⟩
 ·(conv=>whnf)
  have m:r=(g2.2.1,(0:Int)):=m
  subst m
  refine ⟨[],[],?_⟩
  (conv=>whnf)
  exact ⟨⟨rfl,trivial,trivial⟩,⟨PO (.refl _) rfl (Nat.lt_of_sub_pos (by exact Nat.zero_lt_succ _)),r2,trivial⟩⟩
variable {bA:List Int}
theorem yP {s_:Nat} {r:List Int} (m:uV s_ bA r):S 23 [.dA 0 0 s_ false] [.row 1 bA.length (bD iV 0 bA)] (.dA 1 0 r.length false) [.row 1 bA.length (bD iV 0 bA),.row 1 r.length (bD iV 0 r)] :=by
 obtain ⟨⟨h0,h1⟩,m⟩:=m
 have m:r=bA.take s_:=m
 have hl:r.length=s_:=by rw [m,List.length_take]; omega
 refine jX (ct:=[1]) bO Tryz.func23 rfl rfl (Nat.le_of_ble_eq_true rfl) dk (Nat.le_of_ble_eq_true rfl) ?_
 (conv=>whnf)
 refine F7 (ct:=[]) bO (bO.slice (t:=22) (e:=3) rfl rfl rfl).1 dk dk dk dk dk [(2,.iK),(0,.dA 0 0 s_ false)] [(0,some (.row 1 bA.length (bD iV 0 bA)))] 17 rfl rfl ?_ (λ hn=>?_) ?_
 ·exact rfl
 ·(conv=>whnf)
  have hn:r.length=0:=hl.trans hn
  refine ⟨[],[(1,none)],?_⟩
  (conv=>whnf)
  exact ⟨⟨rfl,trivial,⟨⟨rfl,rfl,λ _ _=>.refl _⟩,hn,trivial⟩⟩,⟨rfl,rfl,rfl,rfl,rfl,hn⟩⟩
 ·(conv=>whnf)
  refine ⟨by rw [Nat.zero_add]; exact h1,?_⟩
  (conv=>whnf)
  refine ⟨[],[(1,some 49)],?_⟩
  (conv=>whnf)
  subst m
  exact ⟨⟨rfl,trivial,⟨⟨rfl,rfl,λ _ _=>.refl _⟩,⟨rfl,(Nat.zero_add _).trans hl.symm,gD (l:=[]) rfl (λ _ h=>absurd h (Nat.not_lt_zero _)) hl.symm (lF (f:=iV) (d:=0) h0)⟩,trivial⟩⟩,⟨rfl,rfl,rfl,(Nat.zero_add _).trans hl.symm,nofun⟩⟩
theorem zP {l_:List qm} {r:List Int×Int} (m:Dj p_ l_ r):S 65 [jk p_,Ms l_] [] (.jg [au r.1,iV r.2]) [] :=spc [4,6] Tryz.func65 rfl<|sq m LG λ v1 m=>ck [4,6] (Di p_) r (λ g1=>⟨[(2,.ptr 0 0 0),(6,.ptr 1 0 0)],[(0,some (.box [iV p_.bT,aX p_.aF])),(1,some (.row 1 64 (BM iV g1)))],2⟩) (by
 have c2:=m.1
 have m:=m.2
 refine aj (λ q=>Bool.noConfusion (c2.symm.trans q)) (λ _=>?_)
 (conv=>whnf)
 exact ⟨v1.1,[(1,some 144)],[],m,⟨rfl,⟨r4,r4,trivial⟩,⟨⟨r2,sr,trivial⟩,⟨rfl,rfl,(SQ (f:=iV) (X:=v1.1) (n:=64) (λ _=>rfl))⟩,trivial⟩⟩⟩) λ g1 m=>sn m λ _ m=>sb m λ v2 hv2 m=>cl ((yP hv2).le ⟨.refl _,trivial⟩ ⟨⟨rfl,oz,(adD (f:=iV) (X:=g1))⟩,trivial⟩)<|by cases m;exact rt [50] []
theorem BU {s_:dZ} (m:zx s_ r):S 293 [Af s_] [] (.bool r) [] :=sp Tryz.func293 rfl<|lf m (λ g1=>⟨[(1,.ptr 0 0 0),(3,.dA 1 0 g1.2.length false),(10,bP s_.aH.dR),(11,iV (s_.aH.dR.length:Int)),(12,iV g1.1)],[(0,some (.box [aY s_.aK.bM,aQ s_.aK.aT,iV s_.aK.aU.bT,aX s_.aK.aU.aF,bV s_.aK.bg,bG s_.aK.bF,bC s_.dS,au s_.bB,au s_.aH.dB,aN s_.aH.dF.On,au s_.aH.dF.dX,bP s_.aH.dR,aN s_.aH.dh,aN s_.aH.dJ,.bool s_.gG])),(1,some (.row 2 g1.2.length (bD adG jD g1.2)))],2⟩) [(1,none)] [] <|λ av g1 m=>si m (λ _ m=>s2 m λ _ _ m=>sn m λ _ m=>lc [(1,some 146)] [] m) λ _ m=>sq m zP λ v1 m=>by cases m;exact re
theorem wN {s_:dZ} (m:rA s_ r):S 294 [Af s_] [] (.bool r) [] :=sp Tryz.func294 rfl<|l0 m (λ g1=>⟨[(1,.ptr 0 0 0),(11,au s_.bB),(12,iV (s_.bB.length:Int)),(13,iV g1)],[(0,some (.box [aY s_.aK.bM,aQ s_.aK.aT,iV s_.aK.aU.bT,aX s_.aK.aU.aF,bV s_.aK.bg,bG s_.aK.bF,bC s_.dS,au s_.bB,au s_.aH.dB,aN s_.aH.dF.On,au s_.aH.dF.dX,bP s_.aH.dR,aN s_.aH.dh,aN s_.aH.dJ,.bool s_.gG]))],1⟩) <|λ av g1 m=>si m (λ _ m=>sn m λ _ m=>lf m (λ g6=>⟨[(1,.ptr 0 0 0),(4,iV (s_.bB.getD g1.toNat 0)),(5,.mref 1),(11,au s_.bB),(12,iV (s_.bB.length:Int)),(13,iV g1),(20,bP s_.aH.dR),(21,iV (s_.aH.dR.length:Int)),(22,iV g6.1)],[(0,some (.box [aY s_.aK.bM,aQ s_.aK.aT,iV s_.aK.aU.bT,aX s_.aK.aU.aF,bV s_.aK.bg,bG s_.aK.bF,bC s_.dS,au s_.bB,au s_.aH.dB,aN s_.aH.dF.On,au s_.aH.dF.dX,bP s_.aH.dR,aN s_.aH.dh,aN s_.aH.dJ,.bool s_.gG])),(1,some (.map .str [(.int .i64)] g6.2))],2⟩) [(1,some 65)] [] <|λ jL g6 m=>si m (λ _ m=>sn m λ _ m=>by
 have c33:=m.1
 have m:=m.2
 refine aj (λ _=>?_) (λ q=>Bool.noConfusion (q.symm.trans c33))
 (conv=>whnf)
 refine ah m λ h67 m=>?_
 (conv=>whnf)
 refine ah m λ h68 m=>?_
 (conv=>whnf)
 refine ah m λ h69 m=>?_
 (conv=>whnf)
 refine ah m λ h70 m=>?_
 (conv=>whnf)
 exact ⟨((g6.1+(1:Int)),(FR g6.2 (.s (((s_.aK.aU.aF.getD ((((s_.aH.dR.getD g6.1.toNat cK).wV).fD).toNat) aM).aC).getD ((((s_.aH.dR.getD g6.1.toNat cK).wV).iw).toNat) ByteArray.empty)) ((vS g6.2 (.s (((s_.aK.aU.aF.getD ((((s_.aH.dR.getD g6.1.toNat cK).wV).fD).toNat) aM).aC).getD ((((s_.aH.dR.getD g6.1.toNat cK).wV).iw).toNat) ByteArray.empty)))+(1:Int)))),[],[],m,⟨rfl,⟨r4,r2,r2,sr,r2,r2,sr,r2,r2,trivial⟩,⟨⟨sr,sr,r2,sr,sr,sr,sr,sr,sr,sr,sr,sr,sr,sr,rfl,trivial⟩,⟨rfl,rfl,rfl⟩,trivial⟩⟩⟩) λ _ m=>sn m λ _ m=>l0 m (λ g7=>⟨[(1,.ptr 0 0 0),(5,.mref 1),(11,au s_.bB),(12,iV (s_.bB.length:Int)),(13,iV g1),(54,eG ((s_.dS.getD ((s_.bB.getD g1.toNat 0).toNat) bE).aC)),(55,iV ((((s_.dS.getD ((s_.bB.getD g1.toNat 0).toNat) bE).aC).length:Nat):Int)),(56,iV g7.1)],[(0,some (.box [aY s_.aK.bM,aQ s_.aK.aT,iV s_.aK.aU.bT,aX s_.aK.aU.aF,bV s_.aK.bg,bG s_.aK.bF,bC s_.dS,au s_.bB,au s_.aH.dB,aN s_.aH.dF.On,au s_.aH.dF.dX,bP s_.aH.dR,aN s_.aH.dh,aN s_.aH.dJ,.bool s_.gG])),(1,some (.map .str [(.int .i64)] g7.2))],2⟩) <|λ uU g7 m=>si m (λ _ m=>s2 m λ _ _ m=>by
 have c39:=m.1
 have m:=m.2
 refine aj (λ q=>Bool.noConfusion (c39.symm.trans q)) (λ _=>?_)
 (conv=>whnf)
 refine ah m λ h80 m=>?_
 (conv=>whnf)
 exact ⟨((g7.1+(1:Int)),(FR g7.2 (.s (((s_.dS.getD ((s_.bB.getD g1.toNat 0).toNat) bE).aC).getD g7.1.toNat ByteArray.empty)) ((vS g7.2 (.s (((s_.dS.getD ((s_.bB.getD g1.toNat 0).toNat) bE).aC).getD g7.1.toNat ByteArray.empty))) - (1:Int)))),[],[],m,⟨rfl,⟨r4,r2,sr,r2,r2,sr,r2,r2,trivial⟩,⟨⟨sr,sr,r2,sr,sr,sr,sr,sr,sr,sr,sr,sr,sr,sr,rfl,trivial⟩,⟨rfl,rfl,rfl⟩,trivial⟩⟩⟩) λ _ m=>sn m λ _ m=>le m) λ _ m=>by cases m;exact re
theorem JH {l_:List fF} {iE:List Bool} (m:IB l_ iE r):S 310 [bV l_,aN iE] [] (.bool r) [] :=sp Tryz.func310 rfl<|by
 have c1:=m.1
 have m:=m.2
 refine aj (λ q=>Bool.noConfusion (c1.symm.trans q)) (λ _=>?_)
 (conv=>whnf)
 refine aP (ct:=[]) bO dk m (λ g1=>⟨[(1,aN iE),(14,bV l_),(15,iV (l_.length:Int)),(16,iV (0:Int))],[],0⟩) [] [] ⟨rfl,⟨sr,sr,r2,r2,trivial⟩,trivial⟩ ?_
 intro av g1 m
 (conv=>whnf)
 have c3:=m.1
 have m:=m.2
 refine aj (λ q=>Bool.noConfusion (c3.symm.trans q)) (λ _=>?_)
 (conv=>whnf)
 have m:r=true:=m
 subst m
 refine ⟨[],[],?_⟩
 (conv=>whnf)
 exact ⟨⟨rfl,trivial,trivial⟩,rfl⟩
theorem JI {l_:List fF} {iE:List Bool} (m:IC l_ iE r):S 305 [bV l_,aN iE] [] (.bool r) [] :=sp Tryz.func305 rfl<|sq m sP λ v1 m=>sb m λ v2 hv2 m=>cl (λ q0=>(JH (hv2 q0)))<|by cases m;exact re
theorem uK {bA:dZ} {r:Int×dZ} (m:p9 s_ bA r):S 200 [au s_,.fn 306 [.ptr 0 0 0]] [.box [aY bA.aK.bM,aQ bA.aK.aT,iV bA.aK.aU.bT,aX bA.aK.aU.aF,bV bA.aK.bg,bG bA.aK.bF,bC bA.dS,au bA.bB,au bA.aH.dB,aN bA.aH.dF.On,au bA.aH.dF.dX,bP bA.aH.dR,aN bA.aH.dh,aN bA.aH.dJ,.bool bA.gG]] (iV r.1) [.box [aY r.2.aK.bM,aQ r.2.aK.aT,iV r.2.aK.aU.bT,aX r.2.aK.aU.aF,bV r.2.aK.bg,bG r.2.aK.bF,bC r.2.dS,au r.2.bB,au r.2.aH.dB,aN r.2.aH.dF.On,au r.2.aH.dF.dX,bP r.2.aH.dR,aN r.2.aH.dh,aN r.2.aH.dJ,.bool r.2.gG]] :=sp Tryz.func200 rfl<|l0 m (λ g1=>⟨[(0,au s_),(1,.fn 306 [.ptr 0 0 0]),(7,iV (s_.length:Int)),(8,iV (0:Int))],[(0,some (.box [aY bA.aK.bM,aQ bA.aK.aT,iV bA.aK.aU.bT,aX bA.aK.aU.aF,bV bA.aK.bg,bG bA.aK.bF,bC bA.dS,au bA.bB,au bA.aH.dB,aN bA.aH.dF.On,au bA.aH.dF.dX,bP bA.aH.dR,aN bA.aH.dh,aN bA.aH.dJ,.bool bA.gG]))],1⟩) <|λ av g1 m=>by
 have c2:=m.1
 have m:=m.2
 refine aj (λ q=>Bool.noConfusion (c2.symm.trans q)) (λ _=>?_)
 (conv=>whnf)
 have m:r=((-1:Int),bA):=m
 subst m
 refine ⟨[],[],?_⟩
 (conv=>whnf)
 exact ⟨⟨rfl,trivial,⟨⟨sf,sf,r2,sf,sf,sf,sf,sf,sf,sf,sf,sf,sf,sf,rfl,trivial⟩,trivial⟩⟩,r2⟩
theorem qX {bA:dZ} {r:Bool×dZ} (m:mJ s_ bA r):S 138 [au s_,.fn 306 [.ptr 0 0 0]] [.box [aY bA.aK.bM,aQ bA.aK.aT,iV bA.aK.aU.bT,aX bA.aK.aU.aF,bV bA.aK.bg,bG bA.aK.bF,bC bA.dS,au bA.bB,au bA.aH.dB,aN bA.aH.dF.On,au bA.aH.dF.dX,bP bA.aH.dR,aN bA.aH.dh,aN bA.aH.dJ,.bool bA.gG]] (.bool r.1) [.box [aY r.2.aK.bM,aQ r.2.aK.aT,iV r.2.aK.aU.bT,aX r.2.aK.aU.aF,bV r.2.aK.bg,bG r.2.aK.bF,bC r.2.dS,au r.2.bB,au r.2.aH.dB,aN r.2.aH.dF.On,au r.2.aH.dF.dX,bP r.2.aH.dR,aN r.2.aH.dh,aN r.2.aH.dJ,.bool r.2.gG]] :=sp Tryz.func138 rfl<|sq m uK λ v1 m=>by cases m;exact re
theorem zQ {s_:dZ} (m:wC s_ r):S 295 [Af s_] [] (.bool r) [] :=sp Tryz.func295 rfl<|sq m JI λ v1 m=>by
 have c1:=m.1
 have m:=m.2
 refine aj (λ q=>Bool.noConfusion (c1.symm.trans q)) (λ _=>?_)
 (conv=>whnf)
 refine aP (ct:=[]) bO dk m (λ g1=>⟨[(1,.ptr 0 0 0),(14,au s_.bB),(15,iV (s_.bB.length:Int)),(16,iV g1.1)],[(0,some (.box [aY g1.2.1,aQ g1.2.2.1,iV g1.2.2.2.1,aX g1.2.2.2.2.1,bV g1.2.2.2.2.2.1,bG g1.2.2.2.2.2.2.1,bC g1.2.2.2.2.2.2.2.1,au g1.2.2.2.2.2.2.2.2.1,au g1.2.2.2.2.2.2.2.2.2.1,aN g1.2.2.2.2.2.2.2.2.2.2.1,au g1.2.2.2.2.2.2.2.2.2.2.2.1,bP g1.2.2.2.2.2.2.2.2.2.2.2.2.1,aN g1.2.2.2.2.2.2.2.2.2.2.2.2.2.1,aN g1.2.2.2.2.2.2.2.2.2.2.2.2.2.2.1,.bool g1.2.2.2.2.2.2.2.2.2.2.2.2.2.2.2]))],1⟩) [] [] ⟨rfl,⟨r4,sr,r2,r2,trivial⟩,⟨⟨sf,sf,r2,sf,sf,sf,sf,sf,sf,sf,sf,sf,sf,sf,rfl,trivial⟩,trivial⟩⟩ ?_
 intro av g1 m
 (conv=>whnf)
 refine dI m (λ c6 m=>?_) (λ c6 m=>?_)
 ·(conv=>whnf)
  refine ah m λ h7 m=>?_
  (conv=>whnf)
  refine ah m λ h8 m=>?_
  (conv=>whnf)
  refine aI m λ v4 hv4 m=>?_
  refine ⟨_,_,(qX hv4),?_⟩
  (conv=>whnf)
  have c7:=m.1
  have m:=m.2
  refine aj (λ q=>Bool.noConfusion (c7.symm.trans q)) (λ _=>?_)
  (conv=>whnf)
  refine ah m λ h9 m=>?_
  (conv=>whnf)
  exact ⟨((g1.1+(1:Int)),v4.2.aK.bM,v4.2.aK.aT,v4.2.aK.aU.bT,v4.2.aK.aU.aF,v4.2.aK.bg,v4.2.aK.bF,v4.2.dS,v4.2.bB,v4.2.aH.dB,v4.2.aH.dF.On,v4.2.aH.dF.dX,v4.2.aH.dR,v4.2.aH.dh,v4.2.aH.dJ,v4.2.gG),[],[],m,⟨rfl,⟨r4,sr,r2,r2,trivial⟩,⟨⟨sf,sf,r2,sf,sf,sf,sf,sf,sf,sf,sf,sf,sf,sf,rfl,trivial⟩,trivial⟩⟩⟩
 ·(conv=>whnf)
  have m:r=true:=m
  subst m
  refine ⟨[],[],?_⟩
  (conv=>whnf)
  exact ⟨⟨rfl,trivial,trivial⟩,rfl⟩
theorem JJ {l_:List eF} {RL:List Bool} (m:IE l_ RL r):S 311 [bG l_,aN RL] [] (.bool r) [] :=sp Tryz.func311 rfl<|by
 have c1:=m.1
 have m:=m.2
 refine aj (λ q=>Bool.noConfusion (c1.symm.trans q)) (λ _=>?_)
 (conv=>whnf)
 refine aP (ct:=[]) bO dk m (λ g1=>⟨[(1,aN RL),(12,bG l_),(13,iV (l_.length:Int)),(14,iV (0:Int))],[],0⟩) [] [] ⟨rfl,⟨sr,sr,r2,r2,trivial⟩,trivial⟩ ?_
 intro av g1 m
 (conv=>whnf)
 have c3:=m.1
 have m:=m.2
 refine aj (λ q=>Bool.noConfusion (c3.symm.trans q)) (λ _=>?_)
 (conv=>whnf)
 have m:r=true:=m
 subst m
 refine ⟨[],[],?_⟩
 (conv=>whnf)
 exact ⟨⟨rfl,trivial,trivial⟩,rfl⟩
theorem JK {l_:List eF} {RL:List Bool} (m:IG l_ RL r):S 307 [bG l_,aN RL] [] (.bool r) [] :=sp Tryz.func307 rfl<|sq m qQ λ v1 m=>sb m λ v2 hv2 m=>cl (λ q0=>(JJ (hv2 q0)))<|by cases m;exact re
theorem wO {m_:Int} {afx:List bf} {afy:List aL} {afz:Int} {afA:List fA} {afB:List fF} {afC:List eF} {Uv:List ay} {afD:List Int} {afE:List Int} {afF:List Bool} {abV:List Int} {abW:List bN} {abX:List Bool} {Wo:List Bool} {abY:Bool} (m:rC m_ afx afy afz afA afB afC Uv afD afE afF abV abW abX Wo abY r):S 308 [iV m_,.ro [aY afx,aQ afy,iV afz,aX afA,bV afB,bG afC,bC Uv,au afD,au afE,aN afF,au abV,bP abW,aN abX,aN Wo,.bool abY]] [] (.bool r) [] :=sp Tryz.func308 rfl<|s2 m λ _ _ m=>by cases m;exact re
theorem uL {bA:dZ} {r:Int×dZ} (m:qb s_ bA r):S 200 [au s_,.fn 308 [.ptr 0 0 0]] [.box [aY bA.aK.bM,aQ bA.aK.aT,iV bA.aK.aU.bT,aX bA.aK.aU.aF,bV bA.aK.bg,bG bA.aK.bF,bC bA.dS,au bA.bB,au bA.aH.dB,aN bA.aH.dF.On,au bA.aH.dF.dX,bP bA.aH.dR,aN bA.aH.dh,aN bA.aH.dJ,.bool bA.gG]] (iV r.1) [.box [aY r.2.aK.bM,aQ r.2.aK.aT,iV r.2.aK.aU.bT,aX r.2.aK.aU.aF,bV r.2.aK.bg,bG r.2.aK.bF,bC r.2.dS,au r.2.bB,au r.2.aH.dB,aN r.2.aH.dF.On,au r.2.aH.dF.dX,bP r.2.aH.dR,aN r.2.aH.dh,aN r.2.aH.dJ,.bool r.2.gG]] :=sp Tryz.func200 rfl<|l0 m (λ g1=>⟨[(0,au s_),(1,.fn 308 [.ptr 0 0 0]),(7,iV (s_.length:Int)),(8,iV g1)],[(0,some (.box [aY bA.aK.bM,aQ bA.aK.aT,iV bA.aK.aU.bT,aX bA.aK.aU.aF,bV bA.aK.bg,bG bA.aK.bF,bC bA.dS,au bA.bB,au bA.aH.dB,aN bA.aH.dF.On,au bA.aH.dF.dX,bP bA.aH.dR,aN bA.aH.dh,aN bA.aH.dJ,.bool bA.gG]))],1⟩) <|λ av g1 m=>si m (λ _ m=>sn m λ _ m=>sq m wO λ v3 m=>by
 have c6:=m.1
 have m:=m.2
 refine aj (λ q=>Bool.noConfusion (c6.symm.trans q)) (λ _=>?_)
 (conv=>whnf)
 refine ah m λ h6 m=>?_
 (conv=>whnf)
 exact ⟨(g1+(1:Int)),[],[],m,⟨rfl,⟨sr,⟨rfl,r4,trivial⟩,r2,r2,trivial⟩,⟨⟨sr,sr,r2,sr,sr,sr,sr,sr,sr,sr,sr,sr,sr,sr,rfl,trivial⟩,trivial⟩⟩⟩) λ _ m=>by cases m;exact re
theorem qY {bA:dZ} {r:Bool×dZ} (m:mK s_ bA r):S 138 [au s_,.fn 308 [.ptr 0 0 0]] [.box [aY bA.aK.bM,aQ bA.aK.aT,iV bA.aK.aU.bT,aX bA.aK.aU.aF,bV bA.aK.bg,bG bA.aK.bF,bC bA.dS,au bA.bB,au bA.aH.dB,aN bA.aH.dF.On,au bA.aH.dF.dX,bP bA.aH.dR,aN bA.aH.dh,aN bA.aH.dJ,.bool bA.gG]] (.bool r.1) [.box [aY r.2.aK.bM,aQ r.2.aK.aT,iV r.2.aK.aU.bT,aX r.2.aK.aU.aF,bV r.2.aK.bg,bG r.2.aK.bF,bC r.2.dS,au r.2.bB,au r.2.aH.dB,aN r.2.aH.dF.On,au r.2.aH.dF.dX,bP r.2.aH.dR,aN r.2.aH.dh,aN r.2.aH.dJ,.bool r.2.gG]] :=sp Tryz.func138 rfl<|sq m uL λ v1 m=>by cases m;exact re
theorem yQ {s_:dZ} (m:uW s_ r):S 296 [Af s_] [] (.bool r) [] :=sp Tryz.func296 rfl<|sq m JK λ v1 m=>by
 have c1:=m.1
 have m:=m.2
 refine aj (λ q=>Bool.noConfusion (c1.symm.trans q)) (λ _=>?_)
 (conv=>whnf)
 refine aI m λ v2 hv2 m=>?_
 refine ⟨_,_,(qY hv2),?_⟩
 (conv=>whnf)
 have m:r=(!v2.1):=m
 subst m
 refine ⟨[],[],?_⟩
 (conv=>whnf)
 exact ⟨⟨rfl,trivial,trivial⟩,rfl⟩
theorem zR {s_:dZ} {r:Int} (m:wE s_ r):S 271 [Af s_] [] (iV r) [] :=sp Tryz.func271 rfl<|by
 refine V8 9 ?_
 refine kT (ct:=[]) bO dk ?_
 (conv=>whnf)
 refine ah m λ h1 m=>?_
 (conv=>whnf)
 refine aI m λ v1 hv1 m=>?_
 refine ⟨_,_,(Aw hv1),?_⟩
 (conv=>whnf)
 have c1:=m.1
 have m:=m.2
 refine aj (λ q=>Bool.noConfusion (c1.symm.trans q)) (λ _=>?_)
 (conv=>whnf)
 refine ah m λ h2 m=>?_
 (conv=>whnf)
 refine kT (ct:=[]) bO dk ?_
 (conv=>whnf)
 refine ah m λ h3 m=>?_
 (conv=>whnf)
 refine aI m λ v2 hv2 m=>?_
 refine ⟨_,_,(zN hv2),?_⟩
 (conv=>whnf)
 have c2:=m.1
 have m:=m.2
 refine aj (λ q=>Bool.noConfusion (c2.symm.trans q)) (λ _=>?_)
 (conv=>whnf)
 refine ah m λ h4 m=>?_
 (conv=>whnf)
 refine kT (ct:=[]) bO dk ?_
 (conv=>whnf)
 refine ah m λ h5 m=>?_
 (conv=>whnf)
 refine aI m λ v3 hv3 m=>?_
 refine ⟨_,_,(zO hv3),?_⟩
 (conv=>whnf)
 have c3:=m.1
 have m:=m.2
 refine aj (λ q=>Bool.noConfusion (c3.symm.trans q)) (λ _=>?_)
 (conv=>whnf)
 refine ah m λ h6 m=>?_
 (conv=>whnf)
 refine kT (ct:=[]) bO dk ?_
 (conv=>whnf)
 refine ah m λ h7 m=>?_
 (conv=>whnf)
 refine aI m λ v4 hv4 m=>?_
 refine ⟨_,_,(xk hv4),?_⟩
 (conv=>whnf)
 have c4:=m.1
 have m:=m.2
 refine aj (λ q=>Bool.noConfusion (c4.symm.trans q)) (λ _=>?_)
 (conv=>whnf)
 refine ah m λ h8 m=>?_
 (conv=>whnf)
 refine kT (ct:=[]) bO dk ?_
 (conv=>whnf)
 refine ah m λ h9 m=>?_
 (conv=>whnf)
 refine aI m λ v5 hv5 m=>?_
 refine ⟨_,_,(BU hv5),?_⟩
 (conv=>whnf)
 have c5:=m.1
 have m:=m.2
 refine aj (λ q=>Bool.noConfusion (c5.symm.trans q)) (λ _=>?_)
 (conv=>whnf)
 refine ah m λ h10 m=>?_
 (conv=>whnf)
 refine kT (ct:=[]) bO dk ?_
 (conv=>whnf)
 refine ah m λ h11 m=>?_
 (conv=>whnf)
 refine aI m λ v6 hv6 m=>?_
 refine ⟨_,_,(wN hv6),?_⟩
 (conv=>whnf)
 have c6:=m.1
 have m:=m.2
 refine aj (λ q=>Bool.noConfusion (c6.symm.trans q)) (λ _=>?_)
 (conv=>whnf)
 refine ah m λ h12 m=>?_
 (conv=>whnf)
 refine kT (ct:=[]) bO dk ?_
 (conv=>whnf)
 refine ah m λ h13 m=>?_
 (conv=>whnf)
 refine aI m λ v7 hv7 m=>?_
 refine ⟨_,_,(zQ hv7),?_⟩
 (conv=>whnf)
 have c7:=m.1
 have m:=m.2
 refine aj (λ q=>Bool.noConfusion (c7.symm.trans q)) (λ _=>?_)
 (conv=>whnf)
 refine ah m λ h14 m=>?_
 (conv=>whnf)
 refine kT (ct:=[]) bO dk ?_
 (conv=>whnf)
 refine ah m λ h15 m=>?_
 (conv=>whnf)
 refine aI m λ v8 OB m=>?_
 refine ⟨_,_,(yQ OB),?_⟩
 (conv=>whnf)
 have c8:=m.1
 have m:=m.2
 refine aj (λ q=>Bool.noConfusion (c8.symm.trans q)) (λ _=>?_)
 (conv=>whnf)
 refine ah m λ h16 m=>?_
 (conv=>whnf)
 refine kT (ct:=[]) bO dk ?_
 (conv=>whnf)
 have m:r=(0:Int):=m
 subst m
 refine ⟨[],[],?_⟩
 (conv=>whnf)
 exact ⟨⟨rfl,trivial,trivial⟩,r2⟩
variable {g_:cZ}
theorem JL {qF:Bool} {r:Int} (m:II b_ l_ ak g_ qF r):S 222 [gP b_,bC l_,au ak,nV g_,.bool qF] [] (iV r) [] :=sp Tryz.func222 rfl<|sq m lQ λ v1 m=>by
 have c1:=m.1
 have m:=m.2
 refine aj (λ q=>Bool.noConfusion (c1.symm.trans q)) (λ _=>?_)
 (conv=>whnf)
 refine aI m λ v2 hv2 m=>?_
 refine ⟨_,_,(zR hv2),?_⟩
 (conv=>whnf)
 have m:r=v2:=m
 subst m
 refine ⟨[],[],?_⟩
 (conv=>whnf)
 exact ⟨⟨rfl,trivial,trivial⟩,r2⟩
theorem LH (m:MS b_ l_ ak g_ r):S 156 [gP b_,bC l_,au ak,nV g_] [] (.bool r) [] :=sp Tryz.func156 rfl<|sq m JL λ v1 m=>by cases m;exact re
variable {aV:Int}
theorem JM {r:Int} (m:IJ b_ l_ ak g_ aV r):S 81 [gP b_,bC l_,au ak,nV g_,iV aV] [] (iV r) [] :=sp Tryz.func81 rfl<|sq m LB λ v1 m=>by
 have c1:=m.1
 have m:=m.2
 refine aj (λ q=>Bool.noConfusion (c1.symm.trans q)) (λ _=>?_)
 (conv=>whnf)
 refine aI m λ v2 hv2 m=>?_
 refine ⟨_,_,(LH hv2),?_⟩
 (conv=>whnf)
 have c2:=m.1
 have m:=m.2
 refine aj (λ q=>Bool.noConfusion (c2.symm.trans q)) (λ _=>?_)
 (conv=>whnf)
 have c3:=m.1
 have m:=m.2
 refine aj (λ q=>Bool.noConfusion (c3.symm.trans q)) (λ _=>?_)
 (conv=>whnf)
 have m:r=(0:Int):=m
 subst m
 refine ⟨[],[],?_⟩
 (conv=>whnf)
 exact ⟨⟨rfl,trivial,trivial⟩,r2⟩
theorem oL {r:List Int} (m:nX bA r):S 23 [.dA 0 0 bA.length false] [.row 1 bA.length (bD iV 0 bA)] (.dA 1 0 r.length false) [.row 1 bA.length (bD iV 0 bA),.row 1 r.length (bD iV 0 r)] :=by
 obtain ⟨h1,m⟩:=m
 have m:r=bA:=m
 subst m
 refine jX (ct:=[1]) bO Tryz.func23 rfl rfl (Nat.le_of_ble_eq_true rfl) dk (Nat.le_of_ble_eq_true rfl) ?_
 (conv=>whnf)
 refine F7 (ct:=[]) bO (bO.slice (t:=22) (e:=3) rfl rfl rfl).1 dk dk dk dk dk [(2,.iK),(0,.dA 0 0 r.length false)] [(0,some (.row 1 r.length (bD iV 0 r)))] 17 rfl rfl ?_ (λ hn=>?_) ?_
 ·exact rfl
 ·(conv=>whnf)
  have hn:r.length=0:=hn
  refine ⟨[],[(1,none)],?_⟩
  (conv=>whnf)
  exact ⟨⟨rfl,trivial,⟨⟨rfl,rfl,λ _ _=>.refl _⟩,hn,trivial⟩⟩,⟨rfl,rfl,rfl,rfl,rfl,hn⟩⟩
 ·(conv=>whnf)
  refine ⟨by rw [Nat.zero_add]; exact h1,?_⟩
  (conv=>whnf)
  refine ⟨[],[(1,some 49)],?_⟩
  (conv=>whnf)
  exact ⟨⟨rfl,trivial,⟨⟨rfl,rfl,λ _ _=>.refl _⟩,⟨rfl,Nat.zero_add _,gD (l:=[]) rfl (λ _ h=>absurd h (Nat.not_lt_zero _)) rfl (λ _ _=>.refl _)⟩,trivial⟩⟩,⟨rfl,rfl,rfl,Nat.zero_add _,nofun⟩⟩
variable {n_:ay}
theorem ER {r:List bX} (m:Dk n_ r):S 90 [pX n_] [] (dN r) [] :=sp Tryz.func90 rfl<|by cases m;exact re
theorem wP {r:List bX} (m:rD l_ ak r):S 89 [bC l_,au ak,.fn 90 []] [] (dN r) [] :=sp Tryz.func89 rfl<|lf m (λ g1=>⟨[(0,bC l_),(2,.fn 90 []),(7,.dA 0 0 g1.2.length false),(10,au ak),(11,iV (ak.length:Int)),(12,iV g1.1)],[(0,some (.row 3 g1.2.length (bD Ae lU g1.2)))],1⟩) [(0,none)] [] <|λ av g1 m=>si m (λ _ m=>sn m λ _ m=>by
 have c6:=m.1
 have m:=m.2
 refine aj (λ _=>?_) (λ q=>Bool.noConfusion (q.symm.trans c6))
 (conv=>whnf)
 refine ah m λ h10 m=>?_
 (conv=>whnf)
 refine aI m λ v3 hv3 m=>?_
 refine ⟨_,_,(ER hv3),?_⟩
 (conv=>whnf)
 refine ah m λ h11 m=>?_
 (conv=>whnf)
 refine ah m λ h12 m=>?_
 (conv=>whnf)
 exact ⟨((g1.1+(1:Int)),(g1.2++v3)),[(0,some 305)],[],m,⟨rfl,⟨sr,⟨rfl,trivial⟩,⟨rfl,rfl,rfl,oz,nofun⟩,sr,r2,r2,trivial⟩,⟨⟨rfl,oz,(gD rfl (λ _ _=>.refl _) rfl (λ _ _=>.refl _))⟩,trivial⟩⟩⟩) λ _ m=>by cases m;exact rt [0] []
theorem JN {r:List bX} (m:IK l_ ak r):S 45 [bC l_,au ak] [] (dN r) [] :=sp Tryz.func45 rfl<|sq m wP λ v1 m=>by cases m;exact re
theorem GN {r:List bU} (m:FB n_ r):S 96 [pX n_] [] (eD r) [] :=sp Tryz.func96 rfl<|by cases m;exact re
theorem xq {r:List bU} (m:tX l_ ak r):S 95 [bC l_,au ak,.fn 96 []] [] (eD r) [] :=sp Tryz.func95 rfl<|lf m (λ g1=>⟨[(0,bC l_),(2,.fn 96 []),(7,.dA 0 0 g1.2.length false),(10,au ak),(11,iV (ak.length:Int)),(12,iV g1.1)],[(0,some (.row 4 g1.2.length (bD H9 fI g1.2)))],1⟩) [(0,none)] [] <|λ av g1 m=>si m (λ _ m=>sn m λ _ m=>by
 have c6:=m.1
 have m:=m.2
 refine aj (λ _=>?_) (λ q=>Bool.noConfusion (q.symm.trans c6))
 (conv=>whnf)
 refine ah m λ h10 m=>?_
 (conv=>whnf)
 refine aI m λ v3 hv3 m=>?_
 refine ⟨_,_,(GN hv3),?_⟩
 (conv=>whnf)
 refine ah m λ h11 m=>?_
 (conv=>whnf)
 refine ah m λ h12 m=>?_
 (conv=>whnf)
 exact ⟨((g1.1+(1:Int)),(g1.2++v3)),[(0,some 305)],[],m,⟨rfl,⟨sr,⟨rfl,trivial⟩,⟨rfl,rfl,rfl,oz,nofun⟩,sr,r2,r2,trivial⟩,⟨⟨rfl,oz,(gD rfl (λ _ _=>.refl _) rfl (λ _ _=>.refl _))⟩,trivial⟩⟩⟩) λ _ m=>by cases m;exact rt [0] []
theorem LJ {r:List bU} (m:MU l_ ak r):S 47 [bC l_,au ak] [] (eD r) [] :=sp Tryz.func47 rfl<|sq m xq λ v1 m=>by cases m;exact re
theorem Az {r:List ByteArray} (m:xQ n_ r):S 224 [pX n_] [] (eG r) [] :=sp Tryz.func224 rfl<|by cases m;exact re
theorem yR {r:List ByteArray} (m:uX l_ ak r):S 223 [bC l_,au ak,.fn 224 []] [] (eG r) [] :=sp Tryz.func223 rfl<|lf m (λ g1=>⟨[(0,bC l_),(2,.fn 224 []),(7,.dA 0 0 g1.2.length false),(10,au ak),(11,iV (ak.length:Int)),(12,iV g1.1)],[(0,some (.row 1 g1.2.length (bD AV.str ByteArray.empty g1.2)))],1⟩) [(0,none)] [] <|λ av g1 m=>si m (λ _ m=>sn m λ _ m=>by
 have c6:=m.1
 have m:=m.2
 refine aj (λ _=>?_) (λ q=>Bool.noConfusion (q.symm.trans c6))
 (conv=>whnf)
 refine ah m λ h10 m=>?_
 (conv=>whnf)
 refine aI m λ v3 hv3 m=>?_
 refine ⟨_,_,(Az hv3),?_⟩
 (conv=>whnf)
 refine ah m λ h11 m=>?_
 (conv=>whnf)
 refine ah m λ h12 m=>?_
 (conv=>whnf)
 exact ⟨((g1.1+(1:Int)),(g1.2++v3)),[(0,some 305)],[],m,⟨rfl,⟨sr,⟨rfl,trivial⟩,⟨rfl,rfl,rfl,oz,nofun⟩,sr,r2,r2,trivial⟩,⟨⟨rfl,oz,(gD rfl (λ _ _=>.refl _) rfl (λ _ _=>.refl _))⟩,trivial⟩⟩⟩) λ _ m=>by cases m;exact rt [0] []
theorem DZ {r:List ByteArray} (m:Bj l_ ak r):S 157 [bC l_,au ak] [] (eG r) [] :=sp Tryz.func157 rfl<|sq m yR λ v1 m=>by cases m;exact re
theorem JO {l_:List bf} {r:Int} (m:IL l_ m_ r):S 122 [aY l_,dN m_] [] (iV r) [] :=sp Tryz.func122 rfl<|sq m kJ λ v1 m=>by
 have c1:=m.1
 have m:=m.2
 refine aj (λ q=>Bool.noConfusion (c1.symm.trans q)) (λ _=>?_)
 (conv=>whnf)
 refine aI m λ v2 hv2 m=>?_
 refine ⟨_,_,(yx hv2),?_⟩
 (conv=>whnf)
 have c2:=m.1
 have m:=m.2
 refine aj (λ q=>Bool.noConfusion (c2.symm.trans q)) (λ _=>?_)
 (conv=>whnf)
 have m:r=(0:Int):=m
 subst m
 refine ⟨[],[],?_⟩
 (conv=>whnf)
 exact ⟨⟨rfl,trivial,trivial⟩,r2⟩
theorem Oj {l_:List bf} {r:List oO} (m:QA l_ m_ r):S 86 [aY l_,dN m_] [] (Ib r) [] :=sp Tryz.func86 rfl<|l0 m (λ g1=>⟨[(0,aY l_),(1,dN m_),(5,.iK),(10,dN m_),(11,iV (m_.length:Int)),(12,iV (0:Int))],[],0⟩) <|λ av g1 m=>by
 have c2:=m.1
 have m:=m.2
 refine aj (λ q=>Bool.noConfusion (c2.symm.trans q)) (λ _=>?_)
 (conv=>whnf)
 refine aP (ct:=[]) bO dk m (λ g2=>⟨[(1,dN m_),(5,.iK),(29,aY l_),(30,iV (l_.length:Int)),(31,iV (0:Int))],[],0⟩) [] [] ⟨rfl,⟨sr,trivial,sr,r2,r2,trivial⟩,trivial⟩ ?_
 intro dL g2 m
 (conv=>whnf)
 have c4:=m.1
 have m:=m.2
 refine aj (λ q=>Bool.noConfusion (c4.symm.trans q)) (λ _=>?_)
 (conv=>whnf)
 have m:r=([]:List oO):=m
 subst m
 refine ⟨[],[],?_⟩
 (conv=>whnf)
 exact ⟨⟨rfl,trivial,trivial⟩,⟨rfl,(λ h=>absurd rfl h),nofun,(λ _ h=>absurd h (Nat.not_lt_zero _))⟩⟩
theorem ES {l_:List bf} {r:List gB} (m:QB l_ bA r):S 274 [aY l_,.dA 0 0 bA.length false] [.row 1 bA.length (bD iV 0 bA)] (nW r) [.row 1 bA.length (bD iV 0 bA)] :=sp Tryz.func274 rfl<|sn m λ _ m=>lf m (λ g1=>⟨[(0,aY l_),(1,.dA 0 0 bA.length false),(5,.dA 1 0 g1.length false),(13,aY l_),(14,iV (l_.length:Int)),(15,iV (0:Int))],[(0,some (.row 1 bA.length (bD iV 0 bA))),(1,some (.row 2 g1.length (bD abT xE g1)))],2⟩) [(1,some 49)] [] <|λ av g1 m=>by
 have c2:=m.1
 have m:=m.2
 refine aj (λ q=>Bool.noConfusion (c2.symm.trans q)) (λ _=>?_)
 (conv=>whnf)
 have m:r=g1:=m
 subst m
 refine ⟨[1],[],?_⟩
 (conv=>whnf)
 exact ⟨⟨rfl,trivial,⟨⟨rfl,rfl,(λ _ _=>.refl _)⟩,trivial⟩⟩,sf⟩
theorem ET {l_:List bf} {r:List gB×Int} (m:Dl l_ bA r):S 229 [aY l_,.dA 0 0 bA.length false] [.row 1 bA.length (bD iV 0 bA)] (.jg [nW r.1,iV r.2]) [.row 1 bA.length (bD iV 0 bA)] :=sp Tryz.func229 rfl<|sq m kJ λ v1 m=>by
 have c1:=m.1
 have m:=m.2
 refine aj (λ q=>Bool.noConfusion (c1.symm.trans q)) (λ _=>?_)
 (conv=>whnf)
 refine aI m λ v2 hv2 m=>?_
 refine ⟨_,_,(pO hv2),?_⟩
 (conv=>whnf)
 have c2:=m.1
 have m:=m.2
 refine aj (λ q=>Bool.noConfusion (c2.symm.trans q)) (λ _=>?_)
 (conv=>whnf)
 refine aI m λ v3 hv3 m=>?_
 refine ⟨_,_,(ES hv3),?_⟩
 (conv=>whnf)
 have m:r=(v3,(0:Int)):=m
 subst m
 refine ⟨[],[],?_⟩
 (conv=>whnf)
 exact ⟨⟨rfl,trivial,⟨⟨rfl,rfl,(λ _ _=>.refl _)⟩,trivial⟩⟩,⟨sf,r2,trivial⟩⟩
theorem AA {Oz:Int} {pE:Bool} {r:Bool×List Int} (m:xR Oz bA pE r):S 166 [.dA 0 0 bA.length false,.int .u64 Oz,.ptr 1 0 0,.ptr 2 0 0] [.row 1 bA.length (bD iV 0 bA),.box [.sl 0 0 true eu],.box [.bool pE]] (.bool r.1) [.row 1 bA.length (bD iV 0 bA),.box [.dA 3 0 r.2.length false],.box [.bool true],.row 1 r.2.length (bD iV 0 r.2)] :=sp Tryz.func166 rfl<|by
 have c1:=m.1
 have m:=m.2
 refine aj (λ _=>?_) (λ q=>Bool.noConfusion (q.symm.trans c1))
 (conv=>whnf)
 refine aI m λ v1 hv1 m=>?_
 refine ⟨_,_,(oL hv1),?_⟩
 (conv=>whnf)
 have m:r=((!true),v1):=m
 subst m
 refine ⟨[],[(3,some 67)],?_⟩
 (conv=>whnf)
 exact ⟨⟨rfl,trivial,⟨⟨rfl,rfl,(λ _ _=>.refl _)⟩,⟨⟨rfl,rfl,rfl,rfl,nofun⟩,trivial⟩,⟨rfl,trivial⟩,⟨rfl,rfl,(λ _ _=>.refl _)⟩,trivial⟩⟩,rfl⟩
theorem D5 {l_:List bf} {BR:Bool} {r:List Int} (m:Bl l_ m_ BR r):S 165 [aY l_,dN m_,.fn 166 [.ptr 0 0 0,.ptr 1 0 0]] [.box [.sl 0 0 true eu],.box [.bool BR]] (.jg []) [.box [.dA 2 0 r.length false],.box [.bool true],.row 1 r.length (bD iV 0 r)] :=sp Tryz.func165 rfl<|sq m Oj λ v1 m=>sn m λ _ m=>lf m (λ g1=>⟨[(0,aY l_),(2,.fn 166 [.ptr 0 0 0,.ptr 1 0 0]),(6,Ib v1),(7,.dA 2 0 g1.length false)],[(0,some (.box [.sl 0 0 true eu])),(1,some (.box [.bool BR])),(2,some (.row 1 g1.length (bD iV 0 g1)))],3⟩) [(2,some 98)] [] <|λ av g1 m=>sq m ET λ v4 m=>l0 m (λ g3=>⟨[(0,aY l_),(2,.fn 166 [.ptr 0 0 0,.ptr 1 0 0]),(6,Ib v1),(7,.dA 2 0 g1.length false),(8,nW v4.1),(10,.int .u64 (0:Int)),(26,Ib v1),(27,iV (v1.length:Int)),(28,iV (0:Int))],[(0,some (.box [.sl 0 0 true eu])),(1,some (.box [.bool BR])),(2,some (.row 1 g1.length (bD iV 0 g1)))],3⟩) <|λ iZ g3 m=>by
 have c5:=m.1
 have m:=m.2
 refine aj (λ q=>Bool.noConfusion (c5.symm.trans q)) (λ _=>?_)
 (conv=>whnf)
 refine aI m λ v5 hv5 m=>?_
 refine ⟨_,_,(AA hv5),?_⟩
 (conv=>whnf)
 have c6:=m.1
 have m:=m.2
 refine aj (λ _=>?_) (λ q=>Bool.noConfusion (q.symm.trans c6))
 (conv=>whnf)
 have m:r=v5.2:=m
 subst m
 refine ⟨[],[(2,some 67)],?_⟩
 (conv=>whnf)
 exact ⟨⟨rfl,trivial,⟨⟨⟨rfl,rfl,rfl,rfl,nofun⟩,trivial⟩,⟨rfl,trivial⟩,⟨rfl,rfl,(λ _ _=>.refl _)⟩,trivial⟩⟩,trivial⟩
theorem JQ {l_:List bf} {r:List Int×Int} (m:IQ l_ m_ r):S 85 [aY l_,dN m_] [] (.jg [au r.1,iV r.2]) [] :=sp Tryz.func85 rfl<|sq m JO λ v1 m=>by
 have c1:=m.1
 have m:=m.2
 refine aj (λ q=>Bool.noConfusion (c1.symm.trans q)) (λ _=>?_)
 (conv=>whnf)
 refine aI m λ v2 hv2 m=>?_
 refine ⟨_,_,(D5 hv2),?_⟩
 (conv=>whnf)
 have m:r=(v2,(0:Int)):=m
 subst m
 refine ⟨[224],[],?_⟩
 (conv=>whnf)
 exact ⟨⟨rfl,trivial,trivial⟩,(by (conv=>whnf); exact ⟨(by (conv=>whnf); exact sf),(by (conv=>whnf); exact ⟨(by first | ((conv=>whnf); exact r2) | exact r2),trivial⟩)⟩)⟩
theorem JR {l_:List aL} {r:Int} (m:IU l_ d_ r):S 91 [aQ l_,eD d_] [] (iV r) [] :=sp Tryz.func91 rfl<|sq m mg λ v1 m=>by
 have c1:=m.1
 have m:=m.2
 refine aj (λ q=>Bool.noConfusion (c1.symm.trans q)) (λ _=>?_)
 (conv=>whnf)
 refine aI m λ v2 hv2 m=>?_
 refine ⟨_,_,(yA hv2),?_⟩
 (conv=>whnf)
 have c2:=m.1
 have m:=m.2
 refine aj (λ q=>Bool.noConfusion (c2.symm.trans q)) (λ _=>?_)
 (conv=>whnf)
 have m:r=(0:Int):=m
 subst m
 refine ⟨[],[],?_⟩
 (conv=>whnf)
 exact ⟨⟨rfl,trivial,trivial⟩,r2⟩
variable {x_:Int}
theorem D6 {y_:Int} {r:Int×Int} (m:Bn x_ y_ r):S 249 [.int .u64 x_,.int .u64 y_] [] (.jg [.int .u64 r.1,.int .u64 r.2]) [] :=sp Tryz.func249 rfl<|s2 m λ _ _ m=>s2 m λ _ _ m=>sn m λ _ m=>by cases m;exact re
theorem wQ {y_:Int} {r:Int×Int} (m:oD x_ y_ r):S 182 [.int .u64 x_,.int .u64 y_] [] (.jg [.int .u64 r.1,.int .u64 r.2]) [] :=sp Tryz.func182 rfl<|sq m D6 λ v1 m=>by cases m;exact re
theorem vI {x_:List gX} {pF:Int} {r:List gX} (m:qH x_ pF r):S 169 [Wh x_,iV pF] [] (.dA 0 0 r.length false) [.row 3 r.length (bD vE lY r)] :=sp Tryz.func169 rfl<|by
 have c1:=m.1
 have m:=m.2
 refine aj (λ q=>Bool.noConfusion (c1.symm.trans q)) (λ _=>?_)
 (conv=>whnf)
 refine aI m λ v1 hv1 m=>?_
 refine ⟨_,_,(wQ hv1),?_⟩
 (conv=>whnf)
 have c2:=m.1
 have m:=m.2
 refine aj (λ q=>Bool.noConfusion (c2.symm.trans q)) (λ _=>?_)
 (conv=>whnf)
 refine ah m λ h1 m=>?_
 (conv=>whnf)
 refine aP (ct:=[]) bO dk m (λ g1=>⟨[(7,.dA 0 0 g1.length false),(8,iV (((Nat.min x_.length ((IntKind.i64.wrap v1.2).toNat)):Nat):Int))],[(0,some (.row 3 g1.length (bD vE lY g1)))],1⟩) [(0,some 352)] [] ⟨rfl,⟨⟨rfl,rfl,rfl,oz,nofun⟩,r2,trivial⟩,⟨⟨rfl,oz,(XT oz (lG vE lY) oz (lF (f:=vE) (d:=lY) (by first | omega | exact Nat.min_le_left _ _ | exact Nat.le_trans (Nat.min_le_left _ _) om | (simp; omega))))⟩,trivial⟩⟩ ?_
 intro av g1 m
 (conv=>whnf)
 have c4:=m.1
 have m:=m.2
 refine aj (λ q=>Bool.noConfusion (c4.symm.trans q)) (λ _=>?_)
 (conv=>whnf)
 have m:r=g1:=m
 subst m
 refine ⟨[],[],?_⟩
 (conv=>whnf)
 exact ⟨⟨rfl,trivial,⟨⟨rfl,rfl,(λ _ _=>.refl _)⟩,trivial⟩⟩,⟨rfl,rfl,rfl,rfl,nofun⟩⟩
theorem wR (m:cmp_isNaN_int x_ r):S 281 [iV x_] [] (.bool r) [] :=sp Tryz.func281 rfl<|by cases m;exact re
theorem JU {y_:Int} (m:cmp_Less_int x_ y_ r):S 243 [iV x_,iV y_] [] (.bool r) [] :=sp Tryz.func243 rfl<|sq m wR λ v1 m=>sb m λ v2 hv2 m=>cl (λ q0=>(wR (hv2 q0)))<|by cases m;exact re
theorem rP (m:sj x_ r):S 262 [iV x_] [] (.bool r) [] :=sp Tryz.func262 rfl<|by cases m;exact re
theorem uM {x_:List Int} {gI:Int} {r:Int×Bool} (m:slices_BinarySearch_int x_ gI r):S 198 [au x_,iV gI] [] (.jg [iV r.1,.bool r.2]) [] :=spc [8] Tryz.func198 rfl<|ck [8] (mM x_ gI) r (λ g2=>⟨[(0,au x_),(1,iV gI),(6,iV (x_.length:Int)),(7,iV g2)],[],0⟩) (lfc [8] m (λ g3=>⟨[(0,au x_),(1,iV gI),(6,iV (x_.length:Int)),(7,iV g3.1),(8,iV g3.2)],[],0⟩) [] [] <|λ iZ g3 m=>si m (λ _ m=>s2 m λ _ _ m=>sn m λ _ m=>sq m JU λ v8 m=>si m (λ _ m=>sn m λ _ m=>le m) λ _ m=>le m) λ _ m=>le m) λ g2 m=>s2 m λ _ _ m=>sb m λ v4 hv4 m=>cl (λ q0 q1=>(rP (hv4 q0 q1)))<|sb m λ v5 hv5 m=>cl (λ q0 q1 q2=>(rP (hv5 q0 q1 q2)))<|by cases m;exact re
theorem JV {s_:aL} {IW:Int} {r:Int×Bool} (m:IV s_ IW r):S 131 [EA s_,iV IW] [] (.jg [iV r.1,.bool r.2]) [] :=sp Tryz.func131 rfl<|sq m uM λ v1 m=>by cases m;exact re
theorem EU {l_:List aL} {r:List gX×List Int×Int} (m:Dn l_ d_ r):S 93 [aQ l_,eD d_] [] (.jg [Wh r.1,au r.2.1,iV r.2.2]) [] :=sp Tryz.func93 rfl<|sb m λ v1 hv1 m=>cl ((vI hv1).le ⟨(.sl rfl (λ _=>rfl) nofun (fM vE lY [(⟨(0:Int),(-1:Int),(-1:Int)⟩:gX)])),.refl _,trivial⟩ trivial)<|sn m λ _ m=>lf m (λ g1=>⟨[(0,aQ l_),(1,eD d_),(4,.ptr 0 0 0),(5,.ptr 1 0 0),(6,.ptr 2 0 0),(23,eD d_),(24,iV (d_.length:Int)),(25,iV g1.1)],[(0,some (.box [.dA 3 0 g1.2.1.length false])),(1,some (.box [.dA 4 0 g1.2.2.length false])),(2,some (.box [iV (0:Int)])),(3,some (.row 3 g1.2.1.length (bD vE lY g1.2.1))),(4,some (.row 1 g1.2.2.length (bD iV 0 g1.2.2)))],5⟩) [(1,some 16),(2,some 32),(3,some 112),(4,some 160)] [] <|λ av g1 m=>si m (λ _ m=>s2 m λ _ _ m=>si m (λ _ m=>s2 m λ _ _ m=>le m) λ _ m=>sn m λ _ m=>le m) λ _ m=>sq m sS λ v2 m=>sq m je λ v3 m=>by
 have h17:=m.1
 have m:=m.2
 refine KF (ct:=[]) (ct':=[]) bO dk dk dk dk (Lb v3 h17) rfl (by intro v hv; simp at hv; exact ⟨_,hv⟩) m (λ g2=>⟨[(4,.ptr 0 0 0),(5,.ptr 1 0 0),(6,.ptr 2 0 0),(9,.ptr 3 0 0),(52,.fn 230 [.ro [aQ v3]])],[(0,some (.box [.dA 4 0 g2.1.length false])),(1,some (.box [.dA 5 0 g2.2.length false])),(2,some (.box [iV (0:Int)])),(3,some (.box [aN v2])),(4,some (.row 3 g2.1.length (bD vE lY g2.1))),(5,some (.row 1 g2.2.length (bD iV 0 g2.2)))],6⟩) (λ k2 g2=>⟨[(4,.ptr 0 0 0),(5,.ptr 1 0 0),(6,.ptr 2 0 0),(9,.ptr 3 0 0),(10,iV ((v3.length - 1 - k2:Nat):Int)),(11,.ptr 6 0 0)],[(0,some (.box [.dA 4 0 g2.1.length false])),(1,some (.box [.dA 5 0 g2.2.length false])),(2,some (.box [iV (0:Int)])),(3,some (.box [aN v2])),(4,some (.row 3 g2.1.length (bD vE lY g2.1))),(5,some (.row 1 g2.2.length (bD iV 0 g2.2))),(6,some (.box [iV ((v3.getD (v3.length - 1 - k2) aZ).dx),au ((v3.getD (v3.length - 1 - k2) aZ).dY),iV ((v3.getD (v3.length - 1 - k2) aZ).iI),iV ((v3.getD (v3.length - 1 - k2) aZ).jT),.bool ((v3.getD (v3.length - 1 - k2) aZ).nk)]))],7⟩) (λ _ _=>r2) [(3,some 69),(4,some 3),(5,some 4)] ⟨rfl,⟨r4,r4,r4,r4,⟨rfl,Fg.refl _,trivial⟩,trivial⟩,⟨⟨⟨rfl,rfl,rfl,rfl,nofun⟩,trivial⟩,⟨⟨rfl,rfl,rfl,rfl,nofun⟩,trivial⟩,⟨r2,trivial⟩,⟨sr,trivial⟩,⟨rfl,rfl,(λ _ _=>.refl _)⟩,⟨rfl,rfl,(λ _ _=>.refl _)⟩,trivial⟩⟩ ?_ ?_ ?_
 ·intro k2 ll g2 hk
  refine ⟨Nat.le_of_ble_eq_true rfl,?_⟩
  (conv=>whnf)
  exact ⟨[(6,some 22)],⟨rfl,⟨r4,r4,r4,r4,r2,r4,trivial⟩,⟨⟨⟨rfl,rfl,rfl,rfl,nofun⟩,trivial⟩,⟨⟨rfl,rfl,rfl,rfl,nofun⟩,trivial⟩,⟨r2,trivial⟩,⟨sr,trivial⟩,⟨rfl,rfl,(λ _ _=>.refl _)⟩,⟨rfl,rfl,(λ _ _=>.refl _)⟩,⟨r2,sr,r2,r2,rfl,trivial⟩,trivial⟩⟩⟩
 ·intro k2 ll dL g2 hk m
  (conv=>whnf)
  refine ah m λ h32 m=>?_
  (conv=>whnf)
  refine dI m (λ c13 m=>?_) (λ c13 m=>?_)
  ·(conv=>whnf)
   exact ⟨(g2.1,g2.2),[],m,⟨rfl,⟨r4,r4,r4,r4,⟨rfl,Fg.refl _,trivial⟩,trivial⟩,⟨⟨⟨rfl,rfl,rfl,rfl,nofun⟩,trivial⟩,⟨⟨rfl,rfl,rfl,rfl,nofun⟩,trivial⟩,⟨r2,trivial⟩,⟨sr,trivial⟩,⟨rfl,rfl,(λ _ _=>.refl _)⟩,⟨rfl,rfl,(λ _ _=>.refl _)⟩,trivial⟩⟩⟩
  ·(conv=>whnf)
   refine ah m λ h33 m=>?_
   (conv=>whnf)
   refine aI m λ v6 hv6 m=>?_
   refine ⟨_,_,(JV hv6),?_⟩
   (conv=>whnf)
   refine dI m (λ c14 m=>?_) (λ c14 m=>?_)
   ·(conv=>whnf)
    have m:r=(g2.1,g2.2,((v3.length - 1 - k2:Nat):Int)):=m
    subst m
    refine ⟨[4,5],[],?_⟩
    (conv=>whnf)
    exact ⟨⟨rfl,trivial,trivial⟩,(by (conv=>whnf); exact ⟨(by (conv=>whnf); exact sf),(by (conv=>whnf); exact ⟨(by (conv=>whnf); exact sf),(by (conv=>whnf); exact ⟨(by first | ((conv=>whnf); exact r2) | exact r2),trivial⟩)⟩)⟩)⟩
   ·(conv=>whnf)
    refine ah m λ h34 m=>?_
    (conv=>whnf)
    refine ah m λ h35 m=>?_
    (conv=>whnf)
    refine ah m λ h36 m=>?_
    (conv=>whnf)
    refine ah m λ h37 m=>?_
    (conv=>whnf)
    refine dI m (λ c15 m=>?_) (λ c15 m=>?_)
    ·(conv=>whnf)
     refine ah m λ h38 m=>?_
     (conv=>whnf)
     exact ⟨((g2.1.set (((v3.getD (v3.length - 1 - k2) aZ).dx).toNat) (⟨((((v3.getD (v3.length - 1 - k2) aZ).dY).getD v6.1.toNat 0)+(v3.getD (v3.length - 1 - k2) aZ).iI),(-1:Int),((v3.length - 1 - k2:Nat):Int)⟩:gX)),(g2.2.set (((v3.length - 1 - k2:Nat):Int).toNat) v6.1)),[],m,⟨rfl,⟨r4,r4,r4,r4,⟨rfl,Fg.refl _,trivial⟩,trivial⟩,⟨⟨⟨rfl,rfl,rfl,oz,nofun⟩,trivial⟩,⟨⟨rfl,rfl,rfl,oz,nofun⟩,trivial⟩,⟨r2,trivial⟩,⟨sr,trivial⟩,⟨rfl,oz,(oN (λ _ _=>.refl _) rfl (.refl _))⟩,⟨rfl,oz,(oN (λ _ _=>.refl _) rfl (.refl _))⟩,trivial⟩⟩⟩
    ·(conv=>whnf)
     exact ⟨(g2.1,(g2.2.set (((v3.length - 1 - k2:Nat):Int).toNat) v6.1)),[],m,⟨rfl,⟨r4,r4,r4,r4,⟨rfl,Fg.refl _,trivial⟩,trivial⟩,⟨⟨⟨rfl,rfl,rfl,rfl,nofun⟩,trivial⟩,⟨⟨rfl,rfl,rfl,oz,nofun⟩,trivial⟩,⟨r2,trivial⟩,⟨sr,trivial⟩,⟨rfl,rfl,(λ _ _=>.refl _)⟩,⟨rfl,oz,(oN (λ _ _=>.refl _) rfl (.refl _))⟩,trivial⟩⟩⟩
 ·intro g2 m
  (conv=>whnf)
  have m:r=(g2.1,g2.2,(-1:Int)):=m
  subst m
  refine ⟨[4,5],[],?_⟩
  (conv=>whnf)
  exact ⟨⟨rfl,trivial,trivial⟩,(by (conv=>whnf); exact ⟨(by (conv=>whnf); exact sf),(by (conv=>whnf); exact ⟨(by (conv=>whnf); exact sf),(by (conv=>whnf); exact ⟨(by first | ((conv=>whnf); exact r2) | exact r2),trivial⟩)⟩)⟩)⟩
theorem JW {l_:List aL} {r:dO×Int} (m:IY l_ d_ r):S 158 [aQ l_,eD d_] [] (.jg [Cz r.1,iV r.2]) [] :=sp Tryz.func158 rfl<|sq m JR λ v1 m=>by
 have c1:=m.1
 have m:=m.2
 refine aj (λ q=>Bool.noConfusion (c1.symm.trans q)) (λ _=>?_)
 (conv=>whnf)
 refine aI m λ v2 hv2 m=>?_
 refine ⟨_,_,(EU hv2),?_⟩
 (conv=>whnf)
 refine aI m λ v3 hv3 m=>?_
 refine ⟨_,_,(sS hv3),?_⟩
 (conv=>whnf)
 refine aI m λ v4 hv4 m=>?_
 refine ⟨_,_,(λ q0=>(yB (hv4 q0))),?_⟩
 (conv=>whnf)
 have c2:=m.1
 have m:=m.2
 refine aj (λ q=>Bool.noConfusion (c2.symm.trans q)) (λ _=>?_)
 (conv=>whnf)
 have m:r=((⟨v3,v2.2.1⟩:dO),(0:Int)):=m
 subst m
 refine ⟨[],[],?_⟩
 (conv=>whnf)
 exact ⟨⟨rfl,trivial,trivial⟩,⟨PO (.refl _) rfl (Nat.lt_of_sub_pos (by exact Nat.zero_lt_succ _)),r2,trivial⟩⟩
theorem GQ {r:List Int} (m:FC n_ r):S 161 [pX n_] [] (au r) [] :=sp Tryz.func161 rfl<|by cases m;exact re
theorem BX {r:List Int} (m:zA l_ ak r):S 160 [bC l_,au ak,.fn 161 []] [] (au r) [] :=sp Tryz.func160 rfl<|lf m (λ g1=>⟨[(0,bC l_),(2,.fn 161 []),(7,.dA 0 0 g1.2.length false),(10,au ak),(11,iV (ak.length:Int)),(12,iV g1.1)],[(0,some (.row 1 g1.2.length (bD iV 0 g1.2)))],1⟩) [(0,none)] [] <|λ av g1 m=>si m (λ _ m=>sn m λ _ m=>by
 have c6:=m.1
 have m:=m.2
 refine aj (λ _=>?_) (λ q=>Bool.noConfusion (q.symm.trans c6))
 (conv=>whnf)
 refine ah m λ h10 m=>?_
 (conv=>whnf)
 refine aI m λ v3 hv3 m=>?_
 refine ⟨_,_,(GQ hv3),?_⟩
 (conv=>whnf)
 refine ah m λ h11 m=>?_
 (conv=>whnf)
 refine ah m λ h12 m=>?_
 (conv=>whnf)
 exact ⟨((g1.1+(1:Int)),(g1.2++v3)),[(0,some 305)],[],m,⟨rfl,⟨sr,⟨rfl,trivial⟩,⟨rfl,rfl,rfl,oz,nofun⟩,sr,r2,r2,trivial⟩,⟨⟨rfl,oz,(gD rfl (λ _ _=>.refl _) rfl (λ _ _=>.refl _))⟩,trivial⟩⟩⟩) λ _ m=>by cases m;exact rt [0] []
theorem JX {l_:List fF} {iO:List Int} {r:List Bool} (m:IZ l_ iO r):S 226 [bV l_,au iO] [] (aN r) [] :=sp Tryz.func226 rfl<|sn m λ _ m=>lf m (λ g1=>⟨[(0,bV l_),(5,.dA 0 0 g1.length false),(14,au iO),(15,iV (iO.length:Int)),(16,iV (0:Int))],[(0,some (.row 1 g1.length (bD AV.bool false g1)))],1⟩) [(0,some 48)] [] <|λ av g1 m=>by
 have c2:=m.1
 have m:=m.2
 refine aj (λ q=>Bool.noConfusion (c2.symm.trans q)) (λ _=>?_)
 (conv=>whnf)
 refine ah m λ h2 m=>?_
 (conv=>whnf)
 refine aP (ct:=[]) bO dk m (λ g2=>⟨[(0,bV l_),(5,.dA 0 0 g1.length false),(8,iV ((l_.length:Int) - (1:Int)))],[(0,some (.row 1 g1.length (bD AV.bool false g1)))],1⟩) [] [] ⟨rfl,⟨sr,⟨rfl,rfl,rfl,rfl,nofun⟩,r2,trivial⟩,⟨⟨rfl,rfl,(λ _ _=>.refl _)⟩,trivial⟩⟩ ?_
 intro dL g2 m
 (conv=>whnf)
 have c4:=m.1
 have m:=m.2
 refine aj (λ q=>Bool.noConfusion (c4.symm.trans q)) (λ _=>?_)
 (conv=>whnf)
 have m:r=g1:=m
 subst m
 refine ⟨[0],[],?_⟩
 (conv=>whnf)
 exact ⟨⟨rfl,trivial,trivial⟩,sf⟩
theorem JY {l_:List fF} {iO:List Int} {r:List Bool×Int} (m:I5 l_ iO r):S 159 [bV l_,au iO] [] (.jg [aN r.1,iV r.2]) [] :=sp Tryz.func159 rfl<|sq m sP λ v1 m=>by
 have c1:=m.1
 have m:=m.2
 refine aj (λ q=>Bool.noConfusion (c1.symm.trans q)) (λ _=>?_)
 (conv=>whnf)
 refine aP (ct:=[]) bO dk m (λ g1=>⟨[(0,bV l_),(1,au iO),(11,au iO),(12,iV (iO.length:Int)),(13,iV (0:Int))],[],0⟩) [] [] ⟨rfl,⟨sr,sr,sr,r2,r2,trivial⟩,trivial⟩ ?_
 intro av g1 m
 (conv=>whnf)
 have c3:=m.1
 have m:=m.2
 refine aj (λ q=>Bool.noConfusion (c3.symm.trans q)) (λ _=>?_)
 (conv=>whnf)
 refine aI m λ v2 hv2 m=>?_
 refine ⟨_,_,(JX hv2),?_⟩
 (conv=>whnf)
 have m:r=(v2,(0:Int)):=m
 subst m
 refine ⟨[],[],?_⟩
 (conv=>whnf)
 exact ⟨⟨rfl,trivial,trivial⟩,⟨sf,r2,trivial⟩⟩
theorem GR {r:List Int} (m:FD n_ r):S 163 [pX n_] [] (au r) [] :=sp Tryz.func163 rfl<|by
 have c1:=m.1
 have m:=m.2
 refine aj (λ _=>?_) (λ q=>Bool.noConfusion (q.symm.trans c1))
 (conv=>whnf)
 have m:r=([]:List Int):=m
 subst m
 refine ⟨[],[],?_⟩
 (conv=>whnf)
 exact ⟨⟨rfl,trivial,trivial⟩,⟨rfl,(λ h=>absurd rfl h),nofun,(λ _ h=>absurd h (Nat.not_lt_zero _))⟩⟩
theorem yS {r:List Int} (m:uY l_ ak r):S 160 [bC l_,au ak,.fn 163 []] [] (au r) [] :=sp Tryz.func160 rfl<|lf m (λ g1=>⟨[(0,bC l_),(2,.fn 163 []),(7,.dA 0 0 g1.2.length false),(10,au ak),(11,iV (ak.length:Int)),(12,iV g1.1)],[(0,some (.row 1 g1.2.length (bD iV 0 g1.2)))],1⟩) [(0,none)] [] <|λ av g1 m=>si m (λ _ m=>sn m λ _ m=>by
 have c6:=m.1
 have m:=m.2
 refine aj (λ _=>?_) (λ q=>Bool.noConfusion (q.symm.trans c6))
 (conv=>whnf)
 refine ah m λ h10 m=>?_
 (conv=>whnf)
 refine aI m λ v3 hv3 m=>?_
 refine ⟨_,_,(GR hv3),?_⟩
 (conv=>whnf)
 refine ah m λ h11 m=>?_
 (conv=>whnf)
 refine ah m λ h12 m=>?_
 (conv=>whnf)
 exact ⟨((g1.1+(1:Int)),(g1.2++v3)),[(0,some 305)],[],m,⟨rfl,⟨sr,⟨rfl,trivial⟩,⟨rfl,rfl,rfl,oz,nofun⟩,sr,r2,r2,trivial⟩,⟨⟨rfl,oz,(gD rfl (λ _ _=>.refl _) rfl (λ _ _=>.refl _))⟩,trivial⟩⟩⟩) λ _ m=>by cases m;exact rt [0] []
theorem EW {l_:List eF} {gY:List Int} {r:Int} (m:Dp l_ gY r):S 227 [bG l_,au gY] [] (iV r) [] :=sp Tryz.func227 rfl<|sq m qQ λ v1 m=>by
 have c1:=m.1
 have m:=m.2
 refine aj (λ q=>Bool.noConfusion (c1.symm.trans q)) (λ _=>?_)
 (conv=>whnf)
 refine aP (ct:=[]) bO dk m (λ g1=>⟨[(0,bG l_),(10,au gY),(11,iV (gY.length:Int)),(12,iV (0:Int))],[],0⟩) [] [] ⟨rfl,⟨sr,sr,r2,r2,trivial⟩,trivial⟩ ?_
 intro av g1 m
 (conv=>whnf)
 have c3:=m.1
 have m:=m.2
 refine aj (λ q=>Bool.noConfusion (c3.symm.trans q)) (λ _=>?_)
 (conv=>whnf)
 have m:r=(0:Int):=m
 subst m
 refine ⟨[],[],?_⟩
 (conv=>whnf)
 exact ⟨⟨rfl,trivial,trivial⟩,r2⟩
theorem Rf {l_:List eF} {gY:List Int} {r:List Bool×Int} (m:Td l_ gY r):S 162 [bG l_,au gY] [] (.jg [aN r.1,iV r.2]) [] :=sp Tryz.func162 rfl<|sq m EW λ v1 m=>by
 have c1:=m.1
 have m:=m.2
 refine aj (λ q=>Bool.noConfusion (c1.symm.trans q)) (λ _=>?_)
 (conv=>whnf)
 refine ah m λ h1 m=>?_
 (conv=>whnf)
 refine ah m λ h2 m=>?_
 (conv=>whnf)
 refine aP (ct:=[]) bO dk m (λ g1=>⟨[(0,bG l_),(1,au gY),(7,.dA 0 0 g1.length false),(8,iV ((l_.length:Int) - (1:Int)))],[(0,some (.row 1 g1.length (bD AV.bool false g1)))],1⟩) [(0,some 160)] [] ⟨rfl,⟨sr,sr,⟨rfl,rfl,rfl,oz,nofun⟩,r2,trivial⟩,⟨⟨rfl,oz,(lG AV.bool false)⟩,trivial⟩⟩ ?_
 intro av g1 m
 (conv=>whnf)
 have c3:=m.1
 have m:=m.2
 refine aj (λ q=>Bool.noConfusion (c3.symm.trans q)) (λ _=>?_)
 (conv=>whnf)
 have m:r=(g1,(0:Int)):=m
 subst m
 refine ⟨[0],[],?_⟩
 (conv=>whnf)
 exact ⟨⟨rfl,trivial,trivial⟩,(by (conv=>whnf); exact ⟨(by (conv=>whnf); exact sf),(by (conv=>whnf); exact ⟨(by first | ((conv=>whnf); exact r2) | exact r2),trivial⟩)⟩)⟩
theorem LK {jl:List bN} {r:List Int×List Bool×List Int×List Bool×List Bool×Int×Int×List bN} (m:MV b_ l_ ak jl r):S 82 [gP b_,bC l_,au ak,bP jl] [] (.jg [.agg [au r.1,aN r.2.1,au r.2.2.1,.dA 0 0 r.2.2.2.2.2.2.2.length false,aN r.2.2.2.1,aN r.2.2.2.2.1],iV r.2.2.2.2.2.1,iV r.2.2.2.2.2.2.1]) [.row 3 r.2.2.2.2.2.2.2.length (bD oP cK r.2.2.2.2.2.2.2)] :=sp Tryz.func82 rfl<|sq m JN λ v1 m=>sq m LJ λ v2 m=>by
 have c1:=m.1
 have m:=m.2
 refine aj (λ _=>?_) (λ q=>Bool.noConfusion (q.symm.trans c1))
 (conv=>whnf)
 refine aI m λ v3 hv3 m=>?_
 refine ⟨_,_,(DZ hv3),?_⟩
 (conv=>whnf)
 have c2:=m.1
 have m:=m.2
 refine aj (λ q=>Bool.noConfusion (c2.symm.trans q)) (λ _=>?_)
 (conv=>whnf)
 refine aI m λ v4 hv4 m=>?_
 refine ⟨_,_,(JQ hv4),?_⟩
 (conv=>whnf)
 have c3:=m.1
 have m:=m.2
 refine aj (λ q=>Bool.noConfusion (c3.symm.trans q)) (λ _=>?_)
 (conv=>whnf)
 refine aI m λ v5 hv5 m=>?_
 refine ⟨_,_,(JW hv5),?_⟩
 (conv=>whnf)
 have c4:=m.1
 have m:=m.2
 refine aj (λ q=>Bool.noConfusion (c4.symm.trans q)) (λ _=>?_)
 (conv=>whnf)
 refine aP (ct:=[]) bO dk m (λ g1=>⟨[(1,bC l_),(2,au ak),(4,.ptr 0 0 0),(8,.ptr 1 0 0),(16,.ptr 2 0 0),(64,bP jl),(65,iV (jl.length:Int)),(66,iV g1.1)],[(0,some (.box [aY b_.bM,aQ b_.aT,iV b_.aU.bT,aX b_.aU.aF,bV b_.bg,bG b_.bF])),(1,some (.box [.sl 0 0 true eu,.sl 0 0 true eu,.sl 0 0 true eu,.sl 0 0 true eu,.sl 0 0 true eu,.sl 0 0 true eu])),(2,some (.box [au v4.1,aN v5.1.On,au v5.1.dX,.dA 3 0 g1.2.length false,.sl 0 0 true eu,.sl 0 0 true eu])),(3,some (.row 3 g1.2.length (bD oP cK g1.2)))],4⟩) [(1,some 16),(2,some 848),(3,none)] [] ⟨rfl,⟨sr,sr,r4,r4,r4,sr,r2,r2,trivial⟩,⟨⟨sr,sr,r2,sr,sr,sr,trivial⟩,⟨sr,sr,sr,sr,sr,sr,trivial⟩,⟨sr,sr,sr,⟨rfl,rfl,rfl,rfl,rfl,rfl⟩,sr,sr,trivial⟩,rfl,trivial⟩⟩ ?_
 intro av g1 m
 (conv=>whnf)
 refine dI m (λ c9 m=>?_) (λ c9 m=>?_)
 ·(conv=>whnf)
  refine ah m λ h7 m=>?_
  (conv=>whnf)
  refine aI m λ v8 OB m=>?_
  refine ⟨_,_,(bR OB),?_⟩
  (conv=>whnf)
  have c10:=m.1
  have m:=m.2
  refine aj (λ _=>?_) (λ q=>Bool.noConfusion (q.symm.trans c10))
  (conv=>whnf)
  refine ah m λ h8 m=>?_
  (conv=>whnf)
  refine ah m λ h9 m=>?_
  (conv=>whnf)
  exact ⟨((g1.1+(1:Int)),(g1.2++([(⟨(jl.getD g1.1.toNat cK).dM,((jl.getD g1.1.toNat cK).wV)⟩:bN)]:List bN))),[(3,some 212)],[],m,⟨rfl,⟨sr,sr,r4,r4,r4,sr,r2,r2,trivial⟩,⟨⟨sr,sr,r2,sr,sr,sr,trivial⟩,⟨sr,sr,sr,sr,sr,sr,trivial⟩,⟨sr,sr,sr,⟨rfl,rfl,rfl,oz,nofun⟩,sr,sr,trivial⟩,⟨rfl,oz,(gD rfl (λ _ _=>.refl _) rfl (fM oP cK [(⟨(jl.getD g1.1.toNat cK).dM,((jl.getD g1.1.toNat cK).wV)⟩:bN)]))⟩,trivial⟩⟩⟩
 ·(conv=>whnf)
  refine aI m λ v9 UW m=>?_
  refine ⟨_,_,(BX UW),?_⟩
  (conv=>whnf)
  refine aI m λ v10 GH m=>?_
  refine ⟨_,_,(JY GH),?_⟩
  (conv=>whnf)
  refine aI m λ v11 agf m=>?_
  refine ⟨_,_,(yS agf),?_⟩
  (conv=>whnf)
  refine aI m λ v12 aal m=>?_
  refine ⟨_,_,(Rf aal),?_⟩
  (conv=>whnf)
  have m:r=(v4.1,v5.1.On,v5.1.dX,v10.1,v12.1,(0:Int),(0:Int),g1.2):=m
  subst m
  refine ⟨[],[(0,some 3)],?_⟩
  (conv=>whnf)
  exact ⟨⟨rfl,trivial,⟨⟨rfl,rfl,(λ _ _=>.refl _)⟩,trivial⟩⟩,⟨⟨sf,sf,sf,⟨rfl,rfl,rfl,rfl,nofun⟩,sf,sf,trivial⟩,r2,r2,trivial⟩⟩
theorem sU {jl:List bN} {MW:List ByteArray} {r:List ByteArray×List Int} (m:xS b_ jl MW r):S 49 [gP b_,bP jl,eG MW] [] (.jg [eG r.1,au r.2]) [] :=sp Tryz.func49 rfl<|lf m (λ g1=>⟨[(2,eG MW),(3,.ptr 0 0 0),(6,.dA 1 0 g1.2.1.length false),(7,.dA 2 0 g1.2.2.length false),(10,bP jl),(11,iV (jl.length:Int)),(12,iV g1.1)],[(0,some (.box [aY b_.bM,aQ b_.aT,iV b_.aU.bT,aX b_.aU.aF,bV b_.bg,bG b_.bF])),(1,some (.row 1 g1.2.1.length (bD AV.str ByteArray.empty g1.2.1))),(2,some (.row 1 g1.2.2.length (bD iV 0 g1.2.2)))],3⟩) [(1,none),(2,none)] [] <|λ av g1 m=>si m (λ _ m=>s2 m λ _ _ m=>s2 m λ _ _ m=>s2 m λ _ _ m=>lc [(1,some 339),(2,some 451)] [] m) λ _ m=>sn m λ _ m=>by cases m;exact rt [51,2] []
theorem D7 {f_:ByteArray} (m:Bo f_ r):S 174 [.str f_] [] (.bool r) [] :=sp Tryz.func174 rfl<|sq m qP λ v1 m=>by cases m;exact re
theorem uN {s_:List ByteArray} {r:Int} (m:qc s_ r):S 231 [eG s_,.fn 174 []] [] (iV r) [] :=sp Tryz.func231 rfl<|l0 m (λ g1=>⟨[(0,eG s_),(1,.fn 174 []),(7,iV (s_.length:Int)),(8,iV g1)],[],0⟩) <|λ av g1 m=>si m (λ _ m=>sn m λ _ m=>sq m D7 λ v3 m=>by
 have c6:=m.1
 have m:=m.2
 refine aj (λ q=>Bool.noConfusion (c6.symm.trans q)) (λ _=>?_)
 (conv=>whnf)
 refine ah m λ h6 m=>?_
 (conv=>whnf)
 exact ⟨(g1+(1:Int)),[],[],m,⟨rfl,⟨sr,⟨rfl,trivial⟩,r2,r2,trivial⟩,trivial⟩⟩) λ _ m=>by cases m;exact re
theorem qZ {s_:List ByteArray} (m:mO s_ r):S 173 [eG s_,.fn 174 []] [] (.bool r) [] :=sp Tryz.func173 rfl<|sq m uN λ v1 m=>by cases m;exact re
theorem LM {eU:ByteArray} {r:List Int} (m:MX p_ eU r):S 232 [jk p_,.str eU] [] (au r) [] :=sp Tryz.func232 rfl<|sq m o8 λ v1 m=>by
 have c1:=m.1
 have m:=m.2
 refine aj (λ q=>Bool.noConfusion (c1.symm.trans q)) (λ _=>?_)
 (conv=>whnf)
 refine aP (ct:=[]) bO dk m (λ g1=>⟨[(1,.str eU),(5,.dA 0 0 g1.2.length false),(12,aX p_.aF),(13,iV (p_.aF.length:Int)),(14,iV g1.1)],[(0,some (.row 1 g1.2.length (bD iV 0 g1.2)))],1⟩) [(0,none)] [] ⟨rfl,⟨rfl,⟨rfl,rfl,rfl,rfl,rfl,rfl⟩,sr,r2,r2,trivial⟩,⟨rfl,trivial⟩⟩ ?_
 intro av g1 m
 (conv=>whnf)
 refine dI m (λ c6 m=>?_) (λ c6 m=>?_)
 ·(conv=>whnf)
  refine ah m λ h7 m=>?_
  (conv=>whnf)
  refine aI m λ v4 hv4 m=>?_
  refine ⟨_,_,(mh hv4),?_⟩
  (conv=>whnf)
  have c7:=m.1
  have m:=m.2
  refine aj (λ _=>?_) (λ q=>Bool.noConfusion (q.symm.trans c7))
  (conv=>whnf)
  refine ah m λ h8 m=>?_
  (conv=>whnf)
  refine ah m λ h9 m=>?_
  (conv=>whnf)
  exact ⟨((g1.1+(1:Int)),(g1.2++([g1.1]:List Int))),[(0,some 225)],[],m,⟨rfl,⟨rfl,⟨rfl,rfl,rfl,oz,nofun⟩,sr,r2,r2,trivial⟩,⟨⟨rfl,oz,(gD rfl (λ _ _=>.refl _) rfl (fM iV 0 [g1.1]))⟩,trivial⟩⟩⟩
 ·(conv=>whnf)
  have m:r=g1.2:=m
  subst m
  refine ⟨[0],[],?_⟩
  (conv=>whnf)
  exact ⟨⟨rfl,trivial,trivial⟩,sf⟩
theorem D8 {eU:ByteArray} {r:List Int} (m:Bp p_ eU r):S 175 [jk p_,.str eU] [] (au r) [] :=sp Tryz.func175 rfl<|sq m LM λ v1 m=>by cases m;exact re
variable {dP:List Int}
theorem pQ {l_:List ByteArray} {r:eP×Int} (m:tq p_ l_ dP r):S 100 [jk p_,eG l_,au dP] [] (.jg [Ia r.1,iV r.2]) [] :=sp Tryz.func100 rfl<|sq m o8 λ v1 m=>sb m λ v2 hv2 m=>cl (λ q0=>(qZ (hv2 q0)))<|by
 have c1:=m.1
 have m:=m.2
 refine aj (λ q=>Bool.noConfusion (c1.symm.trans q)) (λ _=>?_)
 (conv=>whnf)
 refine aP (ct:=[]) bO dk m (λ g1=>⟨[(1,eG l_),(2,au dP),(3,.ptr 0 0 0),(6,.ptr 1 0 0),(8,.ptr 2 0 0),(31,eG l_),(32,iV (l_.length:Int)),(33,iV g1.1)],[(0,some (.box [iV p_.bT,aX p_.aF])),(1,some (.box [.sl 0 0 true eu,.sl 0 0 true eu,.sl 0 0 true eu,.int .u64 (0:Int)])),(2,some (.box [.dA 3 0 g1.2.length false,.sl 0 0 true eu,.sl 0 0 true eu,.int .u64 (0:Int)])),(3,some (.row 1 g1.2.length (bD au [] g1.2)))],4⟩) [(1,some 16),(2,some 240),(3,none)] [] ⟨rfl,⟨sr,sr,r4,r4,r4,sr,r2,r2,trivial⟩,⟨⟨r2,sr,trivial⟩,⟨sr,sr,sr,r2,trivial⟩,⟨⟨rfl,rfl,rfl,rfl,rfl,rfl⟩,sr,sr,r2,trivial⟩,rfl,trivial⟩⟩ ?_
 intro av g1 m
 (conv=>whnf)
 refine dI m (λ c4 m=>?_) (λ c4 m=>?_)
 ·(conv=>whnf)
  refine ah m λ h7 m=>?_
  (conv=>whnf)
  refine aI m λ v5 hv5 m=>?_
  refine ⟨_,_,(D8 hv5),?_⟩
  (conv=>whnf)
  refine ah m λ h8 m=>?_
  (conv=>whnf)
  refine ah m λ h9 m=>?_
  (conv=>whnf)
  exact ⟨((g1.1+(1:Int)),(g1.2++([v5]:List (List Int)))),[(3,some 164)],[],m,⟨rfl,⟨sr,sr,r4,r4,r4,sr,r2,r2,trivial⟩,⟨⟨r2,sr,trivial⟩,⟨sr,sr,sr,r2,trivial⟩,⟨⟨rfl,rfl,rfl,oz,nofun⟩,sr,sr,r2,trivial⟩,⟨rfl,oz,(gD rfl (λ _ _=>.refl _) rfl (fM au [] [v5]))⟩,trivial⟩⟩⟩
 ·(conv=>whnf)
  refine aP (ct:=[]) bO dk m (λ g2=>⟨[(1,eG l_),(2,au dP),(6,.ptr 0 0 0),(8,.ptr 1 0 0),(47,aX p_.aF),(48,iV (p_.aF.length:Int)),(49,iV g2.1)],[(0,some (.box [.sl 0 0 true eu,.sl 0 0 true eu,.sl 0 0 true eu,.int .u64 (0:Int)])),(1,some (.box [.dA 2 0 g1.2.length false,.dA 3 0 g2.2.length false,.sl 0 0 true eu,.int .u64 (0:Int)])),(2,some (.row 1 g1.2.length (bD au [] g1.2))),(3,some (.row 1 g2.2.length (bD (AV.int .u64) 0 g2.2)))],4⟩) [(0,some 1),(1,some 2),(2,some 3),(3,none)] [] ⟨rfl,⟨sr,sr,r4,r4,sr,r2,r2,trivial⟩,⟨⟨sr,sr,sr,r2,trivial⟩,⟨⟨rfl,rfl,rfl,rfl,nofun⟩,⟨rfl,rfl,rfl,rfl,rfl,rfl⟩,sr,r2,trivial⟩,⟨rfl,rfl,(λ _ _=>.refl _)⟩,rfl,trivial⟩⟩ ?_
  intro dL g2 m
  (conv=>whnf)
  refine dI m (λ c13 m=>?_) (λ c13 m=>?_)
  ·(conv=>whnf)
   refine ah m λ h34 m=>?_
   (conv=>whnf)
   refine aP (ct:=[]) bO dk m (λ g5=>⟨[(1,eG l_),(2,au dP),(6,.ptr 0 0 0),(8,.ptr 1 0 0),(13,.int .u64 g5.1),(47,aX p_.aF),(48,iV (p_.aF.length:Int)),(49,iV g2.1),(54,au ((p_.aF.getD g2.1.toNat aM).bT)),(55,iV ((((p_.aF.getD g2.1.toNat aM).bT).length:Nat):Int)),(56,iV g5.2)],[(0,some (.box [.sl 0 0 true eu,.sl 0 0 true eu,.sl 0 0 true eu,.int .u64 (0:Int)])),(1,some (.box [.dA 2 0 g1.2.length false,.dA 3 0 g2.2.length false,.sl 0 0 true eu,.int .u64 (0:Int)])),(2,some (.row 1 g1.2.length (bD au [] g1.2))),(3,some (.row 1 g2.2.length (bD (AV.int .u64) 0 g2.2)))],4⟩) [] [] ⟨rfl,⟨sr,sr,r4,r4,r2,sr,r2,r2,sr,r2,r2,trivial⟩,⟨⟨sr,sr,sr,r2,trivial⟩,⟨⟨rfl,rfl,rfl,rfl,nofun⟩,⟨rfl,rfl,rfl,rfl,nofun⟩,sr,r2,trivial⟩,⟨rfl,rfl,(λ _ _=>.refl _)⟩,⟨rfl,rfl,(λ _ _=>.refl _)⟩,trivial⟩⟩ ?_
   intro uT g5 m
   (conv=>whnf)
   refine dI m (λ c16 m=>?_) (λ c16 m=>?_)
   ·(conv=>whnf)
    refine ah m λ h41 m=>?_
    (conv=>whnf)
    refine ah m λ h42 m=>?_
    (conv=>whnf)
    refine ah m λ h43 m=>?_
    (conv=>whnf)
    exact ⟨((orI .u64 g5.1 (acS .u64 (1:Int) (((p_.aF.getD g2.1.toNat aM).bT).getD g5.2.toNat 0))),(g5.2+(1:Int))),[],[],m,⟨rfl,⟨sr,sr,r4,r4,r2,sr,r2,r2,sr,r2,r2,trivial⟩,⟨⟨sr,sr,sr,r2,trivial⟩,⟨⟨rfl,rfl,rfl,rfl,nofun⟩,⟨rfl,rfl,rfl,rfl,nofun⟩,sr,r2,trivial⟩,⟨rfl,rfl,(λ _ _=>.refl _)⟩,⟨rfl,rfl,(λ _ _=>.refl _)⟩,trivial⟩⟩⟩
   ·(conv=>whnf)
    refine ah m λ h44 m=>?_
    (conv=>whnf)
    refine ah m λ h45 m=>?_
    (conv=>whnf)
    exact ⟨((g2.1+(1:Int)),(g2.2++([g5.1]:List Int))),[(3,some 84)],[],m,⟨rfl,⟨sr,sr,r4,r4,sr,r2,r2,trivial⟩,⟨⟨sr,sr,sr,r2,trivial⟩,⟨⟨rfl,rfl,rfl,rfl,nofun⟩,⟨rfl,rfl,rfl,oz,nofun⟩,sr,r2,trivial⟩,⟨rfl,rfl,(λ _ _=>.refl _)⟩,⟨rfl,oz,(gD rfl (λ _ _=>.refl _) rfl (fM (AV.int .u64) 0 [g5.1]))⟩,trivial⟩⟩⟩
  ·(conv=>whnf)
   have c17:=m.1
   have m:=m.2
   refine aj (λ q=>Bool.noConfusion (c17.symm.trans q)) (λ _=>?_)
   (conv=>whnf)
   refine aP (ct:=[]) bO dk m (λ g6=>⟨[(2,au dP),(6,.ptr 0 0 0),(8,.ptr 1 0 0),(78,au dP),(79,iV (dP.length:Int)),(80,iV g6.1)],[(0,some (.box [.sl 0 0 true eu,.sl 0 0 true eu,.sl 0 0 true eu,.int .u64 (0:Int)])),(1,some (.box [.dA 2 0 g1.2.length false,.dA 3 0 g2.2.length false,.sl 0 0 true eu,.int .u64 g6.2])),(2,some (.row 1 g1.2.length (bD au [] g1.2))),(3,some (.row 1 g2.2.length (bD (AV.int .u64) 0 g2.2)))],4⟩) [] [] ⟨rfl,⟨sr,r4,r4,sr,r2,r2,trivial⟩,⟨⟨sr,sr,sr,r2,trivial⟩,⟨⟨rfl,rfl,rfl,rfl,nofun⟩,⟨rfl,rfl,rfl,rfl,nofun⟩,sr,r2,trivial⟩,⟨rfl,rfl,(λ _ _=>.refl _)⟩,⟨rfl,rfl,(λ _ _=>.refl _)⟩,trivial⟩⟩ ?_
   intro jL g6 m
   (conv=>whnf)
   refine dI m (λ c22 m=>?_) (λ c22 m=>?_)
   ·(conv=>whnf)
    refine ah m λ h56 m=>?_
    (conv=>whnf)
    refine ah m λ h57 m=>?_
    (conv=>whnf)
    refine aI m λ v8 OB m=>?_
    refine ⟨_,_,(bR OB),?_⟩
    (conv=>whnf)
    refine ah m λ h58 m=>?_
    (conv=>whnf)
    have c23:=m.1
    have m:=m.2
    refine aj (λ q=>Bool.noConfusion (c23.symm.trans q)) (λ _=>?_)
    (conv=>whnf)
    refine ah m λ h59 m=>?_
    (conv=>whnf)
    refine ah m λ h60 m=>?_
    (conv=>whnf)
    exact ⟨((g6.1+(1:Int)),(orI .u64 g6.2 (g2.2.getD ((dP.getD g6.1.toNat 0).toNat) 0))),[],[],m,⟨rfl,⟨sr,r4,r4,sr,r2,r2,trivial⟩,⟨⟨sr,sr,sr,r2,trivial⟩,⟨⟨rfl,rfl,rfl,rfl,nofun⟩,⟨rfl,rfl,rfl,rfl,nofun⟩,sr,r2,trivial⟩,⟨rfl,rfl,(λ _ _=>.refl _)⟩,⟨rfl,rfl,(λ _ _=>.refl _)⟩,trivial⟩⟩⟩
   ·(conv=>whnf)
    have m:r=((⟨g1.2,g2.2,dP,g6.2⟩:eP),(0:Int)):=m
    subst m
    refine ⟨[2,3],[],?_⟩
    (conv=>whnf)
    exact ⟨⟨rfl,trivial,trivial⟩,(by (conv=>whnf); exact ⟨(by (conv=>whnf); exact ⟨(by (conv=>whnf); exact sf),(by (conv=>whnf); exact ⟨(by (conv=>whnf); exact sf),(by (conv=>whnf); exact ⟨(by (conv=>whnf); exact sf),(by (conv=>whnf); exact ⟨(by (conv=>whnf); exact r2),trivial⟩)⟩)⟩)⟩),(by (conv=>whnf); exact ⟨(by first | ((conv=>whnf); exact r2) | exact r2),trivial⟩)⟩)⟩
theorem nT {x_:eP} {r:List Int} (m:mP x_ r):S 102 [Ia x_] [] (au r) [] :=sp Tryz.func102 rfl<|lf m (λ g1=>⟨[(1,.ptr 0 0 0),(3,.dA 1 0 g1.2.length false),(4,iV g1.1)],[(0,some (.box [fB x_.dH,Fq x_.jF,au x_.vY,.int .u64 x_.rZ])),(1,some (.row 1 g1.2.length (bD iV 0 g1.2)))],2⟩) [(1,none)] [] <|λ av g1 m=>si m (λ _ m=>s2 m λ _ _ m=>lc [(1,some 130)] [] m) λ _ m=>by cases m;exact rt [1] []
theorem uO {iH:Int} {BR:List Int} {pE:eP} {qd:List Int} {r:Bool×eP} (m:qg iH BR pE qd r):S 176 [.int .u64 iH,.ptr 0 0 0,.ptr 1 0 0,.ptr 2 0 0,.ptr 3 0 0] [.box [.dA 4 0 qd.length false],.box [au BR],.box [fB pE.dH,Fq pE.jF,au pE.vY,.int .u64 pE.rZ],.box [.fn 176 [.ptr 0 0 0,.ptr 1 0 0,.ptr 2 0 0,.ptr 3 0 0]],.row 1 qd.length (bD iV 0 qd)] (.bool r.1) [.box [.dA 4 0 qd.length false],.box [au BR],.box [fB r.2.dH,Fq r.2.jF,au r.2.vY,.int .u64 r.2.rZ],.box [.fn 176 [.ptr 0 0 0,.ptr 1 0 0,.ptr 2 0 0,.ptr 3 0 0]],.row 1 qd.length (bD iV 0 qd)] :=sp Tryz.func176 rfl<|by
 have c1:=m.1
 have m:=m.2
 refine aj (λ q=>Bool.noConfusion (c1.symm.trans q)) (λ _=>?_)
 (conv=>whnf)
 refine ah m λ h1 m=>?_
 (conv=>whnf)
 refine ah m λ h2 m=>?_
 (conv=>whnf)
 refine aP (ct:=[]) bO dk m (λ g1=>⟨[(0,.int .u64 iH),(1,.ptr 0 0 0),(3,.ptr 2 0 0),(4,.ptr 3 0 0),(22,au (pE.dH.getD ((BR.getD ((qd.length:Int).toNat) 0).toNat) [])),(23,iV (((pE.dH.getD ((BR.getD ((qd.length:Int).toNat) 0).toNat) []).length:Nat):Int)),(24,iV g1)],[(0,some (.box [.dA 4 0 qd.length false])),(1,some (.box [au BR])),(2,some (.box [fB pE.dH,Fq pE.jF,au pE.vY,.int .u64 pE.rZ])),(3,some (.box [.fn 176 [.ptr 0 0 0,.ptr 1 0 0,.ptr 2 0 0,.ptr 3 0 0]])),(4,some (.row 1 qd.length (bD iV 0 qd)))],5⟩) [] [] ⟨rfl,⟨r2,r4,r4,r4,sr,r2,r2,trivial⟩,⟨⟨⟨rfl,rfl,rfl,rfl,nofun⟩,trivial⟩,⟨sr,trivial⟩,⟨sr,sr,sr,r2,trivial⟩,⟨⟨rfl,r4,r4,r4,r4,trivial⟩,trivial⟩,⟨rfl,rfl,(λ _ _=>.refl _)⟩,trivial⟩⟩ ?_
 intro av g1 m
 (conv=>whnf)
 refine dI m (λ c6 m=>?_) (λ c6 m=>?_)
 ·(conv=>whnf)
  refine ah m λ h9 m=>?_
  (conv=>whnf)
  refine ah m λ h10 m=>?_
  (conv=>whnf)
  have c7:=m.1
  have m:=m.2
  refine aj (λ _=>?_) (λ q=>Bool.noConfusion (q.symm.trans c7))
  (conv=>whnf)
  refine ah m λ h11 m=>?_
  (conv=>whnf)
  exact ⟨(g1+(1:Int)),[],[],m,⟨rfl,⟨r2,r4,r4,r4,sr,r2,r2,trivial⟩,⟨⟨⟨rfl,rfl,rfl,rfl,nofun⟩,trivial⟩,⟨sr,trivial⟩,⟨sr,sr,sr,r2,trivial⟩,⟨⟨rfl,r4,r4,r4,r4,trivial⟩,trivial⟩,⟨rfl,rfl,(λ _ _=>.refl _)⟩,trivial⟩⟩⟩
 ·(conv=>whnf)
  have m:r=(false,pE):=m
  subst m
  refine ⟨[],[],?_⟩
  (conv=>whnf)
  exact ⟨⟨rfl,trivial,⟨⟨⟨rfl,rfl,rfl,rfl,nofun⟩,trivial⟩,⟨sr,trivial⟩,⟨sf,sf,sf,r2,trivial⟩,⟨⟨rfl,r4,r4,r4,r4,trivial⟩,trivial⟩,⟨rfl,rfl,(λ _ _=>.refl _)⟩,trivial⟩⟩,rfl⟩
theorem ni {x_:eP} {EC:List Int} {r:List Int×Bool} (m:lV x_ EC r):S 101 [Ia x_,au EC] [] (.jg [au r.1,.bool r.2]) [] :=sp Tryz.func101 rfl<|sn m λ _ m=>sb m λ v1 hv1 m=>cl ((uO hv1).le ⟨.refl _,.refl _,.refl _,.refl _,.refl _,trivial⟩ ⟨jS _,jS _,jS _,jS _,⟨rfl,rfl,(λ _ h=>absurd h (Nat.not_lt_zero _))⟩,trivial⟩)<|by cases m;exact rt [96] []
theorem EX {l_:List ByteArray} {r:List Int×Int} (m:Dq p_ l_ dP r):S 83 [jk p_,eG l_,au dP] [] (.jg [au r.1,iV r.2]) [] :=sp Tryz.func83 rfl<|sq m pQ λ v1 m=>by
 have c1:=m.1
 have m:=m.2
 refine aj (λ q=>Bool.noConfusion (c1.symm.trans q)) (λ _=>?_)
 (conv=>whnf)
 refine aI m λ v2 hv2 m=>?_
 refine ⟨_,_,(nT hv2),?_⟩
 (conv=>whnf)
 refine aI m λ v3 hv3 m=>?_
 refine ⟨_,_,(ni hv3),?_⟩
 (conv=>whnf)
 have c2:=m.1
 have m:=m.2
 refine aj (λ _=>?_) (λ q=>Bool.noConfusion (q.symm.trans c2))
 (conv=>whnf)
 have m:r=(([]:List Int),(9:Int)):=m
 subst m
 refine ⟨[],[],?_⟩
 (conv=>whnf)
 exact ⟨⟨rfl,trivial,trivial⟩,⟨⟨rfl,(λ h=>absurd rfl h),nofun,(λ _ h=>absurd h (Nat.not_lt_zero _))⟩,r2,trivial⟩⟩
theorem JZ {r:cZ×Int×Int} (m:Ja b_ l_ g_ aV bA r):S 42 [gP b_,bC l_,.dA 0 0 bA.length true,nV g_,iV aV] [.row 1 bA.length (bD iV 0 bA)] (.jg [nV r.1,iV r.2.1,iV r.2.2]) [.row 1 bA.length (bD iV 0 bA)] :=spc [13] Tryz.func42 rfl<|sb m λ v1 hv1 m=>cl ((JM hv1).le ⟨.refl _,.refl _,(.sl rfl (λ _=>rfl) nofun (λ _ _=>.refl _)),.refl _,.refl _,trivial⟩ trivial)<|by
 have c1:=m.1
 have m:=m.2
 refine aj (λ q=>Bool.noConfusion (c1.symm.trans q)) (λ _=>?_)
 (conv=>whnf)
 refine aI m λ v2 hv2 m=>?_
 refine ⟨_,_,((bR hv2).le ⟨(.sl rfl (λ _=>rfl) nofun (λ _ _=>.refl _)),.refl _,trivial⟩ trivial),?_⟩
 (conv=>whnf)
 have c2:=m.1
 have m:=m.2
 refine aj (λ q=>Bool.noConfusion (c2.symm.trans q)) (λ _=>?_)
 (conv=>whnf)
 refine SL (ct:=[13]) bO dk dk (zC b_ l_ aV bA) r (λ g2=>⟨[(1,bC l_),(2,.dA 0 0 bA.length false),(4,iV aV),(5,.ptr 1 0 0),(10,.ptr 2 0 0),(14,bP g2)],[(0,some (.row 1 bA.length (bD iV 0 bA))),(1,some (.box [aY b_.bM,aQ b_.aT,iV b_.aU.bT,aX b_.aU.aF,bV b_.bg,bG b_.bF])),(2,some (.box [.sl 0 0 true eu,.sl 0 0 true eu,.sl 0 0 true eu,.sl 0 0 true eu,.sl 0 0 true eu,.sl 0 0 true eu]))],3⟩) ?_ (λ g2 m=>?_)
 ·(conv=>whnf)
  refine aP (ct:=[13]) bO dk m (λ g3=>⟨[(1,bC l_),(2,.dA 0 0 bA.length false),(4,iV aV),(5,.ptr 1 0 0),(10,.ptr 2 0 0),(14,.dA 3 0 g3.2.length false),(41,bP g_.dR),(42,iV (g_.dR.length:Int)),(43,iV g3.1)],[(0,some (.row 1 bA.length (bD iV 0 bA))),(1,some (.box [aY b_.bM,aQ b_.aT,iV b_.aU.bT,aX b_.aU.aF,bV b_.bg,bG b_.bF])),(2,some (.box [.sl 0 0 true eu,.sl 0 0 true eu,.sl 0 0 true eu,.sl 0 0 true eu,.sl 0 0 true eu,.sl 0 0 true eu])),(3,some (.row 3 g3.2.length (bD oP cK g3.2)))],4⟩) [(2,some 33),(3,none)] [] ⟨rfl,⟨sr,⟨rfl,rfl,rfl,rfl,nofun⟩,r2,r4,r4,⟨rfl,rfl,rfl,rfl,rfl,rfl⟩,sr,r2,r2,trivial⟩,⟨⟨rfl,rfl,(λ _ _=>.refl _)⟩,⟨sr,sr,r2,sr,sr,sr,trivial⟩,⟨sr,sr,sr,sr,sr,sr,trivial⟩,rfl,trivial⟩⟩ ?_
  intro iZ g3 m
  (conv=>whnf)
  refine dI m (λ c15 m=>?_) (λ c15 m=>?_)
  ·(conv=>whnf)
   refine ah m λ h18 m=>?_
   (conv=>whnf)
   refine aI m λ v12 aal m=>?_
   refine ⟨_,_,(bR aal),?_⟩
   (conv=>whnf)
   have c16:=m.1
   have m:=m.2
   refine aj (λ _=>?_) (λ q=>Bool.noConfusion (q.symm.trans c16))
   (conv=>whnf)
   refine ah m λ h19 m=>?_
   (conv=>whnf)
   refine ah m λ h20 m=>?_
   (conv=>whnf)
   exact ⟨((g3.1+(1:Int)),(g3.2++([(⟨(g_.dR.getD g3.1.toNat cK).dM,((g_.dR.getD g3.1.toNat cK).wV)⟩:bN)]:List bN))),[(3,some 196)],[],m,⟨rfl,⟨sr,⟨rfl,rfl,rfl,rfl,nofun⟩,r2,r4,r4,⟨rfl,rfl,rfl,oz,nofun⟩,sr,r2,r2,trivial⟩,⟨⟨rfl,rfl,(λ _ _=>.refl _)⟩,⟨sr,sr,r2,sr,sr,sr,trivial⟩,⟨sr,sr,sr,sr,sr,sr,trivial⟩,⟨rfl,oz,(gD rfl (λ _ _=>.refl _) rfl (fM oP cK [(⟨(g_.dR.getD g3.1.toNat cK).dM,((g_.dR.getD g3.1.toNat cK).wV)⟩:bN)]))⟩,trivial⟩⟩⟩
  ·(conv=>whnf)
   exact ⟨g3.2,[],[3],m,⟨rfl,⟨sr,⟨rfl,rfl,rfl,rfl,nofun⟩,r2,r4,r4,sf,trivial⟩,⟨⟨rfl,rfl,(λ _ _=>.refl _)⟩,⟨sr,sr,r2,sr,sr,sr,trivial⟩,⟨sr,sr,sr,sr,sr,sr,trivial⟩,trivial⟩⟩⟩
 ·(conv=>whnf)
  refine aI m λ v6 hv6 m=>?_
  refine ⟨_,_,(oL hv6),?_⟩
  (conv=>whnf)
  refine ah m λ h10 m=>?_
  (conv=>whnf)
  refine aI m λ v7 hv7 m=>?_
  refine ⟨_,_,((LK hv7).le ⟨.refl _,.refl _,(.sl oz (λ _=>rfl) nofun (gD rfl (λ _ _=>.refl _) rfl (fM iV 0 [aV]))),.refl _,trivial⟩ trivial),?_⟩
  (conv=>whnf)
  have c9:=m.1
  have m:=m.2
  refine aj (λ q=>Bool.noConfusion (c9.symm.trans q)) (λ _=>?_)
  (conv=>whnf)
  refine ah m λ h11 m=>?_
  (conv=>whnf)
  refine aI m λ v8 OB m=>?_
  refine ⟨_,_,(sU OB),?_⟩
  (conv=>whnf)
  refine aI m λ v9 UW m=>?_
  refine ⟨_,_,(EX UW),?_⟩
  (conv=>whnf)
  have c10:=m.1
  have m:=m.2
  refine aj (λ _=>?_) (λ q=>Bool.noConfusion (q.symm.trans c10))
  (conv=>whnf)
  have m:r=((⟨([]:List Int),(⟨([]:List Bool),([]:List Int)⟩:dO),([]:List bN),([]:List Bool),([]:List Bool)⟩:cZ),(3:Int),(45:Int)):=m
  subst m
  refine ⟨[],[],?_⟩
  (conv=>whnf)
  exact ⟨⟨rfl,trivial,⟨⟨rfl,rfl,(λ _ _=>.refl _)⟩,trivial⟩⟩,⟨⟨⟨rfl,(λ h=>absurd rfl h),nofun,(λ _ h=>absurd h (Nat.not_lt_zero _))⟩,⟨rfl,(λ h=>absurd rfl h),nofun,(λ _ h=>absurd h (Nat.not_lt_zero _))⟩,⟨rfl,(λ h=>absurd rfl h),nofun,(λ _ h=>absurd h (Nat.not_lt_zero _))⟩,⟨rfl,(λ h=>absurd rfl h),nofun,(λ _ h=>absurd h (Nat.not_lt_zero _))⟩,⟨rfl,(λ h=>absurd rfl h),nofun,(λ _ h=>absurd h (Nat.not_lt_zero _))⟩,⟨rfl,(λ h=>absurd rfl h),nofun,(λ _ h=>absurd h (Nat.not_lt_zero _))⟩,trivial⟩,r2,r2,trivial⟩⟩
theorem oM {r:List Int} (m:nY bA r):S 23 [.dA 0 0 bA.length true] [.row 1 bA.length (bD iV 0 bA)] (.dA 1 0 r.length false) [.row 1 bA.length (bD iV 0 bA),.row 1 r.length (bD iV 0 r)] :=by
 obtain ⟨h1,m⟩:=m
 have m:r=bA:=m
 subst m
 refine jX (ct:=[1]) bO Tryz.func23 rfl rfl (Nat.le_of_ble_eq_true rfl) dk (Nat.le_of_ble_eq_true rfl) ?_
 (conv=>whnf)
 refine F7 (ct:=[]) bO (bO.slice (t:=22) (e:=3) rfl rfl rfl).1 dk dk dk dk dk [(2,.iK),(0,.dA 0 0 r.length true)] [(0,some (.row 1 r.length (bD iV 0 r)))] 17 rfl rfl ?_ (λ hn=>?_) ?_
 ·exact rfl
 ·(conv=>whnf)
  have hn:r.length=0:=hn
  refine ⟨[],[(1,none)],?_⟩
  (conv=>whnf)
  exact ⟨⟨rfl,trivial,⟨⟨rfl,rfl,λ _ _=>.refl _⟩,hn,trivial⟩⟩,⟨rfl,rfl,rfl,rfl,rfl,hn⟩⟩
 ·(conv=>whnf)
  refine ⟨by rw [Nat.zero_add]; exact h1,?_⟩
  (conv=>whnf)
  refine ⟨[],[(1,some 49)],?_⟩
  (conv=>whnf)
  exact ⟨⟨rfl,trivial,⟨⟨rfl,rfl,λ _ _=>.refl _⟩,⟨rfl,Nat.zero_add _,gD (l:=[]) rfl (λ _ h=>absurd h (Nat.not_lt_zero _)) rfl (λ _ _=>.refl _)⟩,trivial⟩⟩,⟨rfl,rfl,rfl,Nat.zero_add _,nofun⟩⟩
theorem J2 {r:List Int} (m:Jb aV bA r):S 43 [.dA 0 0 bA.length true,iV aV] [.row 1 bA.length (bD iV 0 bA)] (au r) [.row 1 bA.length (bD iV 0 bA)] :=sp Tryz.func43 rfl<|sq m oM λ v1 m=>sn m λ _ m=>by cases m;exact rt [81] []
theorem wS {s_:List bN} {r:List bN} (m:rE s_ r):S 98 [bP s_] [] (.dA 0 0 r.length false) [.row 3 r.length (bD oP cK r)] :=by
 obtain ⟨h1,m⟩:=m
 have m:r=s_:=m
 subst m
 refine jX (ct:=[1]) bO Tryz.func98 rfl rfl (Nat.le_of_ble_eq_true rfl) dk (Nat.le_of_ble_eq_true rfl) ?_
 (conv=>whnf)
 refine PU (ct:=[]) bO (bO.slice (t:=51) (e:=103) rfl rfl rfl).1 dk dk dk dk dk [(2,.iK),(0,bP r)] [] 16 rfl ?_ (λ hn=>?_) ?_
 ·exact rfl
 ·(conv=>whnf)
  have hn:r.length=0:=hn
  refine ⟨[],[(0,none)],?_⟩
  (conv=>whnf)
  exact ⟨⟨rfl,trivial,⟨hn,trivial⟩⟩,⟨rfl,rfl,rfl,rfl,rfl,hn⟩⟩
 ·(conv=>whnf)
  refine ⟨by rw [Nat.zero_add]; exact h1,?_⟩
  (conv=>whnf)
  refine ⟨[],[(0,some 48)],?_⟩
  (conv=>whnf)
  exact ⟨⟨rfl,trivial,⟨⟨rfl,Nat.zero_add _,gD (l:=[]) rfl (λ _ h=>absurd h (Nat.not_lt_zero _)) rfl (λ _ _=>.refl _)⟩,trivial⟩⟩,⟨rfl,rfl,rfl,Nat.zero_add _,nofun⟩⟩
theorem EY {u_:bN} {a1_:List Int} (m:Dr u_ a1_ r):S 99 [oP u_,.ro [au a1_]] [] (.bool r) [] :=sp Tryz.func99 rfl<|sq m bR λ v1 m=>by cases m;exact re
theorem sV {s_:List bN} {f_:List Int} {r:Int} (m:nR s_ f_ r):S 172 [bP s_,.fn 99 [.ro [au f_]]] [] (iV r) [] :=sp Tryz.func172 rfl<|l0 m (λ g1=>⟨[(0,bP s_),(1,.fn 99 [.ro [au f_]]),(7,iV (s_.length:Int)),(8,iV g1)],[],0⟩) <|λ av g1 m=>si m (λ _ m=>sn m λ _ m=>sq m EY λ v3 m=>by
 have c6:=m.1
 have m:=m.2
 refine aj (λ q=>Bool.noConfusion (c6.symm.trans q)) (λ _=>?_)
 (conv=>whnf)
 refine ah m λ h6 m=>?_
 (conv=>whnf)
 exact ⟨(g1+(1:Int)),[],[],m,⟨rfl,⟨sr,⟨rfl,Fg.refl _,trivial⟩,r2,r2,trivial⟩,trivial⟩⟩) λ _ m=>by cases m;exact re
theorem ru {adM:List Int} {bA:List bN} {r:Unit} (m:mQ adM bA r):S 97 [.dA 0 0 bA.length false,.fn 99 [.ro [au adM]]] [.row 3 bA.length (bD oP cK bA)] (.dA 0 0 bA.length false) [.row 3 bA.length (bD oP cK bA)] :=sp Tryz.func97 rfl<|sq m sV λ v1 m=>by
 have c1:=m.1
 have m:=m.2
 refine aj (λ _=>?_) (λ q=>Bool.noConfusion (q.symm.trans c1))
 (conv=>whnf)
 have m:r=():=m
 subst m
 refine ⟨[],[],?_⟩
 (conv=>whnf)
 exact ⟨⟨rfl,trivial,⟨⟨rfl,rfl,(λ _ _=>.refl _)⟩,trivial⟩⟩,⟨rfl,rfl,rfl,rfl,nofun⟩⟩
theorem J3 {r:List bN} (m:Jc g_ ak r):S 48 [nV g_,au ak] [] (bP r) [] :=sp Tryz.func48 rfl<|sq m wS λ v1 m=>sq m ru λ v2 m=>by cases m;exact rt [80] []
theorem yT {OA:Int} {r:Bool×List Int} (m:uZ OA r):S 104 [iV OA,.ptr 0 0 0] [.box [.sl 0 0 true eu]] (.bool r.1) [.box [.dA 1 0 r.2.length false],.row 1 r.2.length (bD iV 0 r.2)] :=sp Tryz.func104 rfl<|sn m λ _ m=>by cases m;exact rt [] [(1,some 65)]
theorem uP {x_:eP} {k_:Int} {iH:Int} {r:Bool×List Int} (m:qh x_ k_ iH r):S 103 [Ia x_,iV k_,.int .u64 iH,.fn 104 [.ptr 0 0 0]] [.box [.sl 0 0 true eu]] (.bool r.1) [.box [.dA 1 0 r.2.length false],.row 1 r.2.length (bD iV 0 r.2)] :=sp Tryz.func103 rfl<|by
 have c1:=m.1
 have m:=m.2
 refine aj (λ q=>Bool.noConfusion (c1.symm.trans q)) (λ _=>?_)
 (conv=>whnf)
 refine aI m λ v1 hv1 m=>?_
 refine ⟨_,_,(yT hv1),?_⟩
 (conv=>whnf)
 have c2:=m.1
 have m:=m.2
 refine aj (λ q=>Bool.noConfusion (c2.symm.trans q)) (λ _=>?_)
 (conv=>whnf)
 refine ah m λ h1 m=>?_
 (conv=>whnf)
 refine aP (ct:=[]) bO dk m (λ g1=>⟨[(1,iV k_),(2,.int .u64 iH),(3,.fn 104 [.ptr 0 0 0]),(4,.ptr 1 0 0),(24,au (x_.dH.getD k_.toNat [])),(25,iV (((x_.dH.getD k_.toNat []).length:Nat):Int)),(26,iV g1)],[(0,some (.box [.dA 2 0 v1.2.length false])),(1,some (.box [fB x_.dH,Fq x_.jF,au x_.vY,.int .u64 x_.rZ])),(2,some (.row 1 v1.2.length (bD iV 0 v1.2)))],3⟩) [(2,some 145)] [] ⟨rfl,⟨r2,r2,⟨rfl,r4,trivial⟩,r4,sr,r2,r2,trivial⟩,⟨⟨⟨rfl,rfl,rfl,rfl,nofun⟩,trivial⟩,⟨sr,sr,sr,r2,trivial⟩,⟨rfl,rfl,(λ _ _=>.refl _)⟩,trivial⟩⟩ ?_
 intro av g1 m
 (conv=>whnf)
 refine dI m (λ c7 m=>?_) (λ c7 m=>?_)
 ·(conv=>whnf)
  refine ah m λ h14 m=>?_
  (conv=>whnf)
  refine ah m λ h15 m=>?_
  (conv=>whnf)
  refine ah m λ h16 m=>?_
  (conv=>whnf)
  refine ah m λ h17 m=>?_
  (conv=>whnf)
  have c8:=m.1
  have m:=m.2
  refine aj (λ q=>Bool.noConfusion (c8.symm.trans q)) (λ _=>?_)
  (conv=>whnf)
  refine ⟨(λ q0=>absurd q0 (vac c8)),?_⟩
  (conv=>whnf)
  refine ah m λ h18 m=>?_
  (conv=>whnf)
  refine ah m λ h19 m=>?_
  (conv=>whnf)
  exact ⟨(g1+(1:Int)),[],[],m,⟨rfl,⟨r2,r2,⟨rfl,r4,trivial⟩,r4,sr,r2,r2,trivial⟩,⟨⟨⟨rfl,rfl,rfl,rfl,nofun⟩,trivial⟩,⟨sr,sr,sr,r2,trivial⟩,⟨rfl,rfl,(λ _ _=>.refl _)⟩,trivial⟩⟩⟩
 ·(conv=>whnf)
  have m:r=(true,v1.2):=m
  subst m
  refine ⟨[],[(1,some 2)],?_⟩
  (conv=>whnf)
  exact ⟨⟨rfl,trivial,⟨⟨⟨rfl,rfl,rfl,rfl,nofun⟩,trivial⟩,⟨rfl,rfl,(λ _ _=>.refl _)⟩,trivial⟩⟩,rfl⟩
theorem EZ {l_:List ByteArray} {r:List Int×Int} (m:Dt p_ l_ dP r):S 50 [jk p_,eG l_,au dP] [] (.jg [au r.1,iV r.2]) [] :=sp Tryz.func50 rfl<|sq m pQ λ v1 m=>by
 have c1:=m.1
 have m:=m.2
 refine aj (λ q=>Bool.noConfusion (c1.symm.trans q)) (λ _=>?_)
 (conv=>whnf)
 refine aI m λ v2 hv2 m=>?_
 refine ⟨_,_,(nT hv2),?_⟩
 (conv=>whnf)
 refine aI m λ v3 hv3 m=>?_
 refine ⟨_,_,(ni hv3),?_⟩
 (conv=>whnf)
 have c2:=m.1
 have m:=m.2
 refine aj (λ q=>Bool.noConfusion (c2.symm.trans q)) (λ _=>?_)
 (conv=>whnf)
 refine aI m λ v4 hv4 m=>?_
 refine ⟨_,_,(uP hv4),?_⟩
 (conv=>whnf)
 have c3:=m.1
 have m:=m.2
 refine aj (λ q=>Bool.noConfusion (c3.symm.trans q)) (λ _=>?_)
 (conv=>whnf)
 have m:r=(v4.2,(0:Int)):=m
 subst m
 refine ⟨[512],[],?_⟩
 (conv=>whnf)
 exact ⟨⟨rfl,trivial,trivial⟩,(by (conv=>whnf); exact ⟨(by (conv=>whnf); exact sf),(by (conv=>whnf); exact ⟨(by first | ((conv=>whnf); exact r2) | exact r2),trivial⟩)⟩)⟩
theorem D9 {r:eT×Int} (m:Bq b_ l_ g_ aV bA r):S 15 [gP b_,bC l_,.dA 0 0 bA.length true,nV g_,iV aV] [.row 1 bA.length (bD iV 0 bA)] (.jg [vZ r.1,iV r.2]) [agt] :=sp Tryz.func15 rfl<|sq m JZ λ v1 m=>by
 have c1:=m.1
 have m:=m.2
 refine aj (λ q=>Bool.noConfusion (c1.symm.trans q)) (λ _=>?_)
 (conv=>whnf)
 refine aI m λ v2 hv2 m=>?_
 refine ⟨_,_,(oM hv2),?_⟩
 (conv=>whnf)
 refine aI m λ v3 hv3 m=>?_
 refine ⟨_,_,(J2 hv3),?_⟩
 (conv=>whnf)
 have c2:=m.1
 have m:=m.2
 refine aj (λ _=>?_) (λ q=>Bool.noConfusion (q.symm.trans c2))
 (conv=>whnf)
 have c3:=m.1
 have m:=m.2
 refine aj (λ q=>Bool.noConfusion (c3.symm.trans q)) (λ _=>?_)
 (conv=>whnf)
 have c4:=m.1
 have m:=m.2
 refine aj (λ q=>Bool.noConfusion (c4.symm.trans q)) (λ _=>?_)
 (conv=>whnf)
 have c5:=m.1
 have m:=m.2
 refine aj (λ q=>Bool.noConfusion (c5.symm.trans q)) (λ _=>?_)
 (conv=>whnf)
 refine aI m λ v4 hv4 m=>?_
 refine ⟨_,_,((J3 hv4).le ⟨.refl _,(.sl rfl (λ _=>rfl) nofun (λ _ _=>.refl _)),trivial⟩ trivial),?_⟩
 (conv=>whnf)
 refine ah m λ h1 m=>?_
 (conv=>whnf)
 refine aI m λ v5 hv5 m=>?_
 refine ⟨_,_,(sU hv5),?_⟩
 (conv=>whnf)
 refine aI m λ v6 hv6 m=>?_
 refine ⟨_,_,(EZ hv6),?_⟩
 (conv=>whnf)
 have c6:=m.1
 have m:=m.2
 refine aj (λ q=>Bool.noConfusion (c6.symm.trans q)) (λ _=>?_)
 (conv=>whnf)
 have m:r=((⟨(3:Int),aV,v2,([]:List xG),(⟨false,([]:List Int),(0:Int),(0:Int)⟩:Ad),v4,v6.1,(⟨([]:List Int),(⟨([]:List Bool),([]:List Int)⟩:dO),([]:List bN),([]:List Bool),([]:List Bool)⟩:cZ),([]:List (List Int)),(0:Int),([]:List Int)⟩:eT),(0:Int)):=m
 subst m
 refine ⟨[417],[],?_⟩
 (conv=>whnf)
 exact ⟨⟨rfl,trivial,trivial⟩,(by (conv=>whnf); exact ⟨(by (conv=>whnf); exact ⟨(by (conv=>whnf); exact r2),(by (conv=>whnf); exact ⟨(by (conv=>whnf); exact r2),(by (conv=>whnf); exact ⟨(by (conv=>whnf); exact sf),(by (conv=>whnf); exact ⟨(by (conv=>whnf); exact ⟨rfl,(λ h=>absurd rfl h),nofun,(λ _ h=>absurd h (Nat.not_lt_zero _))⟩),(by (conv=>whnf); exact ⟨(by first | ((conv=>whnf); exact rfl) | exact rfl),(by (conv=>whnf); exact ⟨(by (conv=>whnf); exact ⟨rfl,(λ h=>absurd rfl h),nofun,(λ _ h=>absurd h (Nat.not_lt_zero _))⟩),(by (conv=>whnf); exact ⟨(by (conv=>whnf); exact r2),(by (conv=>whnf); exact ⟨(by (conv=>whnf); exact r2),(by (conv=>whnf); exact ⟨(by (conv=>whnf); exact sf),(by (conv=>whnf); exact ⟨(by (conv=>whnf); exact sf),(by (conv=>whnf); exact ⟨(by (conv=>whnf); exact ⟨rfl,(λ h=>absurd rfl h),nofun,(λ _ h=>absurd h (Nat.not_lt_zero _))⟩),(by (conv=>whnf); exact ⟨(by (conv=>whnf); exact ⟨rfl,(λ h=>absurd rfl h),nofun,(λ _ h=>absurd h (Nat.not_lt_zero _))⟩),(by (conv=>whnf); exact ⟨(by (conv=>whnf); exact ⟨rfl,(λ h=>absurd rfl h),nofun,(λ _ h=>absurd h (Nat.not_lt_zero _))⟩),(by (conv=>whnf); exact ⟨(by (conv=>whnf); exact ⟨rfl,(λ h=>absurd rfl h),nofun,(λ _ h=>absurd h (Nat.not_lt_zero _))⟩),(by (conv=>whnf); exact ⟨(by (conv=>whnf); exact ⟨rfl,(λ h=>absurd rfl h),nofun,(λ _ h=>absurd h (Nat.not_lt_zero _))⟩),(by (conv=>whnf); exact ⟨(by (conv=>whnf); exact ⟨rfl,(λ h=>absurd rfl h),nofun,(λ _ h=>absurd h (Nat.not_lt_zero _))⟩),(by (conv=>whnf); exact ⟨(by (conv=>whnf); exact ⟨rfl,(λ h=>absurd rfl h),nofun,(λ _ h=>absurd h (Nat.not_lt_zero _))⟩),(by (conv=>whnf); exact ⟨(by (conv=>whnf); exact r2),(by (conv=>whnf); exact ⟨(by (conv=>whnf); exact ⟨rfl,(λ h=>absurd rfl h),nofun,(λ _ h=>absurd h (Nat.not_lt_zero _))⟩),trivial⟩)⟩)⟩)⟩)⟩)⟩)⟩)⟩)⟩)⟩)⟩)⟩)⟩)⟩)⟩)⟩)⟩)⟩)⟩),(by (conv=>whnf); exact ⟨(by first | ((conv=>whnf); exact r2) | exact r2),trivial⟩)⟩)⟩
theorem Ea {iH:Int} {BR:List ByteArray} {Gm:eP} {o5_:List Bool} {r:Bool×List Int×eP×List Bool} (m:Br iH bA BR Gm o5_ r):S 133 [.int .u64 iH,.ptr 0 0 0,.ptr 1 0 0,.ptr 2 0 0,.ptr 3 0 0,.ptr 4 0 0] [.box [au bA],.box [eG BR],.box [.dA 5 0 o5_.length false],.box [fB Gm.dH,Fq Gm.jF,au Gm.vY,.int .u64 Gm.rZ],.box [.fn 133 [.ptr 0 0 0,.ptr 1 0 0,.ptr 2 0 0,.ptr 3 0 0,.ptr 4 0 0]],.row 1 o5_.length (bD AV.bool false o5_)] (.bool r.1) [.box [au r.2.1],.box [eG BR],.box [.dA 5 0 r.2.2.2.length false],.box [fB r.2.2.1.dH,Fq r.2.2.1.jF,au r.2.2.1.vY,.int .u64 r.2.2.1.rZ],.box [.fn 133 [.ptr 0 0 0,.ptr 1 0 0,.ptr 2 0 0,.ptr 3 0 0,.ptr 4 0 0]],.row 1 r.2.2.2.length (bD AV.bool false r.2.2.2)] :=sp Tryz.func133 rfl<|by
 have c1:=m.1
 have m:=m.2
 refine aj (λ q=>Bool.noConfusion (c1.symm.trans q)) (λ _=>?_)
 (conv=>whnf)
 refine ah m λ h1 m=>?_
 (conv=>whnf)
 refine ah m λ h2 m=>?_
 (conv=>whnf)
 refine ah m λ h3 m=>?_
 (conv=>whnf)
 have c2:=m.1
 have m:=m.2
 refine aj (λ q=>Bool.noConfusion (c2.symm.trans q)) (λ _=>?_)
 (conv=>whnf)
 refine ah m λ h4 m=>?_
 (conv=>whnf)
 refine ah m λ h5 m=>?_
 (conv=>whnf)
 refine aP (ct:=[]) bO dk m (λ g1=>⟨[(0,.int .u64 iH),(3,.ptr 2 0 0),(4,.ptr 3 0 0),(5,.ptr 4 0 0),(8,iV (bA.getD 0 0)),(40,au (Gm.dH.getD ((bA.getD 0 0).toNat) [])),(41,iV (((Gm.dH.getD ((bA.getD 0 0).toNat) []).length:Nat):Int)),(42,iV g1.1)],[(0,some (.box [au g1.2.1])),(1,some (.box [eG BR])),(2,some (.box [.dA 5 0 g1.2.2.length false])),(3,some (.box [fB Gm.dH,Fq Gm.jF,au Gm.vY,.int .u64 Gm.rZ])),(4,some (.box [.fn 133 [.ptr 0 0 0,.ptr 1 0 0,.ptr 2 0 0,.ptr 3 0 0,.ptr 4 0 0]])),(5,some (.row 1 g1.2.2.length (bD AV.bool false g1.2.2)))],6⟩) [] [] ⟨rfl,⟨r2,r4,r4,r4,r2,sr,r2,r2,trivial⟩,⟨⟨⟨oz,(λ _=>rfl),nofun,(SN (a:=1) (N:=bA.length) (λ _ _=>.refl _) (by first | omega | (simp; omega)))⟩,trivial⟩,⟨sr,trivial⟩,⟨⟨rfl,rfl,rfl,oz,nofun⟩,trivial⟩,⟨sr,sr,sr,r2,trivial⟩,⟨⟨rfl,r4,r4,r4,r4,r4,trivial⟩,trivial⟩,⟨rfl,oz,(oN (λ _ _=>.refl _) rfl (.refl _))⟩,trivial⟩⟩ ?_
 intro av g1 m
 (conv=>whnf)
 refine dI m (λ c7 m=>?_) (λ c7 m=>?_)
 ·(conv=>whnf)
  refine ah m λ h16 m=>?_
  (conv=>whnf)
  refine ah m λ h17 m=>?_
  (conv=>whnf)
  refine ah m λ h18 m=>?_
  (conv=>whnf)
  have c8:=m.1
  have m:=m.2
  refine aj (λ q=>Bool.noConfusion (c8.symm.trans q)) (λ _=>?_)
  (conv=>whnf)
  refine ⟨(λ q0=>absurd q0 (vac c8)),?_⟩
  (conv=>whnf)
  refine ah m λ h19 m=>?_
  (conv=>whnf)
  refine ah m λ h20 m=>?_
  (conv=>whnf)
  exact ⟨((g1.1+(1:Int)),g1.2.1,g1.2.2),[],[],m,⟨rfl,⟨r2,r4,r4,r4,r2,sr,r2,r2,trivial⟩,⟨⟨sf,trivial⟩,⟨sr,trivial⟩,⟨⟨rfl,rfl,rfl,rfl,nofun⟩,trivial⟩,⟨sr,sr,sr,r2,trivial⟩,⟨⟨rfl,r4,r4,r4,r4,r4,trivial⟩,trivial⟩,⟨rfl,rfl,(λ _ _=>.refl _)⟩,trivial⟩⟩⟩
 ·(conv=>whnf)
  refine ah m λ h21 m=>?_
  (conv=>whnf)
  have m:r=(true,g1.2.1,Gm,(g1.2.2.set ((bA.getD 0 0).toNat) false)):=m
  subst m
  refine ⟨[],[],?_⟩
  (conv=>whnf)
  exact ⟨⟨rfl,trivial,⟨⟨sf,trivial⟩,⟨sr,trivial⟩,⟨⟨rfl,rfl,rfl,oz,nofun⟩,trivial⟩,⟨sf,sf,sf,r2,trivial⟩,⟨⟨rfl,r4,r4,r4,r4,r4,trivial⟩,trivial⟩,⟨rfl,oz,(oN (λ _ _=>.refl _) rfl (.refl _))⟩,trivial⟩⟩,rfl⟩
theorem GU {l_:List ByteArray} {proof_:List Int} (m:FE p_ l_ dP proof_ r):S 66 [jk p_,eG l_,au dP,au proof_] [] (.bool r) [] :=sp Tryz.func66 rfl<|sq m pQ λ v1 m=>si m (λ _ m=>by cases m;exact re) λ _ m=>sn m λ _ m=>lf m (λ g1=>⟨[(3,au proof_),(5,.ptr 0 0 0),(9,.ptr 1 0 0),(11,.ptr 2 0 0),(38,iV (dP.length:Int)),(39,iV g1.1)],[(0,some (.box [eG l_])),(1,some (.box [fB v1.1.dH,Fq v1.1.jF,au v1.1.vY,.int .u64 v1.1.rZ])),(2,some (.box [.dA 3 0 g1.2.length false])),(3,some (.row 1 g1.2.length (bD AV.bool false g1.2)))],4⟩) [(0,some 16),(1,some 160),(2,some 448),(3,some 432)] [] <|λ av g1 m=>si m (λ _ m=>s2 m λ _ _ m=>le m) λ _ m=>sq m Ea λ v2 m=>by cases m;exact re
theorem Eb {r_:eT} (m:Bt b_ l_ r_ r):S 31 [gP b_,bC l_,vZ r_] [] (.bool r) [] :=sp Tryz.func31 rfl<|lf m (λ g1=>⟨[(1,bC l_),(3,.ptr 0 0 0),(5,.ptr 1 0 0),(7,.dA 2 0 g1.2.length false),(15,bP r_.dR),(16,iV (r_.dR.length:Int)),(17,iV g1.1)],[(0,some (.box [aY b_.bM,aQ b_.aT,iV b_.aU.bT,aX b_.aU.aF,bV b_.bg,bG b_.bF])),(1,some (.box [iV r_.gN,iV r_.dM,au r_.dz,zq r_.Branches,.bool r_.Chain.zo,au r_.Chain.aT,iV r_.Chain.First,iV r_.Chain.Last,bP r_.dR,au r_.bT,au r_.gZ.dB,aN r_.gZ.dF.On,au r_.gZ.dF.dX,bP r_.gZ.dR,aN r_.gZ.dh,aN r_.gZ.dJ,fB r_.Settings,iV r_.Other,au r_.dW])),(2,some (.row 2 g1.2.length (bD adG jD g1.2)))],3⟩) [(1,some 16),(2,none)] [] <|λ av g1 m=>si m (λ _ m=>sn m λ _ m=>sq m bR λ v3 m=>by
 have c6:=m.1
 have m:=m.2
 refine aj (λ q=>Bool.noConfusion (c6.symm.trans q)) (λ _=>?_)
 (conv=>whnf)
 refine ah m λ h8 m=>?_
 (conv=>whnf)
 refine ah m λ h9 m=>?_
 (conv=>whnf)
 exact ⟨((g1.1+(1:Int)),(g1.2++([((r_.dR.getD g1.1.toNat cK).wV)]:List qm))),[(2,some 243)],[],m,⟨rfl,⟨sr,r4,r4,⟨rfl,rfl,rfl,oz,nofun⟩,sr,r2,r2,trivial⟩,⟨⟨sr,sr,r2,sr,sr,sr,trivial⟩,⟨r2,r2,sr,sr,rfl,sr,r2,r2,sr,sr,sr,sr,sr,sr,sr,sr,sr,r2,sr,trivial⟩,⟨rfl,oz,(gD rfl (λ _ _=>.refl _) rfl (fM adG jD [((r_.dR.getD g1.1.toNat cK).wV)]))⟩,trivial⟩⟩⟩) λ _ m=>sq m zP λ v4 m=>by
 have c7:=m.1
 have m:=m.2
 refine aj (λ q=>Bool.noConfusion (c7.symm.trans q)) (λ _=>?_)
 (conv=>whnf)
 refine ah m λ h10 m=>?_
 (conv=>whnf)
 refine aI m λ v5 hv5 m=>?_
 refine ⟨_,_,(sU hv5),?_⟩
 (conv=>whnf)
 refine aI m λ v6 hv6 m=>?_
 refine ⟨_,_,(GU hv6),?_⟩
 (conv=>whnf)
 have m:r=v6:=m
 subst m
 refine ⟨[],[],?_⟩
 (conv=>whnf)
 exact ⟨⟨rfl,trivial,trivial⟩,rfl⟩
theorem wT {r_:eT} (m:yL b_ l_ r_ r):S 9 [gP b_,bC l_,vZ r_] [] (.bool r) [] :=sp Tryz.func9 rfl<|sq m lQ λ v1 m=>by
 have c1:=m.1
 have m:=m.2
 refine aj (λ q=>Bool.noConfusion (c1.symm.trans q)) (λ _=>?_)
 (conv=>whnf)
 refine aP (ct:=[]) bO dk m (λ g1=>⟨[(1,bC l_),(3,.ptr 0 0 0),(5,.ptr 1 0 0),(29,au r_.dz),(30,iV (r_.dz.length:Int)),(31,iV g1)],[(0,some (.box [aY b_.bM,aQ b_.aT,iV b_.aU.bT,aX b_.aU.aF,bV b_.bg,bG b_.bF])),(1,some (.box [iV r_.gN,iV r_.dM,au r_.dz,zq r_.Branches,.bool r_.Chain.zo,au r_.Chain.aT,iV r_.Chain.First,iV r_.Chain.Last,bP r_.dR,au r_.bT,au r_.gZ.dB,aN r_.gZ.dF.On,au r_.gZ.dF.dX,bP r_.gZ.dR,aN r_.gZ.dh,aN r_.gZ.dJ,fB r_.Settings,iV r_.Other,au r_.dW]))],2⟩) [(1,some 16)] [] ⟨rfl,⟨sr,r4,r4,sr,r2,r2,trivial⟩,⟨⟨sr,sr,r2,sr,sr,sr,trivial⟩,⟨r2,r2,sr,sr,rfl,sr,r2,r2,sr,sr,sr,sr,sr,sr,sr,sr,sr,r2,sr,trivial⟩,trivial⟩⟩ ?_
 intro av g1 m
 (conv=>whnf)
 refine dI m (λ c6 m=>?_) (λ c6 m=>?_)
 ·(conv=>whnf)
  refine ah m λ h7 m=>?_
  (conv=>whnf)
  refine ah m λ h8 m=>?_
  (conv=>whnf)
  refine aI m λ v4 hv4 m=>?_
  refine ⟨_,_,(λ q0=>((bR (hv4 q0)).le ⟨(.sl oz (λ _=>rfl) nofun (lF (f:=iV) (d:=0) (by first | omega | exact Nat.min_le_left _ _ | exact Nat.le_trans (Nat.min_le_left _ _) om | (simp; omega)))),.refl _,trivial⟩ trivial)),?_⟩
  (conv=>whnf)
  have c7:=m.1
  have m:=m.2
  refine aj (λ q=>Bool.noConfusion (c7.symm.trans q)) (λ _=>?_)
  (conv=>whnf)
  refine ah m λ h9 m=>?_
  (conv=>whnf)
  exact ⟨(g1+(1:Int)),[],[],m,⟨rfl,⟨sr,r4,r4,sr,r2,r2,trivial⟩,⟨⟨sr,sr,r2,sr,sr,sr,trivial⟩,⟨r2,r2,sr,sr,rfl,sr,r2,r2,sr,sr,sr,sr,sr,sr,sr,sr,sr,r2,sr,trivial⟩,trivial⟩⟩⟩
 ·(conv=>whnf)
  have e1:=m.1
  have m:=m.2
  rw [e1]
  (conv=>whnf)
  refine aI m λ v5 hv5 m=>?_
  refine ⟨_,_,(Eb hv5),?_⟩
  (conv=>whnf)
  have m:r=(true&&v5):=m
  subst m
  refine ⟨[],[],?_⟩
  (conv=>whnf)
  exact ⟨⟨rfl,trivial,trivial⟩,rfl⟩
variable {aD:(List (List Int))}
theorem LP {r:Int} (m:xU aD r):S 58 [fB aD] [] (iV r) [] :=sp Tryz.func58 rfl<|si m (λ _ m=>by cases m;exact re) λ _ m=>l0 m (λ g1=>⟨[(0,fB aD),(11,fB aD),(12,iV (aD.length:Int)),(13,iV g1)],[],0⟩) <|λ av g1 m=>si m (λ _ m=>sn m λ _ m=>l0 m (λ g6=>⟨[(0,fB aD),(4,au (aD.getD g1.toNat [])),(11,fB aD),(12,iV (aD.length:Int)),(13,iV g1),(17,au (aD.getD g1.toNat [])),(18,iV (((aD.getD g1.toNat []).length:Nat):Int)),(19,iV g6)],[],0⟩) <|λ jL g6 m=>si m (λ _ m=>sn m λ _ m=>si m (λ _ m=>by cases m;exact re) λ _ m=>sn m λ _ m=>le m) λ _ m=>l0 m (λ g7=>⟨[(0,fB aD),(4,au (aD.getD g1.toNat [])),(7,iV g7),(11,fB aD),(12,iV (aD.length:Int)),(13,iV g1)],[],0⟩) <|λ uU g7 m=>si m (λ _ m=>s2 m λ _ _ m=>sn m λ _ m=>si m (λ _ m=>by cases m;exact re) λ _ m=>sn m λ _ m=>le m) λ _ m=>sn m λ _ m=>le m) λ _ m=>by cases m;exact re
theorem AB {x_:List Int} {pF:Int} {r:List Int} (m:l7 x_ pF r):S 114 [au x_,iV pF] [] (.dA 0 0 r.length false) [.row 1 r.length (bD iV 0 r)] :=spc [3,6] Tryz.func114 rfl<|ck [3,6] (mU x_ pF) r (λ g1=>⟨[(0,au x_),(1,iV pF)],[],0⟩) (by
 have c7:=m.1
 have m:=m.2
 refine aj (λ q=>Bool.noConfusion (c7.symm.trans q)) (λ _=>?_)
 (conv=>whnf)
 exact ⟨(),[],[],m,⟨rfl,⟨sr,r2,trivial⟩,trivial⟩⟩) λ g1 m=>sq m wQ λ v1 m=>ck [3,6] (mR x_ v1) r (λ g2=>⟨[(0,au x_),(6,.int .u64 v1.2)],[],0⟩) (by
 have c6:=m.1
 have m:=m.2
 refine aj (λ q=>Bool.noConfusion (c6.symm.trans q)) (λ _=>?_)
 (conv=>whnf)
 exact ⟨(),[],[],m,⟨rfl,⟨sr,r2,trivial⟩,trivial⟩⟩) λ g2 m=>sn m λ _ m=>lfe [3,6] m (λ g3=>⟨[(7,.dA 0 0 g3.2.length false),(8,iV g3.1)],[(0,some (.row 1 g3.2.length (bD iV 0 g3.2)))],1⟩) [(0,some 32)] [] ⟨rfl,⟨⟨rfl,rfl,rfl,oz,nofun⟩,r2,trivial⟩,⟨⟨rfl,oz,(XT oz (lG iV 0) oz (lF (f:=iV) (d:=0) (by first | omega | exact Nat.min_le_left _ _ | exact Nat.le_trans (Nat.min_le_left _ _) om | (simp; omega))))⟩,trivial⟩⟩ <|λ iZ g3 m=>si m (λ _ m=>s2 m λ _ _ m=>sn m λ _ m=>lce [] [] m ⟨rfl,⟨⟨rfl,rfl,rfl,oz,nofun⟩,r2,trivial⟩,⟨⟨rfl,oz,(XT rfl (λ _ _=>.refl _) oz (lF (f:=iV) (d:=0) (by first | omega | exact Nat.min_le_left _ _ | exact Nat.le_trans (Nat.min_le_left _ _) om | (simp; omega))))⟩,trivial⟩⟩) λ _ m=>by cases m;exact re
theorem BJ {gI:Int} {r:List Int} (m:wJ aD gI r):S 59 [fB aD,iV gI] [] (au r) [] :=sp Tryz.func59 rfl<|sb m λ v1 hv1 m=>cl ((AB hv1).le ⟨(.sl rfl (λ _=>rfl) nofun (fM iV 0 [(-1:Int)])),.refl _,trivial⟩ trivial)<|sn m λ _ m=>lf m (λ g1=>⟨[(0,fB aD),(1,iV gI),(5,.dA 0 0 g1.2.2.1.length false),(6,.dA 1 g1.1 g1.2.1 false)],[(0,some (.row 1 g1.2.2.1.length (bD iV 0 g1.2.2.1))),(1,some (.row 1 g1.2.2.2.length (bD iV 0 g1.2.2.2)))],2⟩) [(0,some 64),(1,some 176)] [] <|λ av g1 m=>by
 have h97:=m.1
 have m:=m.2
 refine dI m (λ c15 m=>?_) (λ c15 m=>?_)
 ·(conv=>whnf)
  refine aP (ct:=[]) bO dk m (λ g4=>⟨[(0,fB aD),(1,iV gI),(5,.dA 0 0 g4.2.2.2.1.length false),(6,.dA 1 g4.1 g4.2.1 false),(7,iV g4.2.2.1)],[(0,some (.row 1 g4.2.2.2.1.length (bD iV 0 g4.2.2.2.1))),(1,some (.row 1 g4.2.2.2.2.length (bD iV 0 g4.2.2.2.2)))],2⟩) [] [] ⟨rfl,⟨sr,r2,⟨rfl,rfl,rfl,rfl,nofun⟩,⟨rfl,rfl,rfl,rfl,nofun⟩,r2,trivial⟩,⟨⟨rfl,rfl,(λ _ _=>.refl _)⟩,⟨rfl,rfl,(λ _ _=>.refl _)⟩,trivial⟩⟩ ?_
  intro nN g4 m
  (conv=>whnf)
  have h96:=m.1
  have m:=m.2
  refine dI m (λ c20 m=>?_) (λ c20 m=>?_)
  ·(conv=>whnf)
   refine ah m λ h85 m=>?_
   (conv=>whnf)
   refine ah m λ h86 m=>?_
   (conv=>whnf)
   refine ah m λ h87 m=>?_
   (conv=>whnf)
   refine aI m λ v10 GH m=>?_
   refine ⟨_,_,(λ q0=>(bR (GH q0))),?_⟩
   (conv=>whnf)
   refine dI m (λ c21 m=>?_) (λ c21 m=>?_)
   ·(conv=>whnf)
    refine ah m λ h88 m=>?_
    (conv=>whnf)
    refine ah m λ h89 m=>?_
    (conv=>whnf)
    refine ah m λ h90 m=>?_
    (conv=>whnf)
    refine ah m λ h91 m=>?_
    (conv=>whnf)
    refine ah m λ h92 m=>?_
    (conv=>whnf)
    refine ah m λ h93 m=>?_
    (conv=>whnf)
    exact ⟨(0,(g4.2.1+1),(g4.2.2.1+(1:Int)),(g4.2.2.2.1.set (g4.2.2.1.toNat) ((g4.2.2.2.1.getD ((g4.2.2.2.2.getD (addN g4.1 0) 0).toNat) 0)+(1:Int))),(((g4.2.2.2.2.drop (g4.1)).take (g4.2.1))++([g4.2.2.1]:List Int))),[(1,some 530)],[],m,⟨rfl,⟨sr,r2,⟨rfl,rfl,rfl,oz,nofun⟩,⟨rfl,rfl,rfl,rfl,nofun⟩,r2,trivial⟩,⟨⟨rfl,oz,(oN (λ _ _=>.refl _) rfl (.refl _))⟩,⟨rfl,oz,(gD oz (Z0 (a:=g4.1) (N:=g4.2.2.2.2.length) (λ _ _=>.refl _) (by first | omega | (simp; omega))) rfl (fM iV 0 [g4.2.2.1]))⟩,trivial⟩⟩⟩
   ·(conv=>whnf)
    refine ah m λ h94 m=>?_
    (conv=>whnf)
    exact ⟨(g4.1,g4.2.1,(g4.2.2.1+(1:Int)),g4.2.2.2.1,g4.2.2.2.2),[],[],m,⟨rfl,⟨sr,r2,⟨rfl,rfl,rfl,rfl,nofun⟩,⟨rfl,rfl,rfl,rfl,nofun⟩,r2,trivial⟩,⟨⟨rfl,rfl,(λ _ _=>.refl _)⟩,⟨rfl,rfl,(λ _ _=>.refl _)⟩,trivial⟩⟩⟩
  ·(conv=>whnf)
   refine ah m λ h95 m=>?_
   (conv=>whnf)
   exact ⟨((g4.1+1),(g4.2.1 - 1),g4.2.2.2.1,g4.2.2.2.2),[],[],m,⟨rfl,⟨sr,r2,⟨rfl,rfl,rfl,rfl,nofun⟩,⟨rfl,rfl,rfl,rfl,nofun⟩,trivial⟩,⟨⟨rfl,rfl,(λ _ _=>.refl _)⟩,⟨rfl,rfl,(λ _ _=>.refl _)⟩,trivial⟩⟩⟩
 ·(conv=>whnf)
  have m:r=g1.2.2.1:=m
  subst m
  refine ⟨[0],[],?_⟩
  (conv=>whnf)
  exact ⟨⟨rfl,trivial,trivial⟩,sf⟩
theorem J4 {r:List Int} (m:vH aD r):S 24 [fB aD] [] (au r) [] :=spc [25] Tryz.func24 rfl<|sq m LP λ v1 m=>si m (λ _ m=>by cases m;exact re) λ _ m=>lfc [25] m (λ g1=>bif g1.1 then ⟨[(0,fB aD),(3,.iK),(16,iV (aD.length:Int)),(17,iV g1.2.1)],[],0⟩ else ⟨[(0,fB aD),(3,.dA 0 0 g1.2.2.2.length false),(16,iV (aD.length:Int)),(17,iV g1.2.2.1)],[(0,some (.row 1 g1.2.2.2.length (bD iV 0 g1.2.2.2)))],1⟩) [] [] <|λ av g1 m=>by
 obtain ⟨_ | _,g12⟩:=g1
 ·(conv=>whnf)
  refine dI m (λ akK m=>?_) (λ akK m=>?_)
  ·(conv=>whnf)
   refine aI m λ v8 OB m=>?_
   refine ⟨_,_,(BJ OB),?_⟩
   (conv=>whnf)
   refine ah m λ amO m=>?_
   (conv=>whnf)
   refine aP (ct:=[25]) bO dk m (λ u6=>⟨[(0,fB aD),(3,.dA 0 0 g12.2.2.length false),(4,iV g12.2.1),(5,au v8),(6,iV u6.1),(16,iV (aD.length:Int)),(17,iV g12.2.1),(26,au (aD.getD g12.2.1.toNat [])),(27,iV (((aD.getD g12.2.1.toNat []).length:Nat):Int)),(28,iV u6.2)],[(0,some (.row 1 g12.2.2.length (bD iV 0 g12.2.2)))],1⟩) [] [] ⟨rfl,⟨sr,⟨rfl,rfl,rfl,rfl,nofun⟩,r2,sr,r2,r2,r2,sr,r2,r2,trivial⟩,⟨⟨rfl,rfl,(λ _ _=>.refl _)⟩,trivial⟩⟩ ?_
   intro X0 u6 m
   (conv=>whnf)
   refine dI m (λ akL m=>?_) (λ akL m=>?_)
   ·(conv=>whnf)
    refine ah m λ amP m=>?_
    (conv=>whnf)
    refine ah m λ amQ m=>?_
    (conv=>whnf)
    refine ah m λ amR m=>?_
    (conv=>whnf)
    refine ah m λ amS m=>?_
    (conv=>whnf)
    refine dI m (λ akM m=>?_) (λ akM m=>?_)
    ·(conv=>whnf)
     refine ah m λ amT m=>?_
     (conv=>whnf)
     refine ah m λ amU m=>?_
     (conv=>whnf)
     refine ah m λ amV m=>?_
     (conv=>whnf)
     exact ⟨(((v8.getD (((aD.getD g12.2.1.toNat []).getD u6.2.toNat 0).toNat) 0)+(1:Int)),(u6.2+(1:Int))),[],[],m,⟨rfl,⟨sr,⟨rfl,rfl,rfl,rfl,nofun⟩,r2,sr,r2,r2,r2,sr,r2,r2,trivial⟩,⟨⟨rfl,rfl,(λ _ _=>.refl _)⟩,trivial⟩⟩⟩
    ·(conv=>whnf)
     refine ah m λ amW m=>?_
     (conv=>whnf)
     exact ⟨(u6.1,(u6.2+(1:Int))),[],[],m,⟨rfl,⟨sr,⟨rfl,rfl,rfl,rfl,nofun⟩,r2,sr,r2,r2,r2,sr,r2,r2,trivial⟩,⟨⟨rfl,rfl,(λ _ _=>.refl _)⟩,trivial⟩⟩⟩
   ·(conv=>whnf)
    refine ah m λ amX m=>?_
    (conv=>whnf)
    refine dI m (λ akN m=>?_) (λ akN m=>?_)
    ·(conv=>whnf)
     refine ah m λ amY m=>?_
     (conv=>whnf)
     exact ⟨(false,0,((g12.2.1+(1:Int)),g12.2.2)),[],[],m,⟨rfl,⟨sr,⟨rfl,rfl,rfl,rfl,nofun⟩,r2,r2,trivial⟩,⟨⟨rfl,rfl,(λ _ _=>.refl _)⟩,trivial⟩⟩⟩
    ·(conv=>whnf)
     refine aP (ct:=[25]) bO dk m (λ yV=>⟨[(0,fB aD),(3,.dA 0 0 yV.2.length false),(4,iV g12.2.1),(5,au v8),(6,iV u6.1),(9,iV yV.1),(16,iV (aD.length:Int)),(17,iV g12.2.1)],[(0,some (.row 1 yV.2.length (bD iV 0 yV.2)))],1⟩) [(0,some 225)] [] ⟨rfl,⟨sr,⟨rfl,rfl,rfl,rfl,nofun⟩,r2,sr,r2,r2,r2,r2,trivial⟩,⟨⟨rfl,rfl,(fM iV 0 [g12.2.1])⟩,trivial⟩⟩ ?_
     intro QF yV m
     (conv=>whnf)
     refine dI m (λ akO m=>?_) (λ akO m=>?_)
     ·(conv=>whnf)
      refine SL (ct:=[25]) bO dk dk (wK yV QF) r (λ g77=>⟨[(0,fB aD),(3,.dA 0 0 yV.2.length false),(4,iV g12.2.1),(5,au v8),(6,iV u6.1),(9,iV g77),(16,iV (aD.length:Int)),(17,iV g12.2.1)],[(0,some (.row 1 yV.2.length (bD iV 0 yV.2)))],1⟩) ?_ (λ g77 m=>?_)
      ·(conv=>whnf)
       refine ah m λ amZ m=>?_
       (conv=>whnf)
       refine aP (ct:=[25]) bO dk m (λ Wq=>⟨[(0,fB aD),(3,.dA 0 0 yV.2.length false),(4,iV g12.2.1),(5,au v8),(6,iV u6.1),(9,iV yV.1),(16,iV (aD.length:Int)),(17,iV g12.2.1),(83,au (aD.getD yV.1.toNat [])),(84,iV (((aD.getD yV.1.toNat []).length:Nat):Int)),(85,iV Wq)],[(0,some (.row 1 yV.2.length (bD iV 0 yV.2)))],1⟩) [] [] ⟨rfl,⟨sr,⟨rfl,rfl,rfl,rfl,nofun⟩,r2,sr,r2,r2,r2,r2,sr,r2,r2,trivial⟩,⟨⟨rfl,rfl,(λ _ _=>.refl _)⟩,trivial⟩⟩ ?_
       intro ab0 Wq m
       (conv=>whnf)
       refine dI m (λ akP m=>?_) (λ akP m=>?_)
       ·(conv=>whnf)
        refine ah m λ am0 m=>?_
        (conv=>whnf)
        refine ah m λ am1 m=>?_
        (conv=>whnf)
        refine ah m λ am2 m=>?_
        (conv=>whnf)
        refine dI m (λ akQ m=>?_) (λ akQ m=>?_)
        ·(conv=>whnf)
         exact ⟨((aD.getD yV.1.toNat []).getD Wq.toNat 0),[],[],m,⟨rfl,⟨sr,⟨rfl,rfl,rfl,rfl,nofun⟩,r2,sr,r2,r2,r2,r2,trivial⟩,⟨⟨rfl,rfl,(λ _ _=>.refl _)⟩,trivial⟩⟩⟩
        ·(conv=>whnf)
         refine ah m λ am3 m=>?_
         (conv=>whnf)
         exact ⟨(Wq+(1:Int)),[],[],m,⟨rfl,⟨sr,⟨rfl,rfl,rfl,rfl,nofun⟩,r2,sr,r2,r2,r2,r2,sr,r2,r2,trivial⟩,⟨⟨rfl,rfl,(λ _ _=>.refl _)⟩,trivial⟩⟩⟩
       ·(conv=>whnf)
        exact ⟨yV.1,[],[],m,⟨rfl,⟨sr,⟨rfl,rfl,rfl,rfl,nofun⟩,r2,sr,r2,r2,r2,r2,trivial⟩,⟨⟨rfl,rfl,(λ _ _=>.refl _)⟩,trivial⟩⟩⟩
      ·(conv=>whnf)
       refine ah m λ am4 m=>?_
       (conv=>whnf)
       exact ⟨(g77,(yV.2++([g77]:List Int))),[(0,some 49)],[],m,⟨rfl,⟨sr,⟨rfl,rfl,rfl,oz,nofun⟩,r2,sr,r2,r2,r2,r2,trivial⟩,⟨⟨rfl,oz,(gD rfl (λ _ _=>.refl _) rfl (fM iV 0 [g77]))⟩,trivial⟩⟩⟩
     ·(conv=>whnf)
      refine ah m λ am5 m=>?_
      (conv=>whnf)
      exact ⟨(false,0,((g12.2.1+(1:Int)),yV.2)),[],[],m,⟨rfl,⟨sr,⟨rfl,rfl,rfl,rfl,nofun⟩,r2,r2,trivial⟩,⟨⟨rfl,rfl,(λ _ _=>.refl _)⟩,trivial⟩⟩⟩
  ·(conv=>whnf)
   have m:r=g12.2.2:=m
   subst m
   refine ⟨[0],[],?_⟩
   (conv=>whnf)
   exact ⟨⟨rfl,trivial,trivial⟩,sf⟩
 ·(conv=>whnf)
  refine dI m (λ akR m=>?_) (λ akR m=>?_)
  ·(conv=>whnf)
   refine aI m λ v7 hv7 m=>?_
   refine ⟨_,_,(BJ hv7),?_⟩
   (conv=>whnf)
   refine ah m λ am6 m=>?_
   (conv=>whnf)
   refine aP (ct:=[25]) bO dk m (λ vG=>⟨[(0,fB aD),(3,.iK),(4,iV g12.1),(5,au v7),(6,iV vG.1),(16,iV (aD.length:Int)),(17,iV g12.1),(26,au (aD.getD g12.1.toNat [])),(27,iV (((aD.getD g12.1.toNat []).length:Nat):Int)),(28,iV vG.2)],[],0⟩) [] [] ⟨rfl,⟨sr,trivial,r2,sr,r2,r2,r2,sr,r2,r2,trivial⟩,trivial⟩ ?_
   intro XZ vG m
   (conv=>whnf)
   refine dI m (λ akS m=>?_) (λ akS m=>?_)
   ·(conv=>whnf)
    refine ah m λ am7 m=>?_
    (conv=>whnf)
    refine ah m λ am8 m=>?_
    (conv=>whnf)
    refine ah m λ am9 m=>?_
    (conv=>whnf)
    refine ah m λ ana m=>?_
    (conv=>whnf)
    refine dI m (λ akT m=>?_) (λ akT m=>?_)
    ·(conv=>whnf)
     refine ah m λ anb m=>?_
     (conv=>whnf)
     refine ah m λ anc m=>?_
     (conv=>whnf)
     refine ah m λ ane m=>?_
     (conv=>whnf)
     exact ⟨(((v7.getD (((aD.getD g12.1.toNat []).getD vG.2.toNat 0).toNat) 0)+(1:Int)),(vG.2+(1:Int))),[],[],m,⟨rfl,⟨sr,trivial,r2,sr,r2,r2,r2,sr,r2,r2,trivial⟩,trivial⟩⟩
    ·(conv=>whnf)
     refine ah m λ anf m=>?_
     (conv=>whnf)
     exact ⟨(vG.1,(vG.2+(1:Int))),[],[],m,⟨rfl,⟨sr,trivial,r2,sr,r2,r2,r2,sr,r2,r2,trivial⟩,trivial⟩⟩
   ·(conv=>whnf)
    refine dI m (λ akU m=>?_) (λ akU m=>?_)
    ·(conv=>whnf)
     refine ah m λ ang m=>?_
     (conv=>whnf)
     exact ⟨(true,(g12.1+(1:Int)),(0,([]))),[],[],m,⟨rfl,⟨sr,trivial,r2,r2,trivial⟩,trivial⟩⟩
    ·(conv=>whnf)
     refine aP (ct:=[25]) bO dk m (λ yU=>⟨[(0,fB aD),(3,.dA 0 0 yU.2.length false),(4,iV g12.1),(5,au v7),(6,iV vG.1),(9,iV yU.1),(16,iV (aD.length:Int)),(17,iV g12.1)],[(0,some (.row 1 yU.2.length (bD iV 0 yU.2)))],1⟩) [(0,some 224)] [] ⟨rfl,⟨sr,⟨rfl,rfl,rfl,rfl,nofun⟩,r2,sr,r2,r2,r2,r2,trivial⟩,⟨⟨rfl,rfl,(fM iV 0 [g12.1])⟩,trivial⟩⟩ ?_
     intro QE yU m
     (conv=>whnf)
     refine dI m (λ akV m=>?_) (λ akV m=>?_)
     ·(conv=>whnf)
      refine SL (ct:=[25]) bO dk dk (sw yU QE) r (λ g66=>⟨[(0,fB aD),(3,.dA 0 0 yU.2.length false),(4,iV g12.1),(5,au v7),(6,iV vG.1),(9,iV g66),(16,iV (aD.length:Int)),(17,iV g12.1)],[(0,some (.row 1 yU.2.length (bD iV 0 yU.2)))],1⟩) ?_ (λ g66 m=>?_)
      ·(conv=>whnf)
       refine ah m λ anh m=>?_
       (conv=>whnf)
       refine aP (ct:=[25]) bO dk m (λ Wp=>⟨[(0,fB aD),(3,.dA 0 0 yU.2.length false),(4,iV g12.1),(5,au v7),(6,iV vG.1),(9,iV yU.1),(16,iV (aD.length:Int)),(17,iV g12.1),(83,au (aD.getD yU.1.toNat [])),(84,iV (((aD.getD yU.1.toNat []).length:Nat):Int)),(85,iV Wp)],[(0,some (.row 1 yU.2.length (bD iV 0 yU.2)))],1⟩) [] [] ⟨rfl,⟨sr,⟨rfl,rfl,rfl,rfl,nofun⟩,r2,sr,r2,r2,r2,r2,sr,r2,r2,trivial⟩,⟨⟨rfl,rfl,(λ _ _=>.refl _)⟩,trivial⟩⟩ ?_
       intro abZ Wp m
       (conv=>whnf)
       refine dI m (λ akW m=>?_) (λ akW m=>?_)
       ·(conv=>whnf)
        refine ah m λ ani m=>?_
        (conv=>whnf)
        refine ah m λ anj m=>?_
        (conv=>whnf)
        refine ah m λ ank m=>?_
        (conv=>whnf)
        refine dI m (λ akX m=>?_) (λ akX m=>?_)
        ·(conv=>whnf)
         exact ⟨((aD.getD yU.1.toNat []).getD Wp.toNat 0),[],[],m,⟨rfl,⟨sr,⟨rfl,rfl,rfl,rfl,nofun⟩,r2,sr,r2,r2,r2,r2,trivial⟩,⟨⟨rfl,rfl,(λ _ _=>.refl _)⟩,trivial⟩⟩⟩
        ·(conv=>whnf)
         refine ah m λ anl m=>?_
         (conv=>whnf)
         exact ⟨(Wp+(1:Int)),[],[],m,⟨rfl,⟨sr,⟨rfl,rfl,rfl,rfl,nofun⟩,r2,sr,r2,r2,r2,r2,sr,r2,r2,trivial⟩,⟨⟨rfl,rfl,(λ _ _=>.refl _)⟩,trivial⟩⟩⟩
       ·(conv=>whnf)
        exact ⟨yU.1,[],[],m,⟨rfl,⟨sr,⟨rfl,rfl,rfl,rfl,nofun⟩,r2,sr,r2,r2,r2,r2,trivial⟩,⟨⟨rfl,rfl,(λ _ _=>.refl _)⟩,trivial⟩⟩⟩
      ·(conv=>whnf)
       refine ah m λ anm m=>?_
       (conv=>whnf)
       exact ⟨(g66,(yU.2++([g66]:List Int))),[(0,some 49)],[],m,⟨rfl,⟨sr,⟨rfl,rfl,rfl,oz,nofun⟩,r2,sr,r2,r2,r2,r2,trivial⟩,⟨⟨rfl,oz,(gD rfl (λ _ _=>.refl _) rfl (fM iV 0 [g66]))⟩,trivial⟩⟩⟩
     ·(conv=>whnf)
      refine ah m λ ano m=>?_
      (conv=>whnf)
      exact ⟨(false,0,((g12.1+(1:Int)),yU.2)),[],[],m,⟨rfl,⟨sr,⟨rfl,rfl,rfl,rfl,nofun⟩,r2,r2,trivial⟩,⟨⟨rfl,rfl,(λ _ _=>.refl _)⟩,trivial⟩⟩⟩
  ·(conv=>whnf)
   have m:r=([]:List Int):=m
   subst m
   refine ⟨[],[],?_⟩
   (conv=>whnf)
   exact ⟨⟨rfl,trivial,trivial⟩,⟨rfl,(λ h=>absurd rfl h),nofun,(λ _ h=>absurd h (Nat.not_lt_zero _))⟩⟩
theorem vk {gV:List Bool} {r:List Int} (m:mV l_ gV r):S 7 [bC l_,aN gV] [] (au r) [] :=sp Tryz.func7 rfl<|si m (λ _ m=>by cases m;exact re) λ _ m=>sn m λ _ m=>lf m (λ g1=>⟨[(1,aN gV),(5,.dA 0 0 g1.2.length false),(14,bC l_),(15,iV (l_.length:Int)),(16,iV g1.1)],[(0,some (.row 1 g1.2.length (bD au [] g1.2)))],1⟩) [(0,some 96)] [] <|λ av g1 m=>si m (λ _ m=>s2 m λ _ _ m=>si m (λ _ m=>sq m rO λ v3 m=>s2 m λ _ _ m=>le m) λ _ m=>sn m λ _ m=>le m) λ _ m=>sq m J4 λ v4 m=>by cases m;exact re
theorem Ol {a_:List Int} {b_:List Int} (m:QG a_ b_ r):S 16 [au a_,au b_] [] (.bool r) [] :=sp Tryz.func16 rfl<|by
 have c1:=m.1
 have m:=m.2
 refine aj (λ q=>Bool.noConfusion (c1.symm.trans q)) (λ _=>?_)
 (conv=>whnf)
 refine aP (ct:=[]) bO dk m (λ g1=>⟨[(0,au a_),(1,au b_),(5,iV g1)],[],0⟩) [] [] ⟨rfl,⟨sr,sr,r2,trivial⟩,trivial⟩ ?_
 intro av g1 m
 (conv=>whnf)
 refine dI m (λ c6 m=>?_) (λ c6 m=>?_)
 ·(conv=>whnf)
  refine ah m λ h7 m=>?_
  (conv=>whnf)
  refine ah m λ h8 m=>?_
  (conv=>whnf)
  have c7:=m.1
  have m:=m.2
  refine aj (λ q=>Bool.noConfusion (c7.symm.trans q)) (λ _=>?_)
  (conv=>whnf)
  refine ah m λ h9 m=>?_
  (conv=>whnf)
  exact ⟨(g1+(1:Int)),[],[],m,⟨rfl,⟨sr,sr,r2,trivial⟩,trivial⟩⟩
 ·(conv=>whnf)
  have m:r=true:=m
  subst m
  refine ⟨[],[],?_⟩
  (conv=>whnf)
  exact ⟨⟨rfl,trivial,trivial⟩,rfl⟩
theorem uj {oF:List Bool} {r:Int} (m:lK l_ oF aV r):S 11 [bC l_,aN oF,iV aV] [] (iV r) [] :=sp Tryz.func11 rfl<|si m (λ _ m=>by cases m;exact re) λ _ m=>sn m λ _ m=>l0 m (λ g1=>⟨[(1,aN oF),(7,iV g1.1),(22,au ((l_.getD aV.toNat bE).aO)),(23,iV ((((l_.getD aV.toNat bE).aO).length:Nat):Int)),(24,iV g1.2)],[],0⟩) <|λ av g1 m=>si m (λ _ m=>s2 m λ _ _ m=>si m (λ _ m=>sn m λ _ m=>le m) λ _ m=>sn m λ _ m=>le m) λ _ m=>by cases m;exact re
theorem uQ  {r:Bool} (m:pI r):S 4 [] [] (.bool r) [] :=sp Tryz.func4 rfl<|sq m Q8 λ v1 m=>sq m Ob λ v2 m=>sb m λ v3 hv3 m=>cl ((JD hv3).le ⟨.refl _,.refl _,(.sl rfl (λ h=>absurd rfl h) nofun (λ _ h=>absurd h (Nat.not_lt_zero _))),.refl _,.refl _,trivial⟩ trivial)<|sb m λ v4 hv4 m=>cl ((D9 hv4).le ⟨.refl _,.refl _,.refl _,.refl _,.refl _,trivial⟩ ⟨⟨rfl,rfl,(fM iV 0 [(0:Int)])⟩,trivial⟩)<|sb m λ v5 hv5 m=>cl (λ q0=>(wT (hv5 q0)))<|sb m λ v6 hv6 m=>cl (λ q0=>((wT (hv6 q0)).le ⟨.refl _,.refl _,(Le.Kt ⟨(.refl _),(.refl _),(.refl _),(.refl _),(.refl _),(.refl _),(.refl _),(.refl _),(.refl _),(.sl rfl (λ h=>absurd rfl h) nofun (λ _ h=>absurd h (Nat.not_lt_zero _))),(.refl _),(.refl _),(.refl _),(.refl _),(.refl _),(.refl _),(.refl _),(.refl _),(.refl _),trivial⟩),trivial⟩ trivial))<|by
 have c1:=m.1
 have m:=m.2
 refine aj (λ _=>?_) (λ q=>Bool.noConfusion (q.symm.trans c1))
 (conv=>whnf)
 have c2:=m.1
 have m:=m.2
 refine aj (λ _=>?_) (λ q=>Bool.noConfusion (q.symm.trans c2))
 (conv=>whnf)
 have c3:=m.1
 have m:=m.2
 refine aj (λ _=>?_) (λ q=>Bool.noConfusion (q.symm.trans c3))
 (conv=>whnf)
 have c4:=m.1
 have m:=m.2
 refine aj (λ _=>?_) (λ q=>Bool.noConfusion (q.symm.trans c4))
 (conv=>whnf)
 refine aI m λ v7 hv7 m=>?_
 refine ⟨_,_,((vk hv7).le ⟨(.sl rfl (λ _=>rfl) nofun (Cy (Le.Kt ⟨(.sl rfl (λ h=>absurd rfl h) nofun (λ _ h=>absurd h (Nat.not_lt_zero _))),(.sl rfl (λ h=>absurd rfl h) nofun (λ _ h=>absurd h (Nat.not_lt_zero _))),(.sl rfl (λ h=>absurd rfl h) nofun (λ _ h=>absurd h (Nat.not_lt_zero _))),(.sl rfl (λ h=>absurd rfl h) nofun (λ _ h=>absurd h (Nat.not_lt_zero _))),(.refl _),(.sl rfl (λ _=>rfl) nofun (fM iV 0 [(1:Int)])),trivial⟩) (Cy (Le.Kt ⟨(.sl rfl (λ h=>absurd rfl h) nofun (λ _ h=>absurd h (Nat.not_lt_zero _))),(.sl rfl (λ h=>absurd rfl h) nofun (λ _ h=>absurd h (Nat.not_lt_zero _))),(.sl rfl (λ h=>absurd rfl h) nofun (λ _ h=>absurd h (Nat.not_lt_zero _))),(.sl rfl (λ h=>absurd rfl h) nofun (λ _ h=>absurd h (Nat.not_lt_zero _))),(.refl _),(.sl rfl (λ _=>rfl) nofun (fM iV 0 [(0:Int)])),trivial⟩) (λ _ h=>absurd h (Nat.not_lt_zero _))))),(.sl rfl (λ h=>absurd rfl h) nofun (λ _ h=>absurd h (Nat.not_lt_zero _))),trivial⟩ trivial),?_⟩
 (conv=>whnf)
 have c5:=m.1
 have m:=m.2
 refine aj (λ _=>?_) (λ q=>Bool.noConfusion (q.symm.trans c5))
 (conv=>whnf)
 refine aI m λ v8 OB m=>?_
 refine ⟨_,_,(λ q0=>((Ol (OB q0)).le ⟨.refl _,(.sl rfl (λ _=>rfl) nofun (fM iV 0 [(0:Int),(1:Int)])),trivial⟩ trivial)),?_⟩
 (conv=>whnf)
 have c6:=m.1
 have m:=m.2
 refine aj (λ _=>?_) (λ q=>Bool.noConfusion (q.symm.trans c6))
 (conv=>whnf)
 have c7:=m.1
 have m:=m.2
 refine aj (λ _=>?_) (λ q=>Bool.noConfusion (q.symm.trans c7))
 (conv=>whnf)
 have c8:=m.1
 have m:=m.2
 refine aj (λ _=>?_) (λ q=>Bool.noConfusion (q.symm.trans c8))
 (conv=>whnf)
 refine aI m λ v9 UW m=>?_
 refine ⟨_,_,(λ q0=>((uj (UW q0)).le ⟨(.sl rfl (λ _=>rfl) nofun (Cy (Le.Kt ⟨(.sl rfl (λ h=>absurd rfl h) nofun (λ _ h=>absurd h (Nat.not_lt_zero _))),(.sl rfl (λ h=>absurd rfl h) nofun (λ _ h=>absurd h (Nat.not_lt_zero _))),(.sl rfl (λ h=>absurd rfl h) nofun (λ _ h=>absurd h (Nat.not_lt_zero _))),(.sl rfl (λ h=>absurd rfl h) nofun (λ _ h=>absurd h (Nat.not_lt_zero _))),(.refl _),(.sl rfl (λ _=>rfl) nofun (fM iV 0 [(1:Int)])),trivial⟩) (Cy (Le.Kt ⟨(.sl rfl (λ h=>absurd rfl h) nofun (λ _ h=>absurd h (Nat.not_lt_zero _))),(.sl rfl (λ h=>absurd rfl h) nofun (λ _ h=>absurd h (Nat.not_lt_zero _))),(.sl rfl (λ h=>absurd rfl h) nofun (λ _ h=>absurd h (Nat.not_lt_zero _))),(.sl rfl (λ h=>absurd rfl h) nofun (λ _ h=>absurd h (Nat.not_lt_zero _))),(.refl _),(.sl rfl (λ h=>absurd rfl h) nofun (λ _ h=>absurd h (Nat.not_lt_zero _))),trivial⟩) (λ _ h=>absurd h (Nat.not_lt_zero _))))),(.sl rfl (λ _=>rfl) nofun (fM AV.bool false [false,true])),.refl _,trivial⟩ trivial)),?_⟩
 (conv=>whnf)
 have m:r=(((((((v3.2.2==(0:Int))&&(v4.2==(0:Int)))&&(v4.1.gN==(3:Int)))&&v5)&&(!v6))&&v8)&&(v9==(1:Int))):=m
 subst m
 refine ⟨[],[],?_⟩
 (conv=>whnf)
 exact ⟨⟨rfl,trivial,trivial⟩,rfl⟩
theorem Rh {l_:List Int} {r:List Int×Int} (m:ED l_ r):S 5 [au l_] [] (.ptr 0 0 0) [.box [au r.1,iV r.2]] :=sp Tryz.func5 rfl<|sn m λ _ m=>by cases m;exact rt [] [(0,some 112)]
theorem Ri {n_:Int} {r:Int} (m:EF x_ n_ r):S 54 [iV x_,iV n_] [] (iV r) [] :=sp Tryz.func54 rfl<|si m (λ _ m=>by cases m;exact re) λ _ m=>s2 m λ _ _ m=>sn m λ _ m=>by cases m;exact re
theorem eO {n_:Int} {bA:dU} {r:Int×dU} (m:gq n_ bA r):S 17 [.ptr 0 0 0,iV n_] [.box [au bA.L,iV bA.At]] (iV r.1) [.box [au r.2.L,iV r.2.At]] :=sp Tryz.func17 rfl<|si m (λ _ m=>by cases m;exact re) λ _ m=>s2 m λ _ _ m=>sn m λ _ m=>sq m Ri λ v1 m=>by cases m;exact re
theorem Ec {A9:Int} {CP:Int} {bA:dU} {r:Int×dU} (m:oU A9 CP bA r):S 18 [.ptr 0 0 0,iV A9,iV CP] [.box [au bA.L,iV bA.At]] (iV r.1) [.box [au r.2.L,iV r.2.At]] :=sp Tryz.func18 rfl<|s2 m λ _ _ m=>sq m eO λ v1 m=>sn m λ _ m=>by cases m;exact re
theorem jw {l_:List Int} {bA:dU} {r:Int×dU} (m:jd l_ bA r):S 55 [.ptr 0 0 0,au l_] [.box [au bA.L,iV bA.At]] (iV r.1) [.box [au r.2.L,iV r.2.At]] :=sp Tryz.func55 rfl<|sq m eO λ v1 m=>sn m λ _ m=>by cases m;exact re
theorem Ee {bA:dU} {r:bX×dU} (m:oV b_ bA r):S 19 [.ptr 0 0 0,gP b_] [.box [au bA.L,iV bA.At]] (Ae r.1) [.box [au r.2.L,iV r.2.At]] :=sp Tryz.func19 rfl<|sq m eO λ v1 m=>sb m λ v2 hv2 m=>cl ((jw hv2).le ⟨.refl _,(.sl rfl (λ _=>rfl) nofun (fM iV 0 [(0:Int),(0:Int),(6:Int),(12:Int),(24:Int)])),trivial⟩ ⟨jS _,trivial⟩)<|sb m λ v3 hv3 m=>cl ((jw hv3).le ⟨.refl _,(.sl rfl (λ _=>rfl) nofun (fM iV 0 [(24:Int),(48:Int),(100:Int),(300:Int)])),trivial⟩ ⟨jS _,trivial⟩)<|by cases m;exact re
theorem E5 {bA:dU} {r:bU×dU} (m:qI b_ bA r):S 20 [.ptr 0 0 0,gP b_] [.box [au bA.L,iV bA.At]] (H9 r.1) [.box [au r.2.L,iV r.2.At]] :=sp Tryz.func20 rfl<|sq m eO λ v1 m=>sb m λ v2 hv2 m=>cl ((jw hv2).le ⟨.refl _,(.sl rfl (λ _=>rfl) nofun (fM iV 0 [(0:Int),(900:Int),(1000:Int),(1800:Int)])),trivial⟩ ⟨jS _,trivial⟩)<|sb m λ v3 hv3 m=>cl ((jw hv3).le ⟨.refl _,(.sl rfl (λ _=>rfl) nofun (fM iV 0 [(1800:Int),(3300:Int),(5000:Int)])),trivial⟩ ⟨jS _,trivial⟩)<|sb m λ v4 hv4 m=>cl ((jw hv4).le ⟨.refl _,(.sl rfl (λ _=>rfl) nofun (fM iV 0 [(0:Int),(10:Int),(50:Int),(200:Int)])),trivial⟩ ⟨jS _,trivial⟩)<|by cases m;exact re
theorem LQ  {r:List ByteArray} (m:xW r):S 57 [] [] (eG r) [] :=sp Tryz.func57 rfl<|by cases m;exact rt [16] []
theorem E8 {l_:List ByteArray} {bA:dU} {r:ByteArray×dU} (m:qJ l_ bA r):S 56 [.ptr 0 0 0,eG l_] [.box [au bA.L,iV bA.At]] (.str r.1) [.box [au r.2.L,iV r.2.At]] :=sp Tryz.func56 rfl<|sq m eO λ v1 m=>sn m λ _ m=>by cases m;exact re
theorem AJ {nS:Int} {bA:dU} {r:List ByteArray×dU} (m:l8 nS bA r):S 21 [.ptr 0 0 0,iV nS] [.box [au bA.L,iV bA.At]] (eG r.1) [.box [au r.2.L,iV r.2.At]] :=sp Tryz.func21 rfl<|sn m λ _ m=>sq m eO λ v1 m=>lf m (λ g1=>⟨[(0,.ptr 0 0 0),(5,.dA 1 0 g1.2.2.2.length false),(6,iV g1.1)],[(0,some (.box [au g1.2.1,iV g1.2.2.1])),(1,some (.row 1 g1.2.2.2.length (bD AV.str ByteArray.empty g1.2.2.2)))],2⟩) [(1,none)] [] <|λ av g1 m=>si m (λ _ m=>sq m LQ λ v6 m=>sq m E8 λ v7 m=>s2 m λ _ _ m=>lc [(1,some 114)] [] m) λ _ m=>by cases m;exact rt [1] []
theorem vo {n_:Int} {k_:Int} {bA:dU} {r:List Int×dU} (m:mW n_ k_ bA r):S 22 [.ptr 0 0 0,iV n_,iV k_] [.box [au bA.L,iV bA.At]] (au r.1) [.box [au r.2.L,iV r.2.At]] :=sp Tryz.func22 rfl<|lf m (λ g1=>⟨[(0,.ptr 0 0 0),(1,iV n_),(2,iV k_),(7,.dA 1 0 g1.2.2.2.length false),(8,iV g1.1)],[(0,some (.box [au g1.2.1,iV g1.2.2.1])),(1,some (.row 1 g1.2.2.2.length (bD iV 0 g1.2.2.2)))],2⟩) [(1,none)] [] <|λ av g1 m=>si m (λ _ m=>sq m eO λ v3 m=>sn m λ _ m=>si m (λ _ m=>s2 m λ _ _ m=>lc [(1,some 194)] [] m) λ _ m=>sn m λ _ m=>le m) λ _ m=>by cases m;exact rt [1] []
theorem AL {nS:Int} {bA:dU} {r:dU×List ay} (m:l9 b_ nS bA r):S 6 [.ptr 0 0 0,gP b_,iV nS] [.box [au bA.L,iV bA.At]] (.dA 1 0 r.2.length false) [.box [au r.1.L,iV r.1.At],.row 6 r.2.length (bD pX bE r.2)] :=spc [9,11,13,18,19] Tryz.func6 rfl<|sn m λ _ m=>sq m eO λ v1 m=>lfc [9,11,13,18,19] m (λ g1=>⟨[(0,.ptr 0 0 0),(4,.ptr 1 0 0),(7,.dA 2 0 g1.2.2.2.length false),(8,iV v1.1),(9,iV g1.1)],[(0,some (.box [au g1.2.1,iV g1.2.2.1])),(1,some (.box [aY b_.bM,aQ b_.aT,iV b_.aU.bT,aX b_.aU.aF,bV b_.bg,bG b_.bF])),(2,some (.row 6 g1.2.2.2.length (bD pX bE g1.2.2.2)))],3⟩) [(2,none)] [] <|λ av g1 m=>si m (λ _ m=>sn m λ _ m=>sq m Ec λ v46 m=>ck [9,11,13,18,19] (ig b_ v1 g1 av v46) r (λ g14=>⟨[(0,.ptr 0 0 0),(4,.ptr 1 0 0),(7,.dA 2 0 g1.2.2.2.length false),(8,iV v1.1),(9,iV g1.1),(10,.ptr 3 0 0)],[(0,some (.box [au g14.1,iV g14.2.1])),(1,some (.box [aY b_.bM,aQ b_.aT,iV b_.aU.bT,aX b_.aU.aF,bV b_.bg,bG b_.bF])),(2,some (.row 6 g1.2.2.2.length (bD pX bE g1.2.2.2))),(3,some (.box [.dA 4 0 g14.2.2.length false,.sl 0 0 true eu,.sl 0 0 true eu,.sl 0 0 true eu,iV v46.1,.sl 0 0 true eu])),(4,some (.row 3 g14.2.2.length (bD Ae lU g14.2.2)))],5⟩) (si m (λ _ m=>sq m eO λ v66 m=>si m (λ _ m=>sq m Ee λ v67 m=>sn m λ _ m=>lc [(3,some 163),(4,some 435)] [] m) λ _ m=>lc [(3,some 163),(4,none)] [] m) λ c50 m=>by
 refine ⟨(λ q0=>absurd q0 (vac c50)),?_⟩
 (conv=>whnf)
 refine ah m λ h34 m=>?_
 (conv=>whnf)
 exact ⟨(v46.2.L,v46.2.At,([]:List bX)),[(3,some 163),(4,none)],[],m,⟨rfl,⟨r4,r4,⟨rfl,rfl,rfl,rfl,nofun⟩,r2,r2,r4,trivial⟩,⟨⟨sf,r2,trivial⟩,⟨sr,sr,r2,sr,sr,sr,trivial⟩,⟨rfl,rfl,(λ _ _=>.refl _)⟩,⟨⟨rfl,rfl,rfl,rfl,rfl,rfl⟩,sr,sr,sr,r2,sr,trivial⟩,rfl,trivial⟩⟩⟩) λ g14 m=>ck [9,11,13,18,19] (gU b_ v1 g1 av v46 g14) r (λ g15=>⟨[(0,.ptr 0 0 0),(4,.ptr 1 0 0),(7,.dA 2 0 g1.2.2.2.length false),(8,iV v1.1),(9,iV g1.1),(10,.ptr 3 0 0)],[(0,some (.box [au g15.1,iV g15.2.1])),(1,some (.box [aY b_.bM,aQ b_.aT,iV b_.aU.bT,aX b_.aU.aF,bV b_.bg,bG b_.bF])),(2,some (.row 6 g1.2.2.2.length (bD pX bE g1.2.2.2))),(3,some (.box [.dA 4 0 g14.2.2.length false,.dA 5 0 g15.2.2.length false,.sl 0 0 true eu,.sl 0 0 true eu,iV v46.1,.sl 0 0 true eu])),(4,some (.row 3 g14.2.2.length (bD Ae lU g14.2.2))),(5,some (.row 4 g15.2.2.length (bD H9 fI g15.2.2)))],6⟩) (si m (λ _ m=>sq m eO λ v64 m=>si m (λ _ m=>sq m E5 λ v65 m=>sn m λ _ m=>lc [(5,some 245)] [] m) λ _ m=>lc [(5,none)] [] m) λ c48 m=>by
 refine ⟨(λ q0=>absurd q0 (vac c48)),?_⟩
 (conv=>whnf)
 refine ah m λ h32 m=>?_
 (conv=>whnf)
 exact ⟨(g14.1,g14.2.1,([]:List bU)),[(5,none)],[],m,⟨rfl,⟨r4,r4,⟨rfl,rfl,rfl,rfl,nofun⟩,r2,r2,r4,trivial⟩,⟨⟨sf,r2,trivial⟩,⟨sr,sr,r2,sr,sr,sr,trivial⟩,⟨rfl,rfl,(λ _ _=>.refl _)⟩,⟨⟨rfl,rfl,rfl,rfl,nofun⟩,⟨rfl,rfl,rfl,rfl,rfl,rfl⟩,sr,sr,r2,sr,trivial⟩,⟨rfl,rfl,(λ _ _=>.refl _)⟩,rfl,trivial⟩⟩⟩) λ g15 m=>ck [9,11,13,18,19] (iN b_ v1 g1 av v46 g14 g15) r (λ g16=>⟨[(0,.ptr 0 0 0),(4,.ptr 1 0 0),(7,.dA 2 0 g1.2.2.2.length false),(8,iV v1.1),(9,iV g1.1),(10,.ptr 3 0 0)],[(0,some (.box [au g16.1,iV g16.2.1])),(1,some (.box [aY b_.bM,aQ b_.aT,iV b_.aU.bT,aX b_.aU.aF,bV b_.bg,bG b_.bF])),(2,some (.row 6 g1.2.2.2.length (bD pX bE g1.2.2.2))),(3,some (.box [.dA 4 0 g14.2.2.length false,.dA 5 0 g15.2.2.length false,eG g16.2.2,.sl 0 0 true eu,iV v46.1,.sl 0 0 true eu])),(4,some (.row 3 g14.2.2.length (bD Ae lU g14.2.2))),(5,some (.row 4 g15.2.2.length (bD H9 fI g15.2.2)))],6⟩) (sq m eO λ v62 m=>si m (λ _ m=>sq m AJ λ v63 m=>le m) λ _ m=>le m) λ g16 m=>sq m vo λ v53 m=>ck [9,11,13,18,19] (iL g1 av v46 g14 g15 g16 v53) r (λ g18=>⟨[(0,.ptr 0 0 0),(4,.ptr 1 0 0),(7,.dA 2 0 g1.2.2.2.length false),(8,iV v1.1),(9,iV g1.1),(10,.ptr 3 0 0)],[(0,some (.box [au g18.1,iV g18.2.1])),(1,some (.box [aY b_.bM,aQ b_.aT,iV b_.aU.bT,aX b_.aU.aF,bV b_.bg,bG b_.bF])),(2,some (.row 6 g1.2.2.2.length (bD pX bE g1.2.2.2))),(3,some (.box [.dA 4 0 g14.2.2.length false,.dA 5 0 g15.2.2.length false,eG g16.2.2,au v53.1,iV v46.1,au g18.2.2])),(4,some (.row 3 g14.2.2.length (bD Ae lU g14.2.2))),(5,some (.row 4 g15.2.2.length (bD H9 fI g15.2.2)))],6⟩) (sq m eO λ v58 m=>si m (λ _ m=>ck [9,11,13,18,19] (iM g1 av v46 g14 g15 g16 v53) r (λ g19=>⟨[(0,.ptr 0 0 0),(4,.ptr 1 0 0),(7,.dA 2 0 g1.2.2.2.length false),(8,iV v1.1),(9,iV g1.1),(10,.ptr 3 0 0),(11,iV g19.1)],[(0,some (.box [au g19.2.1,iV g19.2.2])),(1,some (.box [aY b_.bM,aQ b_.aT,iV b_.aU.bT,aX b_.aU.aF,bV b_.bg,bG b_.bF])),(2,some (.row 6 g1.2.2.2.length (bD pX bE g1.2.2.2))),(3,some (.box [.dA 4 0 g14.2.2.length false,.dA 5 0 g15.2.2.length false,eG g16.2.2,au v53.1,iV v46.1,.sl 0 0 true eu])),(4,some (.row 3 g14.2.2.length (bD Ae lU g14.2.2))),(5,some (.row 4 g15.2.2.length (bD H9 fI g15.2.2)))],6⟩) (sq m eO λ v61 m=>si m (λ _ m=>le m) λ _ m=>le m) λ g19 m=>sq m vo λ v60 m=>le m) λ _ m=>le m) λ g18 m=>s2 m λ _ _ m=>lc [(2,some 54)] [] m) λ _ m=>si m (λ _ m=>sq m eO λ v68 m=>si m (λ _ m=>sn m λ _ m=>lfc [9,11,13,18,19] m (λ g20=>⟨[(7,.dA 1 0 g20.2.2.length false),(8,iV v1.1),(12,iV g20.1),(13,iV g20.2.1)],[(0,some (.box [au v68.2.L,iV v68.2.At])),(1,some (.row 6 g20.2.2.length (bD pX bE g20.2.2)))],2⟩) [(1,some 2)] [] <|λ X4 g20 m=>si m (λ _ m=>s2 m λ _ _ m=>s2 m λ _ _ m=>s2 m λ _ _ m=>le m) λ _ m=>lfc [9,11,13,18,19] m (λ g21=>⟨[(7,.dA 1 0 g21.2.length false),(8,iV v1.1),(126,iV (g20.2.2.length:Int)),(127,iV g21.1)],[(0,some (.box [au v68.2.L,iV v68.2.At])),(1,some (.row 6 g21.2.length (bD pX bE g21.2)))],2⟩) [] [] <|λ QH g21 m=>si m (λ _ m=>s2 m λ _ _ m=>lfc [9,11,13,18,19] m (λ g24=>⟨[(7,.dA 1 0 g21.2.length false),(8,iV v1.1),(14,iV g21.1),(15,.dA 2 0 g24.2.length false),(16,iV g24.1),(126,iV (g20.2.2.length:Int)),(127,iV g21.1)],[(0,some (.box [au v68.2.L,iV v68.2.At])),(1,some (.row 6 g21.2.length (bD pX bE g21.2))),(2,some (.row 1 g24.2.length (bD iV 0 g24.2)))],3⟩) [(2,none)] [] <|λ X3 g24 m=>si m (λ _ m=>s2 m λ _ _ m=>s2 m λ _ _ m=>s2 m λ _ _ m=>lc [(2,some 243)] [] m) λ _ m=>s2 m λ _ _ m=>le m) λ _ m=>by cases m;exact re) λ _ m=>by cases m;exact rt [] [(1,some 2)]) λ c52 m=>by
 refine ⟨(λ q0=>absurd q0 (vac c52)),?_⟩
 (conv=>whnf)
 refine ah m λ ant m=>?_
 (conv=>whnf)
 have m:r=((⟨g1.2.1,g1.2.2.1⟩:dU),g1.2.2.2):=m
 subst m
 refine ⟨[],[(1,some 2)],?_⟩
 (conv=>whnf)
 exact ⟨⟨rfl,trivial,⟨⟨sf,r2,trivial⟩,⟨rfl,rfl,(λ _ _=>.refl _)⟩,trivial⟩⟩,⟨rfl,rfl,rfl,rfl,nofun⟩⟩
end Go.Proofs.YtnbjfoeapbncjaaGreatDoor

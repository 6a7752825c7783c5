/- An abstract machine over the model's code, that it is sound; models of the functions and their proofs. -/
import Derived.Test.YtfblhejmclcdmaaGreatDoorA7
import Derived.Test.YtfblhejmclcdmaaGreatDoorA3
set_option linter.unusedVariables false
set_option linter.unusedSimpArgs false


namespace Go.Proofs.YtfblhejmclcdmaaGreatDoor
open Go.Ab
set_option maxRecDepth 100000
set_option maxHeartbeats 40000000
theorem uh {s_:(List Int)} {f0_:(List av)} {f1_:(List aj)} {f2_:Int} {f3_:(List aY)} {f4_:(List cu)} {f5_:(List bM)} {f6_:(List aV)} {f7_:(List Int)} {f8_:(List Int)} {f9_:(List Bool)} {f10_:(List Int)} {f11_:(List aL)} {f12_:(List Bool)} {f13_:(List Bool)} {f14_:Bool} {r:Int} (hm:oK s_ f0_ f1_ f2_ f3_ f4_ f5_ f6_ f7_ f8_ f9_ f10_ f11_ f12_ f13_ f14_ r):S 174 [aC s_,.fn 138 [.ro [aN f0_,aJ f1_,iV f2_,aT f3_,bO f4_,bG f5_,eu f6_,aC f7_,aC f8_,aS f9_,aC f10_,dx f11_,aS f12_,aS f13_,.bool f14_]]] [] (iV r) [] :=sp Tryz.func174 rfl<|l0 hm (fun g1=>⟨[(0,aC s_),(1,.fn 138 [.ro [aN f0_,aJ f1_,iV f2_,aT f3_,bO f4_,bG f5_,eu f6_,aC f7_,aC f8_,aS f9_,aC f10_,dx f11_,aS f12_,aS f13_,.bool f14_]]),(7,iV (s_.length:Int)),(8,iV g1)],[],0⟩) <|fun self1 g1 hm=>si hm (fun _ hm=>sn hm fun _ hm=>sb hm fun v3 hv3 hm=>cl (wN hv3)<|si hm (fun _ hm=>by cases hm;exact re) fun _ hm=>sn hm fun _ hm=>le hm) fun _ hm=>by cases hm;exact re
theorem qp {s_:(List Int)} {f0_:(List av)} {f1_:(List aj)} {f2_:Int} {f3_:(List aY)} {f4_:(List cu)} {f5_:(List bM)} {f6_:(List aV)} {f7_:(List Int)} {f8_:(List Int)} {f9_:(List Bool)} {f10_:(List Int)} {f11_:(List aL)} {f12_:(List Bool)} {f13_:(List Bool)} {f14_:Bool} {r:Bool} (hm:jl s_ f0_ f1_ f2_ f3_ f4_ f5_ f6_ f7_ f8_ f9_ f10_ f11_ f12_ f13_ f14_ r):S 135 [aC s_,.fn 138 [.ro [aN f0_,aJ f1_,iV f2_,aT f3_,bO f4_,bG f5_,eu f6_,aC f7_,aC f8_,aS f9_,aC f10_,dx f11_,aS f12_,aS f13_,.bool f14_]]] [] (.bool r) [] :=sp Tryz.func135 rfl<|sb hm fun v1 hv1 hm=>cl (uh hv1)<|by cases hm;exact re
theorem yR {s_:dJ} {r:Bool} (hm:jO s_ r):S 89 [Am s_] [] (.bool r) [] :=sp Tryz.func89 rfl<|sb hm fun v1 hv1 hm=>cl (Jk hv1)<|si hm (fun _ hm=>by cases hm;exact re) fun _ hm=>sb hm fun v2 hv2 hm=>cl (qp hv2)<|by cases hm;exact re
theorem oQ {s_:dJ} {r:Int} (hm:fZ s_ r):S 33 [Am s_] [] (iV r) [] :=sp Tryz.func33 rfl<|by
 refine K6 9 ?_
 refine kH (ct:=[]) fE dk ?_
 (conv=>whnf)
 refine aH hm fun h1 hm=>?_
 (conv=>whnf)
 refine dH hm fun v1 hv1 hm=>?_
 refine ⟨_,_,(AZ hv1),?_⟩
 (conv=>whnf)
 refine dG hm (fun c1 hm=>?_) (fun c1 hm=>?_)
 ·(conv=>whnf)
  refine aH hm fun h2 hm=>?_
  (conv=>whnf)
  have hm:r=((0:Int)+(1:Int)):=hm
  subst hm
  refine ⟨[],[],?_⟩
  (conv=>whnf)
  exact ⟨⟨rfl,trivial,trivial⟩,r2⟩
 ·(conv=>whnf)
  refine aH hm fun h3 hm=>?_
  (conv=>whnf)
  refine kH (ct:=[]) fE dk ?_
  (conv=>whnf)
  refine aH hm fun h4 hm=>?_
  (conv=>whnf)
  refine dH hm fun v2 hv2 hm=>?_
  refine ⟨_,_,(zU hv2),?_⟩
  (conv=>whnf)
  refine dG hm (fun c2 hm=>?_) (fun c2 hm=>?_)
  ·(conv=>whnf)
   refine aH hm fun h5 hm=>?_
   (conv=>whnf)
   have hm:r=(((0:Int)+(1:Int))+(1:Int)):=hm
   subst hm
   refine ⟨[],[],?_⟩
   (conv=>whnf)
   exact ⟨⟨rfl,trivial,trivial⟩,r2⟩
  ·(conv=>whnf)
   refine aH hm fun h6 hm=>?_
   (conv=>whnf)
   refine kH (ct:=[]) fE dk ?_
   (conv=>whnf)
   refine aH hm fun h7 hm=>?_
   (conv=>whnf)
   refine dH hm fun v3 hv3 hm=>?_
   refine ⟨_,_,(zV hv3),?_⟩
   (conv=>whnf)
   refine dG hm (fun c3 hm=>?_) (fun c3 hm=>?_)
   ·(conv=>whnf)
    refine aH hm fun h8 hm=>?_
    (conv=>whnf)
    have hm:r=((((0:Int)+(1:Int))+(1:Int))+(1:Int)):=hm
    subst hm
    refine ⟨[],[],?_⟩
    (conv=>whnf)
    exact ⟨⟨rfl,trivial,trivial⟩,r2⟩
   ·(conv=>whnf)
    refine aH hm fun h9 hm=>?_
    (conv=>whnf)
    refine kH (ct:=[]) fE dk ?_
    (conv=>whnf)
    refine aH hm fun h10 hm=>?_
    (conv=>whnf)
    refine dH hm fun v4 hv4 hm=>?_
    refine ⟨_,_,(wV hv4),?_⟩
    (conv=>whnf)
    refine dG hm (fun c4 hm=>?_) (fun c4 hm=>?_)
    ·(conv=>whnf)
     refine aH hm fun h11 hm=>?_
     (conv=>whnf)
     have hm:r=(((((0:Int)+(1:Int))+(1:Int))+(1:Int))+(1:Int)):=hm
     subst hm
     refine ⟨[],[],?_⟩
     (conv=>whnf)
     exact ⟨⟨rfl,trivial,trivial⟩,r2⟩
    ·(conv=>whnf)
     refine aH hm fun h12 hm=>?_
     (conv=>whnf)
     refine kH (ct:=[]) fE dk ?_
     (conv=>whnf)
     refine aH hm fun h13 hm=>?_
     (conv=>whnf)
     refine dH hm fun v5 hv5 hm=>?_
     refine ⟨_,_,(Cx hv5),?_⟩
     (conv=>whnf)
     refine dG hm (fun c5 hm=>?_) (fun c5 hm=>?_)
     ·(conv=>whnf)
      refine aH hm fun h14 hm=>?_
      (conv=>whnf)
      have hm:r=((((((0:Int)+(1:Int))+(1:Int))+(1:Int))+(1:Int))+(1:Int)):=hm
      subst hm
      refine ⟨[],[],?_⟩
      (conv=>whnf)
      exact ⟨⟨rfl,trivial,trivial⟩,r2⟩
     ·(conv=>whnf)
      refine aH hm fun h15 hm=>?_
      (conv=>whnf)
      refine kH (ct:=[]) fE dk ?_
      (conv=>whnf)
      refine aH hm fun h16 hm=>?_
      (conv=>whnf)
      refine dH hm fun v6 hv6 hm=>?_
      refine ⟨_,_,(wM hv6),?_⟩
      (conv=>whnf)
      refine dG hm (fun c6 hm=>?_) (fun c6 hm=>?_)
      ·(conv=>whnf)
       refine aH hm fun h17 hm=>?_
       (conv=>whnf)
       have hm:r=(((((((0:Int)+(1:Int))+(1:Int))+(1:Int))+(1:Int))+(1:Int))+(1:Int)):=hm
       subst hm
       refine ⟨[],[],?_⟩
       (conv=>whnf)
       exact ⟨⟨rfl,trivial,trivial⟩,r2⟩
      ·(conv=>whnf)
       refine aH hm fun h18 hm=>?_
       (conv=>whnf)
       refine kH (ct:=[]) fE dk ?_
       (conv=>whnf)
       refine aH hm fun h19 hm=>?_
       (conv=>whnf)
       refine dH hm fun v7 hv7 hm=>?_
       refine ⟨_,_,(zW hv7),?_⟩
       (conv=>whnf)
       refine dG hm (fun c7 hm=>?_) (fun c7 hm=>?_)
       ·(conv=>whnf)
        refine aH hm fun h20 hm=>?_
        (conv=>whnf)
        have hm:r=((((((((0:Int)+(1:Int))+(1:Int))+(1:Int))+(1:Int))+(1:Int))+(1:Int))+(1:Int)):=hm
        subst hm
        refine ⟨[],[],?_⟩
        (conv=>whnf)
        exact ⟨⟨rfl,trivial,trivial⟩,r2⟩
       ·(conv=>whnf)
        refine aH hm fun h21 hm=>?_
        (conv=>whnf)
        refine kH (ct:=[]) fE dk ?_
        (conv=>whnf)
        refine aH hm fun h22 hm=>?_
        (conv=>whnf)
        refine dH hm fun v8 hv8 hm=>?_
        refine ⟨_,_,(yR hv8),?_⟩
        (conv=>whnf)
        refine dG hm (fun c8 hm=>?_) (fun c8 hm=>?_)
        ·(conv=>whnf)
         refine aH hm fun h23 hm=>?_
         (conv=>whnf)
         have hm:r=(((((((((0:Int)+(1:Int))+(1:Int))+(1:Int))+(1:Int))+(1:Int))+(1:Int))+(1:Int))+(1:Int)):=hm
         subst hm
         refine ⟨[],[],?_⟩
         (conv=>whnf)
         exact ⟨⟨rfl,trivial,trivial⟩,r2⟩
        ·(conv=>whnf)
         refine aH hm fun h24 hm=>?_
         (conv=>whnf)
         refine kH (ct:=[]) fE dk ?_
         (conv=>whnf)
         have hm:r=(0:Int):=hm
         subst hm
         refine ⟨[],[],?_⟩
         (conv=>whnf)
         exact ⟨⟨rfl,trivial,trivial⟩,r2⟩
theorem wO {at_:Int} {x_:Int} {o0_:(List Int)} {r:(Bool×(List Int))} (hm:nH at_ x_ o0_ r):S 96 [.bP 0 0 o0_.length false,iV at_,iV x_] [.row 1 o0_.length (aX iV 0 o0_)] (.bool r.1) [.row 1 r.2.length (aX iV 0 r.2)] :=sp Tryz.func96 rfl<|si hm (fun _ hm=>by cases hm;exact re) fun _ hm=>sn hm fun _ hm=>by cases hm;exact re
theorem ni {at_:Int} {x_:Bool} {o0_:(List Bool)} {r:(Bool×(List Bool))} (hm:j3 at_ x_ o0_ r):S 97 [.bP 0 0 o0_.length false,iV at_,.bool x_] [.row 1 o0_.length (aX AV.bool false o0_)] (.bool r.1) [.row 1 r.2.length (aX AV.bool false r.2)] :=sp Tryz.func97 rfl<|si hm (fun _ hm=>by cases hm;exact re) fun _ hm=>sn hm fun _ hm=>by cases hm;exact re
theorem Hl {u_:aL} {a10_:Int} {a11_:Int} {a12_:Int} {r:Bool} (hm:nI u_ a10_ a11_ a12_ r):S 99 [gF u_,.ro [iV a10_,iV a11_,iV a12_]] [] (.bool r) [] :=sp Tryz.func99 rfl<|by cases hm;exact re
theorem rE {s_:(List aL)} {f0_:Int} {f1_:Int} {f2_:Int} {r:Int} (hm:jy s_ f0_ f1_ f2_ r):S 98 [dx s_,.fn 99 [.ro [iV f0_,iV f1_,iV f2_]]] [] (iV r) [] :=sp Tryz.func98 rfl<|l0 hm (fun g1=>⟨[(0,dx s_),(1,.fn 99 [.ro [iV f0_,iV f1_,iV f2_]]),(7,iV (s_.length:Int)),(8,iV g1)],[],0⟩) <|fun self1 g1 hm=>si hm (fun _ hm=>sn hm fun _ hm=>sb hm fun v3 hv3 hm=>cl (Hl hv3)<|si hm (fun _ hm=>by cases hm;exact re) fun _ hm=>sn hm fun _ hm=>le hm) fun _ hm=>by cases hm;exact re
theorem rF {s_:Nat} {i_:Int} {j_:Int} {o0_:(List aL)} {r:(Nat×(List aL))} (hm:gX s_ i_ j_ o0_ r):S 100 [.bP 0 0 s_ false,iV i_,iV j_] [.row 3 o0_.length (aX gF bS o0_)] (.bP 0 0 r.1 false) [.row 3 r.2.length (aX gF bS r.2)] :=sp Tryz.func100 rfl<|by
 have h6:=hm.1
 have hm:=hm.2
 refine aH hm fun h1 hm=>?_
 (conv=>whnf)
 refine dG hm (fun c1 hm=>?_) (fun c1 hm=>?_)
 ·(conv=>whnf)
  have hm:r=(s_,o0_):=hm
  subst hm
  refine ⟨[],[],?_⟩
  (conv=>whnf)
  exact ⟨⟨rfl,trivial,⟨⟨rfl,rfl,(fun _ _=>.refl _)⟩,trivial⟩⟩,⟨rfl,rfl,rfl,rfl,nofun⟩⟩
 ·(conv=>whnf)
  refine aH hm fun h2 hm=>?_
  (conv=>whnf)
  refine aH hm fun h3 hm=>?_
  (conv=>whnf)
  refine aH hm fun h4 hm=>?_
  (conv=>whnf)
  refine aH hm fun h5 hm=>?_
  (conv=>whnf)
  have hm:r=((i_.toNat+(s_ - j_.toNat)),(Lg (Lg o0_ ((0+i_.toNat)) ((o0_.drop ((0+j_.toNat))).take ((s_ - j_.toNat)))) ((0+(((i_.toNat+(s_ - j_.toNat)):Nat):Int).toNat)) (List.replicate ((((s_:Nat):Int).toNat - (((i_.toNat+(s_ - j_.toNat)):Nat):Int).toNat)) bS))):=hm
  subst hm
  refine ⟨[],[],?_⟩
  (conv=>whnf)
  exact ⟨⟨rfl,trivial,⟨⟨rfl,oz,(U1 oz (U1 rfl (fun _ _=>.refl _) oz (PY (a:=(0+j_.toNat)) (N:=o0_.length) (fun _ _=>.refl _) (by first | omega | (simp; omega)))) oz (Sv gF bS))⟩,trivial⟩⟩,⟨rfl,rfl,rfl,rfl,nofun⟩⟩
theorem FK {w_:dP} {o0x0_:(List av)} {o0x1_:(List aj)} {o0x2_:Int} {o0x3_:(List aY)} {o0x4_:(List cu)} {o0x5_:(List bM)} {o0x6_:(List aV)} {o0x7_:(List Int)} {o0x8_:Nat} {o0x9_:Bool} {o1_:(List Int)} {o2_:(List Bool)} {o3_:(List Int)} {o4_:(List aL)} {o5_:(List Bool)} {o6_:(List Bool)} {r:(Bool×Nat×(List Int)×(List Bool)×(List Int)×(List Bool)×(List Bool)×(List aL))} (hm:pG w_ o0x0_ o0x1_ o0x2_ o0x3_ o0x4_ o0x5_ o0x6_ o0x7_ o0x8_ o0x9_ o1_ o2_ o3_ o4_ o5_ o6_ r):S 40 [.ptr 0 0 8,GJ w_] [.box [aN o0x0_,aJ o0x1_,iV o0x2_,aT o0x3_,bO o0x4_,bG o0x5_,eu o0x6_,aC o0x7_,.bP 1 0 o1_.length false,.bP 2 0 o2_.length false,.bP 3 0 o3_.length false,.bP 4 0 o0x8_ false,.bP 5 0 o5_.length false,.bP 6 0 o6_.length false,.bool o0x9_],.row 1 o1_.length (aX iV 0 o1_),.row 1 o2_.length (aX AV.bool false o2_),.row 1 o3_.length (aX iV 0 o3_),.row 3 o4_.length (aX gF bS o4_),.row 1 o5_.length (aX AV.bool false o5_),.row 1 o6_.length (aX AV.bool false o6_)] (.bool r.1) [.box [aN o0x0_,aJ o0x1_,iV o0x2_,aT o0x3_,bO o0x4_,bG o0x5_,eu o0x6_,aC o0x7_,.bP 1 0 r.2.2.1.length false,.bP 2 0 r.2.2.2.1.length false,.bP 3 0 r.2.2.2.2.1.length false,.bP 7 0 r.2.1 false,.bP 5 0 r.2.2.2.2.2.1.length false,.bP 6 0 r.2.2.2.2.2.2.1.length false,.bool o0x9_],.row 1 r.2.2.1.length (aX iV 0 r.2.2.1),.row 1 r.2.2.2.1.length (aX AV.bool false r.2.2.2.1),.row 1 r.2.2.2.2.1.length (aX iV 0 r.2.2.2.2.1),Pt,.row 1 r.2.2.2.2.2.1.length (aX AV.bool false r.2.2.2.2.2.1),.row 1 r.2.2.2.2.2.2.1.length (aX AV.bool false r.2.2.2.2.2.2.1),.row 3 r.2.2.2.2.2.2.2.length (aX gF bS r.2.2.2.2.2.2.2)] :=TJ [20] Tryz.func40 rfl<|by
 have h16:=hm.1
 have hm:=hm.2
 refine dG hm (fun c1 hm=>?_) (fun c1 hm=>?_)
 ·(conv=>whnf)
  have hm:r=(false,o0x8_,o1_,o2_,o3_,o5_,o6_,o4_):=hm
  subst hm
  refine ⟨[],[(7,some 4)],?_⟩
  (conv=>whnf)
  exact ⟨⟨rfl,trivial,⟨⟨sr,sr,r2,sr,sr,sr,sr,sr,⟨rfl,rfl,rfl,rfl,nofun⟩,⟨rfl,rfl,rfl,rfl,nofun⟩,⟨rfl,rfl,rfl,rfl,nofun⟩,⟨rfl,rfl,rfl,rfl,nofun⟩,⟨rfl,rfl,rfl,rfl,nofun⟩,⟨rfl,rfl,rfl,rfl,nofun⟩,rfl,trivial⟩,⟨rfl,rfl,(fun _ _=>.refl _)⟩,⟨rfl,rfl,(fun _ _=>.refl _)⟩,⟨rfl,rfl,(fun _ _=>.refl _)⟩,⟨rfl,rfl,(fun _ _=>.refl _)⟩,⟨rfl,rfl,(fun _ _=>.refl _)⟩,⟨rfl,rfl,(fun _ _=>.refl _)⟩,trivial⟩⟩,rfl⟩
 ·(conv=>whnf)
  refine dG hm (fun c2 hm=>?_) (fun c2 hm=>?_)
  ·(conv=>whnf)
   refine dH hm fun v1 hv1 hm=>?_
   refine ⟨_,_,(wO hv1),?_⟩
   (conv=>whnf)
   have h1:=hm.1
   have hm:=hm.2
   have hm:r=(v1.1,o0x8_,v1.2,o2_,o3_,o5_,o6_,o4_):=hm
   subst hm
   refine ⟨[],[(7,some 4)],?_⟩
   (conv=>whnf)
   exact ⟨⟨rfl,trivial,⟨⟨sr,sr,r2,sr,sr,sr,sr,sr,⟨rfl,rfl,rfl,(by first | omega | (simp; omega)),nofun⟩,⟨rfl,rfl,rfl,rfl,nofun⟩,⟨rfl,rfl,rfl,rfl,nofun⟩,⟨rfl,rfl,rfl,rfl,nofun⟩,⟨rfl,rfl,rfl,rfl,nofun⟩,⟨rfl,rfl,rfl,rfl,nofun⟩,rfl,trivial⟩,⟨rfl,rfl,(fun _ _=>.refl _)⟩,⟨rfl,rfl,(fun _ _=>.refl _)⟩,⟨rfl,rfl,(fun _ _=>.refl _)⟩,⟨rfl,rfl,(fun _ _=>.refl _)⟩,⟨rfl,rfl,(fun _ _=>.refl _)⟩,⟨rfl,rfl,(fun _ _=>.refl _)⟩,trivial⟩⟩,rfl⟩
  ·(conv=>whnf)
   refine dG hm (fun c3 hm=>?_) (fun c3 hm=>?_)
   ·(conv=>whnf)
    refine dH hm fun v2 hv2 hm=>?_
    refine ⟨_,_,(wO hv2),?_⟩
    (conv=>whnf)
    have h2:=hm.1
    have hm:=hm.2
    have hm:r=(v2.1,o0x8_,o1_,o2_,v2.2,o5_,o6_,o4_):=hm
    subst hm
    refine ⟨[],[(7,some 4)],?_⟩
    (conv=>whnf)
    exact ⟨⟨rfl,trivial,⟨⟨sr,sr,r2,sr,sr,sr,sr,sr,⟨rfl,rfl,rfl,rfl,nofun⟩,⟨rfl,rfl,rfl,rfl,nofun⟩,⟨rfl,rfl,rfl,(by first | omega | (simp; omega)),nofun⟩,⟨rfl,rfl,rfl,rfl,nofun⟩,⟨rfl,rfl,rfl,rfl,nofun⟩,⟨rfl,rfl,rfl,rfl,nofun⟩,rfl,trivial⟩,⟨rfl,rfl,(fun _ _=>.refl _)⟩,⟨rfl,rfl,(fun _ _=>.refl _)⟩,⟨rfl,rfl,(fun _ _=>.refl _)⟩,⟨rfl,rfl,(fun _ _=>.refl _)⟩,⟨rfl,rfl,(fun _ _=>.refl _)⟩,⟨rfl,rfl,(fun _ _=>.refl _)⟩,trivial⟩⟩,rfl⟩
   ·(conv=>whnf)
    refine dG hm (fun c4 hm=>?_) (fun c4 hm=>?_)
    ·(conv=>whnf)
     refine dG hm (fun c5 hm=>?_) (fun c5 hm=>?_)
     ·(conv=>whnf)
      refine dH hm fun v3 hv3 hm=>?_
      refine ⟨_,_,(ni hv3),?_⟩
      (conv=>whnf)
      have h3:=hm.1
      have hm:=hm.2
      have hm:r=(((decide (w_.Value≤(1:Int)))&&v3.1),o0x8_,o1_,v3.2,o3_,o5_,o6_,o4_):=hm
      subst hm
      refine ⟨[],[(7,some 4)],?_⟩
      (conv=>whnf)
      exact ⟨⟨rfl,trivial,⟨⟨sr,sr,r2,sr,sr,sr,sr,sr,⟨rfl,rfl,rfl,rfl,nofun⟩,⟨rfl,rfl,rfl,(by first | omega | (simp; omega)),nofun⟩,⟨rfl,rfl,rfl,rfl,nofun⟩,⟨rfl,rfl,rfl,rfl,nofun⟩,⟨rfl,rfl,rfl,rfl,nofun⟩,⟨rfl,rfl,rfl,rfl,nofun⟩,rfl,trivial⟩,⟨rfl,rfl,(fun _ _=>.refl _)⟩,⟨rfl,rfl,(fun _ _=>.refl _)⟩,⟨rfl,rfl,(fun _ _=>.refl _)⟩,⟨rfl,rfl,(fun _ _=>.refl _)⟩,⟨rfl,rfl,(fun _ _=>.refl _)⟩,⟨rfl,rfl,(fun _ _=>.refl _)⟩,trivial⟩⟩,rfl⟩
     ·(conv=>whnf)
      refine aH hm fun h4 hm=>?_
      (conv=>whnf)
      have hm:r=(false,o0x8_,o1_,o2_,o3_,o5_,o6_,o4_):=hm
      subst hm
      refine ⟨[],[(7,some 4)],?_⟩
      (conv=>whnf)
      exact ⟨⟨rfl,trivial,⟨⟨sr,sr,r2,sr,sr,sr,sr,sr,⟨rfl,rfl,rfl,rfl,nofun⟩,⟨rfl,rfl,rfl,rfl,nofun⟩,⟨rfl,rfl,rfl,rfl,nofun⟩,⟨rfl,rfl,rfl,rfl,nofun⟩,⟨rfl,rfl,rfl,rfl,nofun⟩,⟨rfl,rfl,rfl,rfl,nofun⟩,rfl,trivial⟩,⟨rfl,rfl,(fun _ _=>.refl _)⟩,⟨rfl,rfl,(fun _ _=>.refl _)⟩,⟨rfl,rfl,(fun _ _=>.refl _)⟩,⟨rfl,rfl,(fun _ _=>.refl _)⟩,⟨rfl,rfl,(fun _ _=>.refl _)⟩,⟨rfl,rfl,(fun _ _=>.refl _)⟩,trivial⟩⟩,rfl⟩
    ·(conv=>whnf)
     refine dG hm (fun c6 hm=>?_) (fun c6 hm=>?_)
     ·(conv=>whnf)
      refine dG hm (fun c7 hm=>?_) (fun c7 hm=>?_)
      ·(conv=>whnf)
       refine dH hm fun v4 hv4 hm=>?_
       refine ⟨_,_,(ni hv4),?_⟩
       (conv=>whnf)
       have h5:=hm.1
       have hm:=hm.2
       have hm:r=(((decide (w_.Value≤(1:Int)))&&v4.1),o0x8_,o1_,o2_,o3_,v4.2,o6_,o4_):=hm
       subst hm
       refine ⟨[],[(7,some 4)],?_⟩
       (conv=>whnf)
       exact ⟨⟨rfl,trivial,⟨⟨sr,sr,r2,sr,sr,sr,sr,sr,⟨rfl,rfl,rfl,rfl,nofun⟩,⟨rfl,rfl,rfl,rfl,nofun⟩,⟨rfl,rfl,rfl,rfl,nofun⟩,⟨rfl,rfl,rfl,rfl,nofun⟩,⟨rfl,rfl,rfl,(by first | omega | (simp; omega)),nofun⟩,⟨rfl,rfl,rfl,rfl,nofun⟩,rfl,trivial⟩,⟨rfl,rfl,(fun _ _=>.refl _)⟩,⟨rfl,rfl,(fun _ _=>.refl _)⟩,⟨rfl,rfl,(fun _ _=>.refl _)⟩,⟨rfl,rfl,(fun _ _=>.refl _)⟩,⟨rfl,rfl,(fun _ _=>.refl _)⟩,⟨rfl,rfl,(fun _ _=>.refl _)⟩,trivial⟩⟩,rfl⟩
      ·(conv=>whnf)
       refine aH hm fun h6 hm=>?_
       (conv=>whnf)
       have hm:r=(false,o0x8_,o1_,o2_,o3_,o5_,o6_,o4_):=hm
       subst hm
       refine ⟨[],[(7,some 4)],?_⟩
       (conv=>whnf)
       exact ⟨⟨rfl,trivial,⟨⟨sr,sr,r2,sr,sr,sr,sr,sr,⟨rfl,rfl,rfl,rfl,nofun⟩,⟨rfl,rfl,rfl,rfl,nofun⟩,⟨rfl,rfl,rfl,rfl,nofun⟩,⟨rfl,rfl,rfl,rfl,nofun⟩,⟨rfl,rfl,rfl,rfl,nofun⟩,⟨rfl,rfl,rfl,rfl,nofun⟩,rfl,trivial⟩,⟨rfl,rfl,(fun _ _=>.refl _)⟩,⟨rfl,rfl,(fun _ _=>.refl _)⟩,⟨rfl,rfl,(fun _ _=>.refl _)⟩,⟨rfl,rfl,(fun _ _=>.refl _)⟩,⟨rfl,rfl,(fun _ _=>.refl _)⟩,⟨rfl,rfl,(fun _ _=>.refl _)⟩,trivial⟩⟩,rfl⟩
     ·(conv=>whnf)
      refine dG hm (fun c8 hm=>?_) (fun c8 hm=>?_)
      ·(conv=>whnf)
       refine dG hm (fun c9 hm=>?_) (fun c9 hm=>?_)
       ·(conv=>whnf)
        refine dH hm fun v5 hv5 hm=>?_
        refine ⟨_,_,(ni hv5),?_⟩
        (conv=>whnf)
        have h7:=hm.1
        have hm:=hm.2
        have hm:r=(((decide (w_.Value≤(1:Int)))&&v5.1),o0x8_,o1_,o2_,o3_,o5_,v5.2,o4_):=hm
        subst hm
        refine ⟨[],[(7,some 4)],?_⟩
        (conv=>whnf)
        exact ⟨⟨rfl,trivial,⟨⟨sr,sr,r2,sr,sr,sr,sr,sr,⟨rfl,rfl,rfl,rfl,nofun⟩,⟨rfl,rfl,rfl,rfl,nofun⟩,⟨rfl,rfl,rfl,rfl,nofun⟩,⟨rfl,rfl,rfl,rfl,nofun⟩,⟨rfl,rfl,rfl,rfl,nofun⟩,⟨rfl,rfl,rfl,(by first | omega | (simp; omega)),nofun⟩,rfl,trivial⟩,⟨rfl,rfl,(fun _ _=>.refl _)⟩,⟨rfl,rfl,(fun _ _=>.refl _)⟩,⟨rfl,rfl,(fun _ _=>.refl _)⟩,⟨rfl,rfl,(fun _ _=>.refl _)⟩,⟨rfl,rfl,(fun _ _=>.refl _)⟩,⟨rfl,rfl,(fun _ _=>.refl _)⟩,trivial⟩⟩,rfl⟩
       ·(conv=>whnf)
        refine aH hm fun h8 hm=>?_
        (conv=>whnf)
        have hm:r=(false,o0x8_,o1_,o2_,o3_,o5_,o6_,o4_):=hm
        subst hm
        refine ⟨[],[(7,some 4)],?_⟩
        (conv=>whnf)
        exact ⟨⟨rfl,trivial,⟨⟨sr,sr,r2,sr,sr,sr,sr,sr,⟨rfl,rfl,rfl,rfl,nofun⟩,⟨rfl,rfl,rfl,rfl,nofun⟩,⟨rfl,rfl,rfl,rfl,nofun⟩,⟨rfl,rfl,rfl,rfl,nofun⟩,⟨rfl,rfl,rfl,rfl,nofun⟩,⟨rfl,rfl,rfl,rfl,nofun⟩,rfl,trivial⟩,⟨rfl,rfl,(fun _ _=>.refl _)⟩,⟨rfl,rfl,(fun _ _=>.refl _)⟩,⟨rfl,rfl,(fun _ _=>.refl _)⟩,⟨rfl,rfl,(fun _ _=>.refl _)⟩,⟨rfl,rfl,(fun _ _=>.refl _)⟩,⟨rfl,rfl,(fun _ _=>.refl _)⟩,trivial⟩⟩,rfl⟩
      ·(conv=>whnf)
       refine dG hm (fun c10 hm=>?_) (fun c10 hm=>?_)
       ·(conv=>whnf)
        refine dH hm fun v6 hv6 hm=>?_
        refine ⟨_,_,(gL hv6),?_⟩
        (conv=>whnf)
        refine dG hm (fun c11 hm=>?_) (fun c11 hm=>?_)
        ·(conv=>whnf)
         have hm:r=(false,o0x8_,o1_,o2_,o3_,o5_,o6_,o4_):=hm
         subst hm
         refine ⟨[],[(7,some 4)],?_⟩
         (conv=>whnf)
         exact ⟨⟨rfl,trivial,⟨⟨sr,sr,r2,sr,sr,sr,sr,sr,⟨rfl,rfl,rfl,rfl,nofun⟩,⟨rfl,rfl,rfl,rfl,nofun⟩,⟨rfl,rfl,rfl,rfl,nofun⟩,⟨rfl,rfl,rfl,rfl,nofun⟩,⟨rfl,rfl,rfl,rfl,nofun⟩,⟨rfl,rfl,rfl,rfl,nofun⟩,rfl,trivial⟩,⟨rfl,rfl,(fun _ _=>.refl _)⟩,⟨rfl,rfl,(fun _ _=>.refl _)⟩,⟨rfl,rfl,(fun _ _=>.refl _)⟩,⟨rfl,rfl,(fun _ _=>.refl _)⟩,⟨rfl,rfl,(fun _ _=>.refl _)⟩,⟨rfl,rfl,(fun _ _=>.refl _)⟩,trivial⟩⟩,rfl⟩
        ·(conv=>whnf)
         refine Nb (ct:=[20]) fE dk dk (jm w_ o1_ o2_ o3_ o5_ o6_) r (fun g1=>⟨[(0,.ptr 0 0 8),(3,.ptr 7 0 0)],[(0,some (.box [aN o0x0_,aJ o0x1_,iV o0x2_,aT o0x3_,bO o0x4_,bG o0x5_,eu o0x6_,aC o0x7_,.bP 1 0 o1_.length false,.bP 2 0 o2_.length false,.bP 3 0 o3_.length false,.bP 4 0 g1.1 false,.bP 5 0 o5_.length false,.bP 6 0 o6_.length false,.bool o0x9_])),(1,some (.row 1 o1_.length (aX iV 0 o1_))),(2,some (.row 1 o2_.length (aX AV.bool false o2_))),(3,some (.row 1 o3_.length (aX iV 0 o3_))),(4,some (.row 3 g1.2.length (aX gF bS g1.2))),(5,some (.row 1 o5_.length (aX AV.bool false o5_))),(6,some (.row 1 o6_.length (aX AV.bool false o6_))),(7,some (.box [iV w_.Kind,iV w_.Unit,iV w_.Value]))],8⟩) ?_ (fun g1 hm=>?_)
         ·(conv=>whnf)
          refine dH hm fun v9 hv9 hm=>?_
          refine ⟨_,_,((rE hv9).le ⟨(.sl oz (fun _=>rfl) nofun (le_rtake (f:=gF) (d:=bS) (by first | omega | (simp; omega)))),.refl _,trivial⟩ trivial),?_⟩
          (conv=>whnf)
          refine dG hm (fun c14 hm=>?_) (fun c14 hm=>?_)
          ·(conv=>whnf)
           refine aH hm fun h14 hm=>?_
           (conv=>whnf)
           refine dH hm fun v10 hv10 hm=>?_
           refine ⟨_,_,(rF hv10),?_⟩
           (conv=>whnf)
           have h15:=hm.1
           have hm:=hm.2
           exact ⟨(v10.1,v10.2),[],[],hm,⟨rfl,⟨r4,r4,trivial⟩,⟨⟨sr,sr,r2,sr,sr,sr,sr,sr,⟨rfl,rfl,rfl,rfl,nofun⟩,⟨rfl,rfl,rfl,rfl,nofun⟩,⟨rfl,rfl,rfl,rfl,nofun⟩,⟨rfl,rfl,rfl,rfl,nofun⟩,⟨rfl,rfl,rfl,rfl,nofun⟩,⟨rfl,rfl,rfl,rfl,nofun⟩,rfl,trivial⟩,⟨rfl,rfl,(fun _ _=>.refl _)⟩,⟨rfl,rfl,(fun _ _=>.refl _)⟩,⟨rfl,rfl,(fun _ _=>.refl _)⟩,⟨rfl,rfl,(fun _ _=>.refl _)⟩,⟨rfl,rfl,(fun _ _=>.refl _)⟩,⟨rfl,rfl,(fun _ _=>.refl _)⟩,⟨r2,r2,r2,trivial⟩,trivial⟩⟩⟩
          ·(conv=>whnf)
           exact ⟨(o0x8_,o4_),[],[],hm,⟨rfl,⟨r4,r4,trivial⟩,⟨⟨sr,sr,r2,sr,sr,sr,sr,sr,⟨rfl,rfl,rfl,rfl,nofun⟩,⟨rfl,rfl,rfl,rfl,nofun⟩,⟨rfl,rfl,rfl,rfl,nofun⟩,⟨rfl,rfl,rfl,rfl,nofun⟩,⟨rfl,rfl,rfl,rfl,nofun⟩,⟨rfl,rfl,rfl,rfl,nofun⟩,rfl,trivial⟩,⟨rfl,rfl,(fun _ _=>.refl _)⟩,⟨rfl,rfl,(fun _ _=>.refl _)⟩,⟨rfl,rfl,(fun _ _=>.refl _)⟩,⟨rfl,rfl,(fun _ _=>.refl _)⟩,⟨rfl,rfl,(fun _ _=>.refl _)⟩,⟨rfl,rfl,(fun _ _=>.refl _)⟩,⟨r2,r2,r2,trivial⟩,trivial⟩⟩⟩
         ·(conv=>whnf)
          have h13:=hm.1
          have hm:=hm.2
          refine dG hm (fun c13 hm=>?_) (fun c13 hm=>?_)
          ·(conv=>whnf)
           refine aH hm fun h11 hm=>?_
           (conv=>whnf)
           refine aH hm fun h12 hm=>?_
           (conv=>whnf)
           have hm:r=(true,(g1.1+1),o1_,o2_,o3_,o5_,o6_,((g1.2.take (g1.1))++([(⟨(-1:Int),(⟨w_.Unit,(w_.Value - (1:Int))⟩:ql)⟩:aL)]:List aL))):=hm
           subst hm
           refine ⟨[],[(7,some 136)],?_⟩
           (conv=>whnf)
           exact ⟨⟨rfl,trivial,⟨⟨sr,sr,r2,sr,sr,sr,sr,sr,⟨rfl,rfl,rfl,rfl,nofun⟩,⟨rfl,rfl,rfl,rfl,nofun⟩,⟨rfl,rfl,rfl,rfl,nofun⟩,⟨rfl,rfl,rfl,rfl,nofun⟩,⟨rfl,rfl,rfl,rfl,nofun⟩,⟨rfl,rfl,rfl,rfl,nofun⟩,rfl,trivial⟩,⟨rfl,rfl,(fun _ _=>.refl _)⟩,⟨rfl,rfl,(fun _ _=>.refl _)⟩,⟨rfl,rfl,(fun _ _=>.refl _)⟩,⟨rfl,rfl,(fun _ _=>.refl _)⟩,⟨rfl,rfl,(fun _ _=>.refl _)⟩,⟨rfl,oz,(le_appG oz (le_rtake (f:=gF) (d:=bS) (by first | omega | (simp; omega))) rfl (le_litG gF bS [(⟨(-1:Int),(⟨w_.Unit,(w_.Value - (1:Int))⟩:ql)⟩:aL)]))⟩,trivial⟩⟩,rfl⟩
          ·(conv=>whnf)
           have hm:r=(true,g1.1,o1_,o2_,o3_,o5_,o6_,g1.2):=hm
           subst hm
           refine ⟨[],[(7,some 4)],?_⟩
           (conv=>whnf)
           exact ⟨⟨rfl,trivial,⟨⟨sr,sr,r2,sr,sr,sr,sr,sr,⟨rfl,rfl,rfl,rfl,nofun⟩,⟨rfl,rfl,rfl,rfl,nofun⟩,⟨rfl,rfl,rfl,rfl,nofun⟩,⟨rfl,rfl,rfl,rfl,nofun⟩,⟨rfl,rfl,rfl,rfl,nofun⟩,⟨rfl,rfl,rfl,rfl,nofun⟩,rfl,trivial⟩,⟨rfl,rfl,(fun _ _=>.refl _)⟩,⟨rfl,rfl,(fun _ _=>.refl _)⟩,⟨rfl,rfl,(fun _ _=>.refl _)⟩,⟨rfl,rfl,(fun _ _=>.refl _)⟩,⟨rfl,rfl,(fun _ _=>.refl _)⟩,⟨rfl,rfl,(fun _ _=>.refl _)⟩,trivial⟩⟩,rfl⟩
       ·(conv=>whnf)
        have hm:r=(false,o0x8_,o1_,o2_,o3_,o5_,o6_,o4_):=hm
        subst hm
        refine ⟨[],[(7,some 4)],?_⟩
        (conv=>whnf)
        exact ⟨⟨rfl,trivial,⟨⟨sr,sr,r2,sr,sr,sr,sr,sr,⟨rfl,rfl,rfl,rfl,nofun⟩,⟨rfl,rfl,rfl,rfl,nofun⟩,⟨rfl,rfl,rfl,rfl,nofun⟩,⟨rfl,rfl,rfl,rfl,nofun⟩,⟨rfl,rfl,rfl,rfl,nofun⟩,⟨rfl,rfl,rfl,rfl,nofun⟩,rfl,trivial⟩,⟨rfl,rfl,(fun _ _=>.refl _)⟩,⟨rfl,rfl,(fun _ _=>.refl _)⟩,⟨rfl,rfl,(fun _ _=>.refl _)⟩,⟨rfl,rfl,(fun _ _=>.refl _)⟩,⟨rfl,rfl,(fun _ _=>.refl _)⟩,⟨rfl,rfl,(fun _ _=>.refl _)⟩,trivial⟩⟩,rfl⟩
end Go.Proofs.YtfblhejmclcdmaaGreatDoor


namespace Go.Proofs.YtfblhejmclcdmaaGreatDoor
open Go.Ab
set_option maxRecDepth 100000
set_option maxHeartbeats 40000000
theorem mM {b_:bQ} {l_:(List aV)} {members_:(List Int)} {g_:bq} {w_:(List dP)} {r:(bq×Int×Int×Int)} (hm:l5 b_ l_ members_ g_ w_ r):S 14 [vX b_,eu l_,aC members_,yG g_,L9 w_] [] (.iT [yG r.1,iV r.2.1,iV r.2.2.1,iV r.2.2.2]) [] :=sp Tryz.func14 rfl<|sb hm fun v1 hv1 hm=>cl (LC hv1)<|si hm (fun _ hm=>by cases hm;exact re) fun _ hm=>sb hm fun v2 hv2 hm=>cl (sV hv2)<|si hm (fun _ hm=>by cases hm;exact re) fun _ hm=>sb hm fun v3 hv3 hm=>cl (NU hv3)<|sb hm fun v4 hv4 hm=>cl (oQ hv4)<|si hm (fun _ hm=>by cases hm;exact rt [160,161,162,163,164,165] [] (by (conv=>whnf);exact ⟨⟨rfl,trivial,trivial⟩,(by (conv=>whnf); exact ⟨(by (conv=>whnf); exact ⟨(by (conv=>whnf); exact sf),(by (conv=>whnf); exact ⟨(by (conv=>whnf); exact sf),(by (conv=>whnf); exact ⟨(by (conv=>whnf); exact sf),(by (conv=>whnf); exact ⟨(by (conv=>whnf); exact sf),(by (conv=>whnf); exact ⟨(by (conv=>whnf); exact sf),(by (conv=>whnf); exact ⟨(by (conv=>whnf); exact sf),trivial⟩)⟩)⟩)⟩)⟩)⟩),(by (conv=>whnf); exact ⟨(by first | ((conv=>whnf); exact r2) | exact r2),(by (conv=>whnf); exact ⟨(by first | ((conv=>whnf); exact r2) | exact r2),(by (conv=>whnf); exact ⟨(by first | ((conv=>whnf); exact r2) | exact r2),trivial⟩)⟩)⟩)⟩)⟩)) fun _ hm=>lf hm (fun g1=>⟨[(4,L9 w_),(10,.ptr 0 0 0),(15,.ptr 1 0 0),(45,L9 w_),(46,iV (w_.length:Int)),(47,iV g1.1)],[(0,some (.box [.sl 0 0 true dB,.sl 0 0 true dB,.sl 0 0 true dB,.sl 0 0 true dB,.sl 0 0 true dB,.sl 0 0 true dB])),(1,some (.box [aN b_.bY,aJ b_.bH,iV b_.bE.bT,aT b_.bE.Groups,bO b_.Resets,bG b_.cK,eu l_,aC members_,.bP 2 0 g1.2.2.1.length false,.bP 3 0 g1.2.2.2.1.length false,.bP 4 0 g1.2.2.2.2.1.length false,.bP 5 0 g1.2.1 false,.bP 6 0 g1.2.2.2.2.2.2.1.length false,.bP 7 0 g1.2.2.2.2.2.2.2.length false,.bool true])),(2,some (.row 1 g1.2.2.1.length (aX iV 0 g1.2.2.1))),(3,some (.row 1 g1.2.2.2.1.length (aX AV.bool false g1.2.2.2.1))),(4,some (.row 1 g1.2.2.2.2.1.length (aX iV 0 g1.2.2.2.2.1))),(5,some (.row 3 g1.2.2.2.2.2.1.length (aX gF bS g1.2.2.2.2.2.1))),(6,some (.row 1 g1.2.2.2.2.2.2.1.length (aX AV.bool false g1.2.2.2.2.2.2.1))),(7,some (.row 1 g1.2.2.2.2.2.2.2.length (aX AV.bool false g1.2.2.2.2.2.2.2)))],8⟩) [(0,some 16),(1,some 176),(2,some 160),(3,some 161),(4,some 162),(5,some 163),(6,some 164),(7,some 165)] [] <|fun self1 g1 hm=>by
 have h10:=hm.1
 have hm:=hm.2
 refine dG hm (fun c10 hm=>?_) (fun c10 hm=>?_)
 ·(conv=>whnf)
  refine aH hm fun h7 hm=>?_
  (conv=>whnf)
  refine dH hm fun v9 hv9 hm=>?_
  refine ⟨_,_,(FK hv9),?_⟩
  (conv=>whnf)
  have h8:=hm.1
  have hm:=hm.2
  refine dG hm (fun c11 hm=>?_) (fun c11 hm=>?_)
  ·(conv=>whnf)
   have hm:r=((⟨([]:List Int),(⟨([]:List Bool),([]:List Int)⟩:bF),([]:List aL),([]:List Bool),([]:List Bool)⟩:bq),(0:Int),(0:Int),(2:Int)):=hm
   subst hm
   refine ⟨[],[],?_⟩
   (conv=>whnf)
   exact ⟨⟨rfl,trivial,trivial⟩,⟨⟨⟨rfl,(fun h=>absurd rfl h),nofun,(fun _ h=>absurd h (Nat.not_lt_zero _))⟩,⟨rfl,(fun h=>absurd rfl h),nofun,(fun _ h=>absurd h (Nat.not_lt_zero _))⟩,⟨rfl,(fun h=>absurd rfl h),nofun,(fun _ h=>absurd h (Nat.not_lt_zero _))⟩,⟨rfl,(fun h=>absurd rfl h),nofun,(fun _ h=>absurd h (Nat.not_lt_zero _))⟩,⟨rfl,(fun h=>absurd rfl h),nofun,(fun _ h=>absurd h (Nat.not_lt_zero _))⟩,⟨rfl,(fun h=>absurd rfl h),nofun,(fun _ h=>absurd h (Nat.not_lt_zero _))⟩,trivial⟩,r2,r2,r2,trivial⟩⟩
  ·(conv=>whnf)
   refine dH hm fun v10 hv10 hm=>?_
   refine ⟨_,_,((oQ hv10).le ⟨(Le.UN ⟨(.refl _),(.refl _),(.refl _),(.refl _),(.refl _),(.refl _),(.refl _),(.refl _),(.refl _),(.refl _),(.refl _),(.sl oz (fun _=>rfl) nofun (le_rtake (f:=gF) (d:=bS) (by first | omega | (simp; omega)))),(.refl _),(.refl _),(.refl _),trivial⟩),trivial⟩ trivial),?_⟩
   (conv=>whnf)
   refine dG hm (fun c12 hm=>?_) (fun c12 hm=>?_)
   ·(conv=>whnf)
    have hm:r=((⟨v9.2.2.1,(⟨v9.2.2.2.1,v9.2.2.2.2.1⟩:bF),(v9.2.2.2.2.2.2.2.take (v9.2.1)),v9.2.2.2.2.2.1,v9.2.2.2.2.2.2.1⟩:bq),g1.1,v10,(0:Int)):=hm
    subst hm
    refine ⟨[2,3,4,80,6,7],[],?_⟩
    (conv=>whnf)
    exact ⟨⟨rfl,trivial,trivial⟩,(by (conv=>whnf); exact ⟨(by (conv=>whnf); exact ⟨(by (conv=>whnf); exact sf),(by (conv=>whnf); exact ⟨(by (conv=>whnf); exact sf),(by (conv=>whnf); exact ⟨(by (conv=>whnf); exact sf),(by (conv=>whnf); exact ⟨(by (conv=>whnf); exact ⟨oz,(fun _=>rfl),nofun,(le_rtake (f:=gF) (d:=bS) (by first | omega | (simp; omega)))⟩),(by (conv=>whnf); exact ⟨(by (conv=>whnf); exact sf),(by (conv=>whnf); exact ⟨(by (conv=>whnf); exact sf),trivial⟩)⟩)⟩)⟩)⟩)⟩),(by (conv=>whnf); exact ⟨(by first | ((conv=>whnf); exact r2) | exact r2),(by (conv=>whnf); exact ⟨(by first | ((conv=>whnf); exact r2) | exact r2),(by (conv=>whnf); exact ⟨(by first | ((conv=>whnf); exact r2) | exact r2),trivial⟩)⟩)⟩)⟩)⟩
   ·(conv=>whnf)
    refine aH hm fun h9 hm=>?_
    (conv=>whnf)
    exact ⟨((g1.1+(1:Int)),v9.2.1,v9.2.2.1,v9.2.2.2.1,v9.2.2.2.2.1,v9.2.2.2.2.2.2.2,v9.2.2.2.2.2.1,v9.2.2.2.2.2.2.1),[(5,some 80)],[],hm,⟨rfl,⟨sr,r4,r4,sr,r2,r2,trivial⟩,⟨⟨sr,sr,sr,sr,sr,sr,trivial⟩,⟨sr,sr,r2,sr,sr,sr,sr,sr,⟨rfl,rfl,rfl,rfl,nofun⟩,⟨rfl,rfl,rfl,rfl,nofun⟩,⟨rfl,rfl,rfl,rfl,nofun⟩,⟨rfl,rfl,rfl,rfl,nofun⟩,⟨rfl,rfl,rfl,rfl,nofun⟩,⟨rfl,rfl,rfl,rfl,nofun⟩,rfl,trivial⟩,⟨rfl,rfl,(fun _ _=>.refl _)⟩,⟨rfl,rfl,(fun _ _=>.refl _)⟩,⟨rfl,rfl,(fun _ _=>.refl _)⟩,⟨rfl,rfl,(fun _ _=>.refl _)⟩,⟨rfl,rfl,(fun _ _=>.refl _)⟩,⟨rfl,rfl,(fun _ _=>.refl _)⟩,trivial⟩⟩⟩
 ·(conv=>whnf)
  have hm:r=((⟨g1.2.2.1,(⟨g1.2.2.2.1,g1.2.2.2.2.1⟩:bF),(g1.2.2.2.2.2.1.take (g1.2.1)),g1.2.2.2.2.2.2.1,g1.2.2.2.2.2.2.2⟩:bq),(w_.length:Int),(0:Int),(0:Int)):=hm
  subst hm
  refine ⟨[2,3,4,5,6,7],[],?_⟩
  (conv=>whnf)
  exact ⟨⟨rfl,trivial,trivial⟩,(by (conv=>whnf); exact ⟨(by (conv=>whnf); exact ⟨(by (conv=>whnf); exact sf),(by (conv=>whnf); exact ⟨(by (conv=>whnf); exact sf),(by (conv=>whnf); exact ⟨(by (conv=>whnf); exact sf),(by (conv=>whnf); exact ⟨(by (conv=>whnf); exact ⟨oz,(fun _=>rfl),nofun,(le_rtake (f:=gF) (d:=bS) (by first | omega | (simp; omega)))⟩),(by (conv=>whnf); exact ⟨(by (conv=>whnf); exact sf),(by (conv=>whnf); exact ⟨(by (conv=>whnf); exact sf),trivial⟩)⟩)⟩)⟩)⟩)⟩),(by (conv=>whnf); exact ⟨(by first | ((conv=>whnf); exact r2) | exact r2),(by (conv=>whnf); exact ⟨(by first | ((conv=>whnf); exact r2) | exact r2),(by (conv=>whnf); exact ⟨(by first | ((conv=>whnf); exact r2) | exact r2),trivial⟩)⟩)⟩)⟩)⟩
theorem NW {l_:(List Int)} {r:((List Int)×Int)} (hm:EZ l_ r):S 7 [aC l_] [] (.ptr 0 0 0) [.box [aC r.1,iV r.2]] :=sp Tryz.func7 rfl<|sn hm fun _ hm=>by cases hm;exact rt [] [(0,some 56)]
theorem NY {x_:Int} {n_:Int} {r:Int} (hm:E5 x_ n_ r):S 34 [iV x_,iV n_] [] (iV r) [] :=sp Tryz.func34 rfl<|si hm (fun _ hm=>by cases hm;exact re) fun _ hm=>sn hm fun _ hm=>sn hm fun _ hm=>sn hm fun _ hm=>by cases hm;exact re
theorem aO {n_:Int} {o0_:aZ} {r:(Int×aZ)} (hm:bI n_ o0_ r):S 11 [.ptr 0 0 0,iV n_] [.box [aC o0_.L,iV o0_.At]] (iV r.1) [.box [aC r.2.L,iV r.2.At]] :=sp Tryz.func11 rfl<|si hm (fun _ hm=>by cases hm;exact re) fun _ hm=>sn hm fun _ hm=>sn hm fun _ hm=>sn hm fun _ hm=>sb hm fun v1 hv1 hm=>cl (NY hv1)<|by cases hm;exact re
theorem dz {l_:(List Int)} {o0_:aZ} {r:(Int×aZ)} (hm:dI l_ o0_ r):S 35 [.ptr 0 0 0,aC l_] [.box [aC o0_.L,iV o0_.At]] (iV r.1) [.box [aC r.2.L,iV r.2.At]] :=sp Tryz.func35 rfl<|sb hm fun v1 hv1 hm=>cl (aO hv1)<|sn hm fun _ hm=>by cases hm;exact re
theorem Cy {o0_:aZ} {r:((List av)×aZ)} (hm:mH o0_ r):S 63 [.ptr 0 0 0] [.box [aC o0_.L,iV o0_.At]] (aN r.1) [.box [aC r.2.L,iV r.2.At]] :=TJ [20,22] Tryz.func63 rfl<|sb hm fun v1 hv1 hm=>cl (aO hv1)<|Lx [20,22] hm (fun g1=>⟨[(0,.ptr 0 0 0),(3,.bP 1 0 g1.2.2.2.length false),(4,iV g1.1)],[(0,some (.box [aC g1.2.1,iV g1.2.2.1])),(1,some (.row 5 g1.2.2.2.length (aX Di au g1.2.2.2)))],2⟩) [(1,none)] [] <|fun self1 g1 hm=>si hm (fun _ hm=>sb hm fun v28 hv28 hm=>cl ((dz hv28).le ⟨.refl _,(.sl rfl (fun _=>rfl) nofun (le_litG iV 0 [(12:Int),(24:Int),(48:Int),(100:Int)])),trivial⟩ ⟨kT _,trivial⟩)<|ck [20,22] (bK g1 self1) r (fun g7=>⟨[(0,.ptr 0 0 0),(3,.bP 1 0 g1.2.2.2.length false),(4,iV g1.1),(5,.ptr 2 0 0)],[(0,some (.box [aC g7.1,iV g7.2.1])),(1,some (.row 5 g1.2.2.2.length (aX Di au g1.2.2.2))),(2,some (.box [iV g7.2.2.1,.bP 3 0 g7.2.2.2.2.1.length false,.bP 4 0 g7.2.2.2.2.2.length false,iV (0:Int),iV g7.2.2.2.1])),(3,some (.row 1 g7.2.2.2.2.1.length (aX iV 0 g7.2.2.2.2.1))),(4,some (.row 1 g7.2.2.2.2.2.length (aX iV 0 g7.2.2.2.2.2)))],5⟩) (si hm (fun _ hm=>sb hm fun v41 hv41 hm=>cl (aO hv41)<|si hm (fun _ hm=>sb hm fun v42 hv42 hm=>cl (aO hv42)<|ck [20,22] (dA g1 self1) r (fun g8=>⟨[(0,.ptr 0 0 0),(3,.bP 1 0 g1.2.2.2.length false),(4,iV g1.1),(5,.ptr 2 0 0),(25,iV v41.1)],[(0,some (.box [aC g8.1,iV g8.2.1])),(1,some (.row 5 g1.2.2.2.length (aX Di au g1.2.2.2))),(2,some (.box [iV g8.2.2.1,.bP 3 0 g8.2.2.2.1.length false,.bP 4 0 g8.2.2.2.2.length false,iV (0:Int),iV (0:Int)])),(3,some (.row 1 g8.2.2.2.1.length (aX iV 0 g8.2.2.2.1))),(4,some (.row 1 g8.2.2.2.2.length (aX iV 0 g8.2.2.2.2)))],5⟩) (sb hm fun v49 hv49 hm=>cl (aO hv49)<|si hm (fun _ hm=>sb hm fun v50 hv50 hm=>cl ((dz hv50).le ⟨.refl _,(.sl rfl (fun _=>rfl) nofun (le_litG iV 0 [(3:Int),(4:Int),(8:Int)])),trivial⟩ ⟨kT _,trivial⟩)<|lc [(2,some 58),(3,some 178),(4,some 258)] [] hm) fun _ hm=>si hm (fun _ hm=>sb hm fun v51 hv51 hm=>cl ((dz hv51).le ⟨.refl _,(.sl rfl (fun _=>rfl) nofun (le_litG iV 0 [(2:Int),(3:Int)])),trivial⟩ ⟨kT _,trivial⟩)<|lc [(2,some 58),(3,some 178),(4,some 274)] [] hm) fun _ hm=>si hm (fun _ hm=>lc [(2,some 58),(3,some 178),(4,some 266)] [] hm) fun _ hm=>si hm (fun _ hm=>sn hm fun _ hm=>sb hm fun v52 hv52 hm=>cl (aO hv52)<|sn hm fun _ hm=>lc [(2,some 58),(3,some 346),(4,some 354)] [] hm) fun _ hm=>lc [(2,some 58),(3,some 178),(4,some 282)] [] hm) fun g8 hm=>sb hm fun v47 hv47 hm=>cl (aO hv47)<|si hm (fun _ hm=>sb hm fun v48 hv48 hm=>cl ((dz hv48).le ⟨.refl _,(.sl rfl (fun _=>rfl) nofun (le_litG iV 0 [(24:Int),(48:Int),(96:Int)])),trivial⟩ ⟨kT _,trivial⟩)<|le hm) fun _ hm=>le hm) fun _ hm=>lc [(2,some 58),(3,none),(4,some 42)] [] hm) fun c37 hm=>by
 refine ⟨(fun q0=>absurd q0 (YK c37)),?_⟩
 (conv=>whnf)
 refine aH hm fun h28 hm=>?_
 (conv=>whnf)
 exact ⟨(v28.2.L,v28.2.At,(1:Int),(0:Int),([]:List Int),([v28.1]:List Int)),[(2,some 58),(3,none),(4,some 42)],[],hm,⟨rfl,⟨r4,⟨rfl,rfl,rfl,rfl,nofun⟩,r2,r4,trivial⟩,⟨⟨sf,r2,trivial⟩,⟨rfl,rfl,(fun _ _=>.refl _)⟩,⟨r2,⟨rfl,rfl,rfl,rfl,rfl,rfl⟩,⟨rfl,rfl,rfl,rfl,nofun⟩,r2,r2,trivial⟩,rfl,⟨rfl,rfl,(le_litG iV 0 [v28.1])⟩,trivial⟩⟩⟩) fun g7 hm=>sn hm fun _ hm=>sn hm fun _ hm=>lc [(1,some 29)] [] hm) fun _ hm=>by cases hm;exact rt [1] []
theorem eX {lo_:Int} {hi_:Int} {o0_:aZ} {r:(Int×aZ)} (hm:eY lo_ hi_ o0_ r):S 36 [.ptr 0 0 0,iV lo_,iV hi_] [.box [aC o0_.L,iV o0_.At]] (iV r.1) [.box [aC r.2.L,iV r.2.At]] :=sp Tryz.func36 rfl<|sn hm fun _ hm=>sn hm fun _ hm=>sb hm fun v1 hv1 hm=>cl (aO hv1)<|sn hm fun _ hm=>by cases hm;exact re
theorem zX {o0_:aZ} {r:((List aj)×aZ)} (hm:kL o0_ r):S 64 [.ptr 0 0 0] [.box [aC o0_.L,iV o0_.At]] (aJ r.1) [.box [aC r.2.L,iV r.2.At]] :=TJ [8] Tryz.func64 rfl<|sb hm fun v1 hv1 hm=>cl (aO hv1)<|Lx [8] hm (fun g1=>⟨[(0,.ptr 0 0 0),(3,.bP 1 0 g1.2.2.2.length false),(4,iV g1.1)],[(0,some (.box [aC g1.2.1,iV g1.2.2.1])),(1,some (.row 5 g1.2.2.2.length (aX uL ah g1.2.2.2)))],2⟩) [(1,none)] [] <|fun self1 g1 hm=>si hm (fun _ hm=>sn hm fun _ hm=>sb hm fun v12 hv12 hm=>cl (eX hv12)<|sb hm fun v13 hv13 hm=>cl ((dz hv13).le ⟨.refl _,(.sl rfl (fun _=>rfl) nofun (le_litG iV 0 [(0:Int),(0:Int),(100:Int),(300:Int)])),trivial⟩ ⟨kT _,trivial⟩)<|sb hm fun v14 hv14 hm=>cl ((dz hv14).le ⟨.refl _,(.sl rfl (fun _=>rfl) nofun (le_litG iV 0 [(100:Int),(300:Int),(1000:Int)])),trivial⟩ ⟨kT _,trivial⟩)<|sb hm fun v15 hv15 hm=>cl (aO hv15)<|ck [8] (ig g1 self1 v12 v14 v15) r (fun g4=>⟨[(0,.ptr 0 0 0),(3,.bP 1 0 g1.2.2.2.length false),(4,iV g1.1),(5,.ptr 2 0 0)],[(0,some (.box [aC v15.2.L,iV v15.2.At])),(1,some (.row 5 g1.2.2.2.length (aX uL ah g1.2.2.2))),(2,some (.box [iV v12.1,.sl 0 0 true dB,iV g4,iV v14.1,.bool (v15.1==(7:Int))]))],3⟩) (si hm (fun _ hm=>lc [(2,some 138)] [] hm) fun _ hm=>lc [(2,some 138)] [] hm) fun g4 hm=>sb hm fun v16 hv16 hm=>cl (aO hv16)<|sn hm fun _ hm=>by
 rcases (by omega:v16.1=0∨v16.1=1∨v16.1=2∨v16.1=3∨v16.1=4) with e1 | e1 | e1 | e1 | e1
 ·rw [e1] at hm ⊢
  (conv=>whnf)
  refine aH hm fun h27 hm=>?_
  (conv=>whnf)
  refine aH hm fun h28 hm=>?_
  (conv=>whnf)
  exact ⟨((g1.1 - (1:Int)),v16.2.L,v16.2.At,(g1.2.2.2++([(⟨v12.1,([(1000:Int),(1200:Int)]:List Int),g4,v14.1,(v15.1==(7:Int))⟩:aj)]:List aj))),[(1,some 123)],[],hm,⟨rfl,⟨r4,⟨rfl,rfl,rfl,oz,nofun⟩,r2,trivial⟩,⟨⟨sf,r2,trivial⟩,⟨rfl,oz,(le_appG rfl (fun _ _=>.refl _) rfl (zn (Le.UN ⟨(.refl _),(.sl rfl (fun _=>rfl) nofun (le_litG iV 0 [(1000:Int),(1200:Int)])),(.refl _),(.refl _),(.refl _),trivial⟩) (fun _ h=>absurd h (Nat.not_lt_zero _))))⟩,trivial⟩⟩⟩
 ·rw [e1] at hm ⊢
  (conv=>whnf)
  refine aH hm fun h29 hm=>?_
  (conv=>whnf)
  refine aH hm fun h30 hm=>?_
  (conv=>whnf)
  exact ⟨((g1.1 - (1:Int)),v16.2.L,v16.2.At,(g1.2.2.2++([(⟨v12.1,([(1800:Int),(3300:Int)]:List Int),g4,v14.1,(v15.1==(7:Int))⟩:aj)]:List aj))),[(1,some 123)],[],hm,⟨rfl,⟨r4,⟨rfl,rfl,rfl,oz,nofun⟩,r2,trivial⟩,⟨⟨sf,r2,trivial⟩,⟨rfl,oz,(le_appG rfl (fun _ _=>.refl _) rfl (zn (Le.UN ⟨(.refl _),(.sl rfl (fun _=>rfl) nofun (le_litG iV 0 [(1800:Int),(3300:Int)])),(.refl _),(.refl _),(.refl _),trivial⟩) (fun _ h=>absurd h (Nat.not_lt_zero _))))⟩,trivial⟩⟩⟩
 ·rw [e1] at hm ⊢
  (conv=>whnf)
  refine aH hm fun h31 hm=>?_
  (conv=>whnf)
  refine aH hm fun h32 hm=>?_
  (conv=>whnf)
  exact ⟨((g1.1 - (1:Int)),v16.2.L,v16.2.At,(g1.2.2.2++([(⟨v12.1,([(1000:Int),(1800:Int),(3300:Int)]:List Int),g4,v14.1,(v15.1==(7:Int))⟩:aj)]:List aj))),[(1,some 123)],[],hm,⟨rfl,⟨r4,⟨rfl,rfl,rfl,oz,nofun⟩,r2,trivial⟩,⟨⟨sf,r2,trivial⟩,⟨rfl,oz,(le_appG rfl (fun _ _=>.refl _) rfl (zn (Le.UN ⟨(.refl _),(.sl rfl (fun _=>rfl) nofun (le_litG iV 0 [(1000:Int),(1800:Int),(3300:Int)])),(.refl _),(.refl _),(.refl _),trivial⟩) (fun _ h=>absurd h (Nat.not_lt_zero _))))⟩,trivial⟩⟩⟩
 ·rw [e1] at hm ⊢
  (conv=>whnf)
  refine aH hm fun h33 hm=>?_
  (conv=>whnf)
  refine aH hm fun h34 hm=>?_
  (conv=>whnf)
  exact ⟨((g1.1 - (1:Int)),v16.2.L,v16.2.At,(g1.2.2.2++([(⟨v12.1,([(3300:Int),(5000:Int)]:List Int),g4,v14.1,(v15.1==(7:Int))⟩:aj)]:List aj))),[(1,some 123)],[],hm,⟨rfl,⟨r4,⟨rfl,rfl,rfl,oz,nofun⟩,r2,trivial⟩,⟨⟨sf,r2,trivial⟩,⟨rfl,oz,(le_appG rfl (fun _ _=>.refl _) rfl (zn (Le.UN ⟨(.refl _),(.sl rfl (fun _=>rfl) nofun (le_litG iV 0 [(3300:Int),(5000:Int)])),(.refl _),(.refl _),(.refl _),trivial⟩) (fun _ h=>absurd h (Nat.not_lt_zero _))))⟩,trivial⟩⟩⟩
 ·rw [e1] at hm ⊢
  (conv=>whnf)
  refine aH hm fun h35 hm=>?_
  (conv=>whnf)
  refine aH hm fun h36 hm=>?_
  (conv=>whnf)
  exact ⟨((g1.1 - (1:Int)),v16.2.L,v16.2.At,(g1.2.2.2++([(⟨v12.1,([(900:Int)]:List Int),g4,v14.1,(v15.1==(7:Int))⟩:aj)]:List aj))),[(1,some 123)],[],hm,⟨rfl,⟨r4,⟨rfl,rfl,rfl,oz,nofun⟩,r2,trivial⟩,⟨⟨sf,r2,trivial⟩,⟨rfl,oz,(le_appG rfl (fun _ _=>.refl _) rfl (zn (Le.UN ⟨(.refl _),(.sl rfl (fun _=>rfl) nofun (le_litG iV 0 [(900:Int)])),(.refl _),(.refl _),(.refl _),trivial⟩) (fun _ h=>absurd h (Nat.not_lt_zero _))))⟩,trivial⟩⟩⟩) fun _ hm=>by cases hm;exact rt [1] []
theorem ko  {r:(List ByteArray)} (hm:ku r):S 118 [] [] (fP r) [] :=sp Tryz.func118 rfl<|by cases hm;exact rt [8] []
theorem Cz {o0_:aZ} {r:(bB×aZ)} (hm:mI o0_ r):S 65 [.ptr 0 0 0] [.box [aC o0_.L,iV o0_.At]] (lu r.1) [.box [aC r.2.L,iV r.2.At]] :=TJ [13,17] Tryz.func65 rfl<|sb hm fun v1 hv1 hm=>cl (eX hv1)<|sb hm fun v2 hv2 hm=>cl (aO hv2)<|Lx [13,17] hm (fun g1=>⟨[(0,.ptr 0 0 0),(2,.ptr 1 0 0),(3,.ptr 2 0 0),(4,iV g1.1)],[(0,some (.box [aC g1.2.1,iV g1.2.2.1])),(1,some (.box [iV (0:Int),.sl 0 0 true dB])),(2,some (.box [iV v1.1,.bP 3 0 g1.2.2.2.length false])),(3,some (.row 3 g1.2.2.2.length (aX jX aF g1.2.2.2)))],4⟩) [(2,some 33),(3,none)] [] <|fun self1 g1 hm=>si hm (fun _ hm=>sn hm fun _ hm=>by
 refine ⟨(YI (es:=[.int .u8 (IntKind.u8.wrap ((97:Int)+(g1.2.2.2.length:Int)))]) rfl),?_⟩
 (conv=>whnf)
 refine aH hm fun h74 hm=>?_
 (conv=>whnf)
 refine dH hm fun v35 hv35 hm=>?_
 refine ⟨_,_,(aO hv35),?_⟩
 (conv=>whnf)
 refine zm (ct:=[13,17]) fE dk hm (fun g12=>⟨[(0,.ptr 0 0 0),(2,.ptr 1 0 0),(3,.ptr 2 0 0),(4,iV g1.1),(5,.ptr 3 0 0),(6,iV v35.1),(7,iV g12.1)],[(0,some (.box [aC g12.2.1,iV g12.2.2.1])),(1,some (.box [iV (0:Int),.sl 0 0 true dB])),(2,some (.box [iV v1.1,.bP 4 0 g1.2.2.2.length false])),(3,some (.box [.str (({ data:=#[103] }:ByteArray)++(strOf ([(IntKind.u8.wrap ((97:Int)+(g1.2.2.2.length:Int)))]:List Int))),.bP 5 0 g12.2.2.2.length false,.sl 0 0 true dB])),(4,some (.row 3 g1.2.2.2.length (aX jX aF g1.2.2.2))),(5,some (.row 1 g12.2.2.2.length (aX iV 0 g12.2.2.2)))],6⟩) [(3,some 92),(4,some 3),(5,none)] [] ⟨rfl,⟨r4,r4,r4,r2,r4,r2,r2,trivial⟩,⟨⟨sf,r2,trivial⟩,⟨r2,sr,trivial⟩,⟨r2,⟨rfl,rfl,rfl,rfl,nofun⟩,trivial⟩,⟨rfl,⟨rfl,rfl,rfl,rfl,rfl,rfl⟩,sr,trivial⟩,⟨rfl,rfl,(fun _ _=>.refl _)⟩,rfl,trivial⟩⟩ ?_
 intro self12 g12 hm
 (conv=>whnf)
 refine dG hm (fun c36 hm=>?_) (fun c36 hm=>?_)
 ·(conv=>whnf)
  refine dH hm fun v38 hv38 hm=>?_
  refine ⟨_,_,(eX hv38),?_⟩
  (conv=>whnf)
  refine aH hm fun h83 hm=>?_
  (conv=>whnf)
  refine dG hm (fun c37 hm=>?_) (fun c37 hm=>?_)
  ·(conv=>whnf)
   refine aH hm fun h84 hm=>?_
   (conv=>whnf)
   refine aH hm fun h85 hm=>?_
   (conv=>whnf)
   exact ⟨((g12.1+(1:Int)),v38.2.L,v38.2.At,(g12.2.2.2++([g12.1]:List Int))),[(5,some 134)],[],hm,⟨rfl,⟨r4,r4,r4,r2,r4,r2,r2,trivial⟩,⟨⟨sf,r2,trivial⟩,⟨r2,sr,trivial⟩,⟨r2,⟨rfl,rfl,rfl,rfl,nofun⟩,trivial⟩,⟨rfl,⟨rfl,rfl,rfl,oz,nofun⟩,sr,trivial⟩,⟨rfl,rfl,(fun _ _=>.refl _)⟩,⟨rfl,oz,(le_appG rfl (fun _ _=>.refl _) rfl (le_litG iV 0 [g12.1]))⟩,trivial⟩⟩⟩
  ·(conv=>whnf)
   refine Nb (ct:=[13,17]) fE dk dk (iH g1 self1 v38) r (fun g13=>⟨[(0,.ptr 0 0 0),(2,.ptr 1 0 0),(3,.ptr 2 0 0),(4,iV g1.1),(5,.ptr 3 0 0),(40,iV v38.1)],[(0,some (.box [aC v38.2.L,iV v38.2.At])),(1,some (.box [iV (0:Int),.sl 0 0 true dB])),(2,some (.box [iV v1.1,.bP 4 0 g1.2.2.2.length false])),(3,some (.box [.str (({ data:=#[103] }:ByteArray)++(strOf ([(IntKind.u8.wrap ((97:Int)+(g1.2.2.2.length:Int)))]:List Int))),.bP 5 0 g13.length false,.sl 0 0 true dB])),(4,some (.row 3 g1.2.2.2.length (aX jX aF g1.2.2.2))),(5,some (.row 1 g13.length (aX iV 0 g13)))],6⟩) ?_ (fun g13 hm=>?_)
   ·(conv=>whnf)
    refine dG hm (fun c41 hm=>?_) (fun c41 hm=>?_)
    ·(conv=>whnf)
     exact ⟨([v35.1]:List Int),[(5,some 142)],[],hm,⟨rfl,⟨r4,r4,r4,r2,r4,r2,trivial⟩,⟨⟨sr,r2,trivial⟩,⟨r2,sr,trivial⟩,⟨r2,⟨rfl,rfl,rfl,rfl,nofun⟩,trivial⟩,⟨rfl,⟨rfl,rfl,rfl,rfl,nofun⟩,sr,trivial⟩,⟨rfl,rfl,(fun _ _=>.refl _)⟩,⟨rfl,rfl,(le_litG iV 0 [v35.1])⟩,trivial⟩⟩⟩
    ·(conv=>whnf)
     exact ⟨g12.2.2.2,[],[],hm,⟨rfl,⟨r4,r4,r4,r2,r4,r2,trivial⟩,⟨⟨sr,r2,trivial⟩,⟨r2,sr,trivial⟩,⟨r2,⟨rfl,rfl,rfl,rfl,nofun⟩,trivial⟩,⟨rfl,⟨rfl,rfl,rfl,rfl,nofun⟩,sr,trivial⟩,⟨rfl,rfl,(fun _ _=>.refl _)⟩,⟨rfl,rfl,(fun _ _=>.refl _)⟩,trivial⟩⟩⟩
   ·(conv=>whnf)
    refine dH hm fun v39 hv39 hm=>?_
    refine ⟨_,_,(aO hv39),?_⟩
    (conv=>whnf)
    refine dH hm fun v40 hv40 hm=>?_
    refine ⟨_,_,(ko hv40),?_⟩
    (conv=>whnf)
    refine aH hm fun h86 hm=>?_
    (conv=>whnf)
    refine Nb (ct:=[13,17]) fE dk dk (eU g1 self1 g13) r (fun g14=>⟨[(0,.ptr 0 0 0),(2,.ptr 1 0 0),(3,.ptr 2 0 0),(4,iV g1.1),(5,.ptr 3 0 0),(40,iV v38.1)],[(0,some (.box [aC g14.1,iV g14.2.1])),(1,some (.box [iV (0:Int),.sl 0 0 true dB])),(2,some (.box [iV v1.1,.bP 4 0 g1.2.2.2.length false])),(3,some (.box [.str (({ data:=#[103] }:ByteArray)++(strOf ([(IntKind.u8.wrap ((97:Int)+(g1.2.2.2.length:Int)))]:List Int))),.bP 5 0 g13.length false,.bP 6 0 g14.2.2.length false])),(4,some (.row 3 g1.2.2.2.length (aX jX aF g1.2.2.2))),(5,some (.row 1 g13.length (aX iV 0 g13))),(6,some (.row 1 g14.2.2.length (aX AV.str ByteArray.empty g14.2.2)))],7⟩) ?_ (fun g14 hm=>?_)
    ·(conv=>whnf)
     refine dH hm fun v43 hv43 hm=>?_
     refine ⟨_,_,(aO hv43),?_⟩
     (conv=>whnf)
     refine dG hm (fun c40 hm=>?_) (fun c40 hm=>?_)
     ·(conv=>whnf)
      refine dH hm fun v44 hv44 hm=>?_
      refine ⟨_,_,(ko hv44),?_⟩
      (conv=>whnf)
      refine aH hm fun h93 hm=>?_
      (conv=>whnf)
      refine aH hm fun h94 hm=>?_
      (conv=>whnf)
      refine aH hm fun h95 hm=>?_
      (conv=>whnf)
      refine aH hm fun h96 hm=>?_
      (conv=>whnf)
      exact ⟨(v43.2.L,v43.2.At,(([(v40.getD v39.1.toNat ByteArray.empty)]:List ByteArray)++([(v44.getD (((v39.1+(1:Int)).tmod (4:Int)).toNat) ByteArray.empty)]:List ByteArray))),[(6,some 182)],[],hm,⟨rfl,⟨r4,r4,r4,r2,r4,r2,trivial⟩,⟨⟨sf,r2,trivial⟩,⟨r2,sr,trivial⟩,⟨r2,⟨rfl,rfl,rfl,rfl,nofun⟩,trivial⟩,⟨rfl,⟨rfl,rfl,rfl,rfl,nofun⟩,⟨rfl,rfl,rfl,oz,nofun⟩,trivial⟩,⟨rfl,rfl,(fun _ _=>.refl _)⟩,⟨rfl,rfl,(fun _ _=>.refl _)⟩,⟨rfl,oz,(le_appG rfl (le_litG AV.str ByteArray.empty [(v40.getD v39.1.toNat ByteArray.empty)]) rfl (le_litG AV.str ByteArray.empty [(v44.getD (((v39.1+(1:Int)).tmod (4:Int)).toNat) ByteArray.empty)]))⟩,trivial⟩⟩⟩
     ·(conv=>whnf)
      exact ⟨(v43.2.L,v43.2.At,([(v40.getD v39.1.toNat ByteArray.empty)]:List ByteArray)),[(6,some 62)],[],hm,⟨rfl,⟨r4,r4,r4,r2,r4,r2,trivial⟩,⟨⟨sf,r2,trivial⟩,⟨r2,sr,trivial⟩,⟨r2,⟨rfl,rfl,rfl,rfl,nofun⟩,trivial⟩,⟨rfl,⟨rfl,rfl,rfl,rfl,nofun⟩,⟨rfl,rfl,rfl,rfl,nofun⟩,trivial⟩,⟨rfl,rfl,(fun _ _=>.refl _)⟩,⟨rfl,rfl,(fun _ _=>.refl _)⟩,⟨rfl,rfl,(le_litG AV.str ByteArray.empty [(v40.getD v39.1.toNat ByteArray.empty)])⟩,trivial⟩⟩⟩
    ·(conv=>whnf)
     refine aH hm fun h91 hm=>?_
     (conv=>whnf)
     refine aH hm fun h92 hm=>?_
     (conv=>whnf)
     exact ⟨((g1.1 - (1:Int)),g14.1,g14.2.1,(g1.2.2.2++([(⟨(({ data:=#[103] }:ByteArray)++(strOf ([(IntKind.u8.wrap ((97:Int)+(g1.2.2.2.length:Int)))]:List Int))),g13,g14.2.2⟩:aY)]:List aY))),[(3,some 39)],[],hm,⟨rfl,⟨r4,r4,r4,r2,trivial⟩,⟨⟨sf,r2,trivial⟩,⟨r2,sr,trivial⟩,⟨r2,⟨rfl,rfl,rfl,oz,nofun⟩,trivial⟩,⟨rfl,oz,(le_appG rfl (fun _ _=>.refl _) rfl (le_litG jX aF [(⟨(({ data:=#[103] }:ByteArray)++(strOf ([(IntKind.u8.wrap ((97:Int)+(g1.2.2.2.length:Int)))]:List Int))),g13,g14.2.2⟩:aY)]))⟩,trivial⟩⟩⟩
 ·(conv=>whnf)
  refine ⟨(fun q0=>absurd q0 (YK c36)),?_⟩
  (conv=>whnf)
  refine ⟨(fun q0=>absurd q0 (YK c36)),?_⟩
  (conv=>whnf)
  refine aH hm fun h97 hm=>?_
  (conv=>whnf)
  refine Nb (ct:=[13,17]) fE dk dk (gN g1 self1 g12) r (fun g15=>⟨[(0,.ptr 0 0 0),(2,.ptr 1 0 0),(3,.ptr 2 0 0),(4,iV g1.1),(5,.ptr 3 0 0)],[(0,some (.box [aC g12.2.1,iV g12.2.2.1])),(1,some (.box [iV (0:Int),.sl 0 0 true dB])),(2,some (.box [iV v1.1,.bP 4 0 g1.2.2.2.length false])),(3,some (.box [.str (({ data:=#[103] }:ByteArray)++(strOf ([(IntKind.u8.wrap ((97:Int)+(g1.2.2.2.length:Int)))]:List Int))),.bP 5 0 g15.length false,.sl 0 0 true dB])),(4,some (.row 3 g1.2.2.2.length (aX jX aF g1.2.2.2))),(5,some (.row 1 g15.length (aX iV 0 g15)))],6⟩) ?_ (fun g15 hm=>?_)
  ·(conv=>whnf)
   refine dG hm (fun c45 hm=>?_) (fun c45 hm=>?_)
   ·(conv=>whnf)
    exact ⟨([v35.1]:List Int),[(5,some 142)],[],hm,⟨rfl,⟨r4,r4,r4,r2,r4,trivial⟩,⟨⟨sr,r2,trivial⟩,⟨r2,sr,trivial⟩,⟨r2,⟨rfl,rfl,rfl,rfl,nofun⟩,trivial⟩,⟨rfl,⟨rfl,rfl,rfl,rfl,nofun⟩,sr,trivial⟩,⟨rfl,rfl,(fun _ _=>.refl _)⟩,⟨rfl,rfl,(le_litG iV 0 [v35.1])⟩,trivial⟩⟩⟩
   ·(conv=>whnf)
    exact ⟨g12.2.2.2,[],[],hm,⟨rfl,⟨r4,r4,r4,r2,r4,trivial⟩,⟨⟨sr,r2,trivial⟩,⟨r2,sr,trivial⟩,⟨r2,⟨rfl,rfl,rfl,rfl,nofun⟩,trivial⟩,⟨rfl,⟨rfl,rfl,rfl,rfl,nofun⟩,sr,trivial⟩,⟨rfl,rfl,(fun _ _=>.refl _)⟩,⟨rfl,rfl,(fun _ _=>.refl _)⟩,trivial⟩⟩⟩
  ·(conv=>whnf)
   refine dH hm fun v45 hv45 hm=>?_
   refine ⟨_,_,(aO hv45),?_⟩
   (conv=>whnf)
   refine dH hm fun v46 hv46 hm=>?_
   refine ⟨_,_,(ko hv46),?_⟩
   (conv=>whnf)
   refine aH hm fun h98 hm=>?_
   (conv=>whnf)
   refine Nb (ct:=[13,17]) fE dk dk (dX g1 self1 g15) r (fun g16=>⟨[(0,.ptr 0 0 0),(2,.ptr 1 0 0),(3,.ptr 2 0 0),(4,iV g1.1),(5,.ptr 3 0 0)],[(0,some (.box [aC g16.1,iV g16.2.1])),(1,some (.box [iV (0:Int),.sl 0 0 true dB])),(2,some (.box [iV v1.1,.bP 4 0 g1.2.2.2.length false])),(3,some (.box [.str (({ data:=#[103] }:ByteArray)++(strOf ([(IntKind.u8.wrap ((97:Int)+(g1.2.2.2.length:Int)))]:List Int))),.bP 5 0 g15.length false,.bP 6 0 g16.2.2.length false])),(4,some (.row 3 g1.2.2.2.length (aX jX aF g1.2.2.2))),(5,some (.row 1 g15.length (aX iV 0 g15))),(6,some (.row 1 g16.2.2.length (aX AV.str ByteArray.empty g16.2.2)))],7⟩) ?_ (fun g16 hm=>?_)
   ·(conv=>whnf)
    refine dH hm fun v49 hv49 hm=>?_
    refine ⟨_,_,(aO hv49),?_⟩
    (conv=>whnf)
    refine dG hm (fun c44 hm=>?_) (fun c44 hm=>?_)
    ·(conv=>whnf)
     refine dH hm fun v50 hv50 hm=>?_
     refine ⟨_,_,(ko hv50),?_⟩
     (conv=>whnf)
     refine aH hm fun h105 hm=>?_
     (conv=>whnf)
     refine aH hm fun h106 hm=>?_
     (conv=>whnf)
     refine aH hm fun h107 hm=>?_
     (conv=>whnf)
     refine aH hm fun h108 hm=>?_
     (conv=>whnf)
     exact ⟨(v49.2.L,v49.2.At,(([(v46.getD v45.1.toNat ByteArray.empty)]:List ByteArray)++([(v50.getD (((v45.1+(1:Int)).tmod (4:Int)).toNat) ByteArray.empty)]:List ByteArray))),[(6,some 182)],[],hm,⟨rfl,⟨r4,r4,r4,r2,r4,trivial⟩,⟨⟨sf,r2,trivial⟩,⟨r2,sr,trivial⟩,⟨r2,⟨rfl,rfl,rfl,rfl,nofun⟩,trivial⟩,⟨rfl,⟨rfl,rfl,rfl,rfl,nofun⟩,⟨rfl,rfl,rfl,oz,nofun⟩,trivial⟩,⟨rfl,rfl,(fun _ _=>.refl _)⟩,⟨rfl,rfl,(fun _ _=>.refl _)⟩,⟨rfl,oz,(le_appG rfl (le_litG AV.str ByteArray.empty [(v46.getD v45.1.toNat ByteArray.empty)]) rfl (le_litG AV.str ByteArray.empty [(v50.getD (((v45.1+(1:Int)).tmod (4:Int)).toNat) ByteArray.empty)]))⟩,trivial⟩⟩⟩
    ·(conv=>whnf)
     exact ⟨(v49.2.L,v49.2.At,([(v46.getD v45.1.toNat ByteArray.empty)]:List ByteArray)),[(6,some 62)],[],hm,⟨rfl,⟨r4,r4,r4,r2,r4,trivial⟩,⟨⟨sf,r2,trivial⟩,⟨r2,sr,trivial⟩,⟨r2,⟨rfl,rfl,rfl,rfl,nofun⟩,trivial⟩,⟨rfl,⟨rfl,rfl,rfl,rfl,nofun⟩,⟨rfl,rfl,rfl,rfl,nofun⟩,trivial⟩,⟨rfl,rfl,(fun _ _=>.refl _)⟩,⟨rfl,rfl,(fun _ _=>.refl _)⟩,⟨rfl,rfl,(le_litG AV.str ByteArray.empty [(v46.getD v45.1.toNat ByteArray.empty)])⟩,trivial⟩⟩⟩
   ·(conv=>whnf)
    refine aH hm fun h103 hm=>?_
    (conv=>whnf)
    refine aH hm fun h104 hm=>?_
    (conv=>whnf)
    exact ⟨((g1.1 - (1:Int)),g16.1,g16.2.1,(g1.2.2.2++([(⟨(({ data:=#[103] }:ByteArray)++(strOf ([(IntKind.u8.wrap ((97:Int)+(g1.2.2.2.length:Int)))]:List Int))),g15,g16.2.2⟩:aY)]:List aY))),[(3,some 39)],[],hm,⟨rfl,⟨r4,r4,r4,r2,trivial⟩,⟨⟨sf,r2,trivial⟩,⟨r2,sr,trivial⟩,⟨r2,⟨rfl,rfl,rfl,oz,nofun⟩,trivial⟩,⟨rfl,oz,(le_appG rfl (fun _ _=>.refl _) rfl (le_litG jX aF [(⟨(({ data:=#[103] }:ByteArray)++(strOf ([(IntKind.u8.wrap ((97:Int)+(g1.2.2.2.length:Int)))]:List Int))),g15,g16.2.2⟩:aY)]))⟩,trivial⟩⟩⟩) fun _ hm=>by cases hm;exact rt [3] []
end Go.Proofs.YtfblhejmclcdmaaGreatDoor


namespace Go.Proofs.YtfblhejmclcdmaaGreatDoor
open Go.Ab
set_option maxRecDepth 100000
set_option maxHeartbeats 40000000
theorem nk {n_:Int} {k_:Int} {o0_:aZ} {r:((List Int)×aZ)} (hm:j4 n_ k_ o0_ r):S 71 [.ptr 0 0 0,iV n_,iV k_] [.box [aC o0_.L,iV o0_.At]] (aC r.1) [.box [aC r.2.L,iV r.2.At]] :=sp Tryz.func71 rfl<|lf hm (fun g1=>⟨[(0,.ptr 0 0 0),(1,iV n_),(2,iV k_),(7,.bP 1 0 g1.2.2.2.length false),(8,iV g1.1)],[(0,some (.box [aC g1.2.1,iV g1.2.2.1])),(1,some (.row 1 g1.2.2.2.length (aX iV 0 g1.2.2.2)))],2⟩) [(1,none)] [] <|fun self1 g1 hm=>si hm (fun _ hm=>sb hm fun v3 hv3 hm=>cl (aO hv3)<|sn hm fun _ hm=>si hm (fun _ hm=>sn hm fun _ hm=>sn hm fun _ hm=>lc [(1,some 98)] [] hm) fun _ hm=>sn hm fun _ hm=>le hm) fun _ hm=>by cases hm;exact rt [1] []
theorem CB {most_:Int} {o0_:aZ} {r:((List cu)×aZ)} (hm:mJ most_ o0_ r):S 66 [.ptr 0 0 0,iV most_] [.box [aC o0_.L,iV o0_.At]] (bO r.1) [.box [aC r.2.L,iV r.2.At]] :=sp Tryz.func66 rfl<|sn hm fun _ hm=>sb hm fun v1 hv1 hm=>cl (aO hv1)<|lf hm (fun g1=>⟨[(0,.ptr 0 0 0),(5,.bP 1 0 g1.2.2.2.length false),(6,iV g1.1)],[(0,some (.box [aC g1.2.1,iV g1.2.2.1])),(1,some (.row 1 g1.2.2.2.length (aX YM dReset g1.2.2.2)))],2⟩) [(1,none)] [] <|fun self1 g1 hm=>si hm (fun _ hm=>sb hm fun v4 hv4 hm=>cl (nk hv4)<|sn hm fun _ hm=>sn hm fun _ hm=>lc [(1,some 74)] [] hm) fun _ hm=>by cases hm;exact rt [1] []
theorem A8 {most_:Int} {o0_:aZ} {r:((List bM)×aZ)} (hm:lF most_ o0_ r):S 67 [.ptr 0 0 0,iV most_] [.box [aC o0_.L,iV o0_.At]] (bG r.1) [.box [aC r.2.L,iV r.2.At]] :=sp Tryz.func67 rfl<|sn hm fun _ hm=>sb hm fun v1 hv1 hm=>cl (aO hv1)<|lf hm (fun g1=>⟨[(0,.ptr 0 0 0),(5,.bP 1 0 g1.2.2.2.length false),(6,iV g1.1)],[(0,some (.box [aC g1.2.1,iV g1.2.2.1])),(1,some (.row 2 g1.2.2.2.length (aX Wi fH g1.2.2.2)))],2⟩) [(1,none)] [] <|fun self1 g1 hm=>si hm (fun _ hm=>sn hm fun _ hm=>sb hm fun v6 hv6 hm=>cl (eX hv6)<|sb hm fun v7 hv7 hm=>cl (aO hv7)<|sn hm fun _ hm=>sn hm fun _ hm=>lc [(1,some 106)] [] hm) fun _ hm=>by cases hm;exact rt [1] []
theorem EA {o0_:aZ} {r:(bQ×aZ)} (hm:nQ o0_ r):S 25 [.ptr 0 0 0] [.box [aC o0_.L,iV o0_.At]] (vX r.1) [.box [aC r.2.L,iV r.2.At]] :=sp Tryz.func25 rfl<|sb hm fun v1 hv1 hm=>cl (Cy hv1)<|sb hm fun v2 hv2 hm=>cl (zX hv2)<|sb hm fun v3 hv3 hm=>cl (Cz hv3)<|sb hm fun v4 hv4 hm=>cl (CB hv4)<|sb hm fun v5 hv5 hm=>cl (A8 hv5)<|by cases hm;exact re
theorem EB {b_:bQ} {o0_:aZ} {r:(bC×aZ)} (hm:nR b_ o0_ r):S 68 [.ptr 0 0 0,vX b_] [.box [aC o0_.L,iV o0_.At]] (tC r.1) [.box [aC r.2.L,iV r.2.At]] :=sp Tryz.func68 rfl<|sb hm fun v1 hv1 hm=>cl (aO hv1)<|sb hm fun v2 hv2 hm=>cl ((dz hv2).le ⟨.refl _,(.sl rfl (fun _=>rfl) nofun (le_litG iV 0 [(0:Int),(0:Int),(6:Int),(12:Int),(24:Int)])),trivial⟩ ⟨kT _,trivial⟩)<|sb hm fun v3 hv3 hm=>cl ((dz hv3).le ⟨.refl _,(.sl rfl (fun _=>rfl) nofun (le_litG iV 0 [(24:Int),(48:Int),(100:Int),(300:Int)])),trivial⟩ ⟨kT _,trivial⟩)<|by cases hm;exact re
theorem FL {b_:bQ} {o0_:aZ} {r:(aM×aZ)} (hm:pI b_ o0_ r):S 69 [.ptr 0 0 0,vX b_] [.box [aC o0_.L,iV o0_.At]] (Bg r.1) [.box [aC r.2.L,iV r.2.At]] :=sp Tryz.func69 rfl<|sb hm fun v1 hv1 hm=>cl (aO hv1)<|sb hm fun v2 hv2 hm=>cl ((dz hv2).le ⟨.refl _,(.sl rfl (fun _=>rfl) nofun (le_litG iV 0 [(0:Int),(900:Int),(1000:Int),(1800:Int)])),trivial⟩ ⟨kT _,trivial⟩)<|sb hm fun v3 hv3 hm=>cl ((dz hv3).le ⟨.refl _,(.sl rfl (fun _=>rfl) nofun (le_litG iV 0 [(1800:Int),(3300:Int),(5000:Int)])),trivial⟩ ⟨kT _,trivial⟩)<|sb hm fun v4 hv4 hm=>cl ((dz hv4).le ⟨.refl _,(.sl rfl (fun _=>rfl) nofun (le_litG iV 0 [(0:Int),(10:Int),(50:Int),(200:Int)])),trivial⟩ ⟨kT _,trivial⟩)<|by cases hm;exact re
theorem FM {l_:(List ByteArray)} {o0_:aZ} {r:(ByteArray×aZ)} (hm:pJ l_ o0_ r):S 50 [.ptr 0 0 0,fP l_] [.box [aC o0_.L,iV o0_.At]] (.str r.1) [.box [aC r.2.L,iV r.2.At]] :=sp Tryz.func50 rfl<|sb hm fun v1 hv1 hm=>cl (aO hv1)<|sn hm fun _ hm=>by cases hm;exact re
theorem A9 {most_:Int} {o0_:aZ} {r:((List ByteArray)×aZ)} (hm:lG most_ o0_ r):S 70 [.ptr 0 0 0,iV most_] [.box [aC o0_.L,iV o0_.At]] (fP r.1) [.box [aC r.2.L,iV r.2.At]] :=sp Tryz.func70 rfl<|sn hm fun _ hm=>sb hm fun v1 hv1 hm=>cl (aO hv1)<|lf hm (fun g1=>⟨[(0,.ptr 0 0 0),(5,.bP 1 0 g1.2.2.2.length false),(6,iV g1.1)],[(0,some (.box [aC g1.2.1,iV g1.2.2.1])),(1,some (.row 1 g1.2.2.2.length (aX AV.str ByteArray.empty g1.2.2.2)))],2⟩) [(1,none)] [] <|fun self1 g1 hm=>si hm (fun _ hm=>sb hm fun v6 hv6 hm=>cl (ko hv6)<|sb hm fun v7 hv7 hm=>cl (FM hv7)<|sn hm fun _ hm=>sn hm fun _ hm=>lc [(1,some 58)] [] hm) fun _ hm=>by cases hm;exact rt [1] []
theorem Ba {b_:bQ} {most_:Int} {o0_:aZ} {r:((List aV)×aZ)} (hm:lH b_ most_ o0_ r):S 26 [.ptr 0 0 0,vX b_,iV most_] [.box [aC o0_.L,iV o0_.At]] (eu r.1) [.box [aC r.2.L,iV r.2.At]] :=TJ [9,11,13,18,19] Tryz.func26 rfl<|sn hm fun _ hm=>sb hm fun v1 hv1 hm=>cl (aO hv1)<|Lx [9,11,13,18,19] hm (fun g1=>⟨[(0,.ptr 0 0 0),(4,.ptr 1 0 0),(7,.bP 2 0 g1.2.2.2.length false),(8,iV v1.1),(9,iV g1.1)],[(0,some (.box [aC g1.2.1,iV g1.2.2.1])),(1,some (.box [aN b_.bY,aJ b_.bH,iV b_.bE.bT,aT b_.bE.Groups,bO b_.Resets,bG b_.cK])),(2,some (.row 6 g1.2.2.2.length (aX Dj bJ g1.2.2.2)))],3⟩) [(2,none)] [] <|fun self1 g1 hm=>si hm (fun _ hm=>sn hm fun _ hm=>sb hm fun v46 hv46 hm=>cl (eX hv46)<|ck [9,11,13,18,19] (gB b_ v1 g1 self1 v46) r (fun g14=>⟨[(0,.ptr 0 0 0),(4,.ptr 1 0 0),(7,.bP 2 0 g1.2.2.2.length false),(8,iV v1.1),(9,iV g1.1),(10,.ptr 3 0 0)],[(0,some (.box [aC g14.1,iV g14.2.1])),(1,some (.box [aN b_.bY,aJ b_.bH,iV b_.bE.bT,aT b_.bE.Groups,bO b_.Resets,bG b_.cK])),(2,some (.row 6 g1.2.2.2.length (aX Dj bJ g1.2.2.2))),(3,some (.box [.bP 4 0 g14.2.2.length false,.sl 0 0 true dB,.sl 0 0 true dB,.sl 0 0 true dB,iV v46.1,.sl 0 0 true dB])),(4,some (.row 3 g14.2.2.length (aX tC cB g14.2.2)))],5⟩) (si hm (fun _ hm=>sb hm fun v66 hv66 hm=>cl (aO hv66)<|si hm (fun _ hm=>sb hm fun v67 hv67 hm=>cl (EB hv67)<|sn hm fun _ hm=>lc [(3,some 83),(4,some 219)] [] hm) fun _ hm=>lc [(3,some 83),(4,none)] [] hm) fun c50 hm=>by
 refine ⟨(fun q0=>absurd q0 (YK c50)),?_⟩
 (conv=>whnf)
 refine aH hm fun h34 hm=>?_
 (conv=>whnf)
 exact ⟨(v46.2.L,v46.2.At,([]:List bC)),[(3,some 83),(4,none)],[],hm,⟨rfl,⟨r4,r4,⟨rfl,rfl,rfl,rfl,nofun⟩,r2,r2,r4,trivial⟩,⟨⟨sf,r2,trivial⟩,⟨sr,sr,r2,sr,sr,sr,trivial⟩,⟨rfl,rfl,(fun _ _=>.refl _)⟩,⟨⟨rfl,rfl,rfl,rfl,rfl,rfl⟩,sr,sr,sr,r2,sr,trivial⟩,rfl,trivial⟩⟩⟩) fun g14 hm=>ck [9,11,13,18,19] (fK b_ v1 g1 self1 v46 g14) r (fun g15=>⟨[(0,.ptr 0 0 0),(4,.ptr 1 0 0),(7,.bP 2 0 g1.2.2.2.length false),(8,iV v1.1),(9,iV g1.1),(10,.ptr 3 0 0)],[(0,some (.box [aC g15.1,iV g15.2.1])),(1,some (.box [aN b_.bY,aJ b_.bH,iV b_.bE.bT,aT b_.bE.Groups,bO b_.Resets,bG b_.cK])),(2,some (.row 6 g1.2.2.2.length (aX Dj bJ g1.2.2.2))),(3,some (.box [.bP 4 0 g14.2.2.length false,.bP 5 0 g15.2.2.length false,.sl 0 0 true dB,.sl 0 0 true dB,iV v46.1,.sl 0 0 true dB])),(4,some (.row 3 g14.2.2.length (aX tC cB g14.2.2))),(5,some (.row 4 g15.2.2.length (aX Bg bL g15.2.2)))],6⟩) (si hm (fun _ hm=>sb hm fun v64 hv64 hm=>cl (aO hv64)<|si hm (fun _ hm=>sb hm fun v65 hv65 hm=>cl (FL hv65)<|sn hm fun _ hm=>lc [(5,some 125)] [] hm) fun _ hm=>lc [(5,none)] [] hm) fun c48 hm=>by
 refine ⟨(fun q0=>absurd q0 (YK c48)),?_⟩
 (conv=>whnf)
 refine aH hm fun h32 hm=>?_
 (conv=>whnf)
 exact ⟨(g14.1,g14.2.1,([]:List aM)),[(5,none)],[],hm,⟨rfl,⟨r4,r4,⟨rfl,rfl,rfl,rfl,nofun⟩,r2,r2,r4,trivial⟩,⟨⟨sf,r2,trivial⟩,⟨sr,sr,r2,sr,sr,sr,trivial⟩,⟨rfl,rfl,(fun _ _=>.refl _)⟩,⟨⟨rfl,rfl,rfl,rfl,nofun⟩,⟨rfl,rfl,rfl,rfl,rfl,rfl⟩,sr,sr,r2,sr,trivial⟩,⟨rfl,rfl,(fun _ _=>.refl _)⟩,rfl,trivial⟩⟩⟩) fun g15 hm=>ck [9,11,13,18,19] (iy b_ v1 g1 self1 v46 g14 g15) r (fun g16=>⟨[(0,.ptr 0 0 0),(4,.ptr 1 0 0),(7,.bP 2 0 g1.2.2.2.length false),(8,iV v1.1),(9,iV g1.1),(10,.ptr 3 0 0)],[(0,some (.box [aC g16.1,iV g16.2.1])),(1,some (.box [aN b_.bY,aJ b_.bH,iV b_.bE.bT,aT b_.bE.Groups,bO b_.Resets,bG b_.cK])),(2,some (.row 6 g1.2.2.2.length (aX Dj bJ g1.2.2.2))),(3,some (.box [.bP 4 0 g14.2.2.length false,.bP 5 0 g15.2.2.length false,fP g16.2.2,.sl 0 0 true dB,iV v46.1,.sl 0 0 true dB])),(4,some (.row 3 g14.2.2.length (aX tC cB g14.2.2))),(5,some (.row 4 g15.2.2.length (aX Bg bL g15.2.2)))],6⟩) (sb hm fun v62 hv62 hm=>cl (aO hv62)<|si hm (fun _ hm=>sb hm fun v63 hv63 hm=>cl (A9 hv63)<|le hm) fun _ hm=>le hm) fun g16 hm=>sb hm fun v53 hv53 hm=>cl (nk hv53)<|ck [9,11,13,18,19] (iq g1 self1 v46 g14 g15 g16 v53) r (fun g18=>⟨[(0,.ptr 0 0 0),(4,.ptr 1 0 0),(7,.bP 2 0 g1.2.2.2.length false),(8,iV v1.1),(9,iV g1.1),(10,.ptr 3 0 0)],[(0,some (.box [aC g18.1,iV g18.2.1])),(1,some (.box [aN b_.bY,aJ b_.bH,iV b_.bE.bT,aT b_.bE.Groups,bO b_.Resets,bG b_.cK])),(2,some (.row 6 g1.2.2.2.length (aX Dj bJ g1.2.2.2))),(3,some (.box [.bP 4 0 g14.2.2.length false,.bP 5 0 g15.2.2.length false,fP g16.2.2,aC v53.1,iV v46.1,aC g18.2.2])),(4,some (.row 3 g14.2.2.length (aX tC cB g14.2.2))),(5,some (.row 4 g15.2.2.length (aX Bg bL g15.2.2)))],6⟩) (sb hm fun v58 hv58 hm=>cl (aO hv58)<|si hm (fun _ hm=>ck [9,11,13,18,19] (iw g1 self1 v46 g14 g15 g16 v53) r (fun g19=>⟨[(0,.ptr 0 0 0),(4,.ptr 1 0 0),(7,.bP 2 0 g1.2.2.2.length false),(8,iV v1.1),(9,iV g1.1),(10,.ptr 3 0 0),(11,iV g19.1)],[(0,some (.box [aC g19.2.1,iV g19.2.2])),(1,some (.box [aN b_.bY,aJ b_.bH,iV b_.bE.bT,aT b_.bE.Groups,bO b_.Resets,bG b_.cK])),(2,some (.row 6 g1.2.2.2.length (aX Dj bJ g1.2.2.2))),(3,some (.box [.bP 4 0 g14.2.2.length false,.bP 5 0 g15.2.2.length false,fP g16.2.2,aC v53.1,iV v46.1,.sl 0 0 true dB])),(4,some (.row 3 g14.2.2.length (aX tC cB g14.2.2))),(5,some (.row 4 g15.2.2.length (aX Bg bL g15.2.2)))],6⟩) (sb hm fun v61 hv61 hm=>cl (aO hv61)<|si hm (fun _ hm=>le hm) fun _ hm=>le hm) fun g19 hm=>sb hm fun v60 hv60 hm=>cl (nk hv60)<|le hm) fun _ hm=>le hm) fun g18 hm=>sn hm fun _ hm=>sn hm fun _ hm=>lc [(2,some 30)] [] hm) fun _ hm=>si hm (fun _ hm=>sb hm fun v68 hv68 hm=>cl (aO hv68)<|si hm (fun _ hm=>sn hm fun _ hm=>Lx [9,11,13,18,19] hm (fun g20=>⟨[(7,.bP 1 0 g20.2.2.length false),(8,iV v1.1),(12,iV g20.1),(13,iV g20.2.1)],[(0,some (.box [aC v68.2.L,iV v68.2.At])),(1,some (.row 6 g20.2.2.length (aX Dj bJ g20.2.2)))],2⟩) [(1,some 2)] [] <|fun self20 g20 hm=>si hm (fun _ hm=>sn hm fun _ hm=>sn hm fun _ hm=>sn hm fun _ hm=>sn hm fun _ hm=>sn hm fun _ hm=>sn hm fun _ hm=>le hm) fun _ hm=>Lx [9,11,13,18,19] hm (fun g21=>⟨[(7,.bP 1 0 g21.2.length false),(8,iV v1.1),(126,iV (g20.2.2.length:Int)),(127,iV g21.1)],[(0,some (.box [aC v68.2.L,iV v68.2.At])),(1,some (.row 6 g21.2.length (aX Dj bJ g21.2)))],2⟩) [] [] <|fun self21 g21 hm=>si hm (fun _ hm=>sn hm fun _ hm=>sn hm fun _ hm=>Lx [9,11,13,18,19] hm (fun g24=>⟨[(7,.bP 1 0 g21.2.length false),(8,iV v1.1),(14,iV g21.1),(15,.bP 2 0 g24.2.length false),(16,iV g24.1),(126,iV (g20.2.2.length:Int)),(127,iV g21.1)],[(0,some (.box [aC v68.2.L,iV v68.2.At])),(1,some (.row 6 g21.2.length (aX Dj bJ g21.2))),(2,some (.row 1 g24.2.length (aX iV 0 g24.2)))],3⟩) [(2,none)] [] <|fun self24 g24 hm=>si hm (fun _ hm=>sn hm fun _ hm=>sn hm fun _ hm=>sn hm fun _ hm=>sn hm fun _ hm=>sn hm fun _ hm=>sn hm fun _ hm=>lc [(2,some 123)] [] hm) fun _ hm=>sn hm fun _ hm=>sn hm fun _ hm=>le hm) fun _ hm=>by cases hm;exact rt [1] []) fun _ hm=>by cases hm;exact rt [2] []) fun c52 hm=>by
 refine ⟨(fun q0=>absurd q0 (YK c52)),?_⟩
 (conv=>whnf)
 refine aH hm fun h120 hm=>?_
 (conv=>whnf)
 have hm:r=(g1.2.2.2,(⟨g1.2.1,g1.2.2.1⟩:aZ)):=hm
 subst hm
 refine ⟨[2],[],?_⟩
 (conv=>whnf)
 exact ⟨⟨rfl,trivial,⟨⟨sf,r2,trivial⟩,trivial⟩⟩,sf⟩
theorem Rj {l_:(List Int)} {x_:Int} {r:Bool} (hm:Ma l_ x_ r):S 159 [aC l_,iV x_] [] (.bool r) [] :=sp Tryz.func159 rfl<|l0 hm (fun g1=>⟨[(0,aC l_),(1,iV x_),(5,iV g1)],[],0⟩) <|fun self1 g1 hm=>si hm (fun _ hm=>sn hm fun _ hm=>si hm (fun _ hm=>by cases hm;exact re) fun _ hm=>sn hm fun _ hm=>le hm) fun _ hm=>by cases hm;exact re
theorem jI {l_:(List Int)} {lo_:Int} {hi_:Int} {r:Bool} (hm:iR l_ lo_ hi_ r):S 128 [aC l_,iV lo_,iV hi_] [] (.bool r) [] :=sp Tryz.func128 rfl<|l0 hm (fun g1=>⟨[(0,aC l_),(1,iV lo_),(2,iV hi_),(9,aC l_),(10,iV (l_.length:Int)),(11,iV g1)],[],0⟩) <|fun self1 g1 hm=>si hm (fun _ hm=>sn hm fun _ hm=>sn hm fun _ hm=>sb hm fun v3 hv3 hm=>cl (fun q0=>((Rj (hv3 q0)).le ⟨(.sl oz (fun _=>rfl) nofun (le_rtake (f:=iV) (d:=0) (by first | omega | (simp; omega)))),.refl _,trivial⟩ trivial))<|si hm (fun _ hm=>by cases hm;exact re) fun _ hm=>sn hm fun _ hm=>le hm) fun _ hm=>by cases hm;exact re
theorem EC {a_:(List Int)} {b_:(List Int)} {r:Bool} (hm:zA a_ b_ r):S 129 [aC a_,aC b_] [] (.bool r) [] :=sp Tryz.func129 rfl<|si hm (fun _ hm=>by cases hm;exact re) fun _ hm=>l0 hm (fun g1=>⟨[(0,aC a_),(1,aC b_),(5,iV g1)],[],0⟩) <|fun self1 g1 hm=>si hm (fun _ hm=>sn hm fun _ hm=>sn hm fun _ hm=>si hm (fun _ hm=>by cases hm;exact re) fun _ hm=>sn hm fun _ hm=>le hm) fun _ hm=>by cases hm;exact re
theorem Ho {c_:av} {r:Bool} (hm:rM c_ r):S 78 [Di c_] [] (.bool r) [] :=sp Tryz.func78 rfl<|si hm (fun _ hm=>sn hm fun _ hm=>sn hm fun _ hm=>by cases hm;exact re) fun _ hm=>si hm (fun _ hm=>si hm (fun _ hm=>sb hm fun v1 hv1 hm=>cl (fun q0=>(jI (hv1 q0)))<|by cases hm;exact re) fun _ hm=>si hm (fun _ hm=>sn hm fun _ hm=>sb hm fun v2 hv2 hm=>cl (fun q0=>(jI (hv2 q0)))<|by cases hm;exact re) fun _ hm=>si hm (fun _ hm=>si hm (fun _ hm=>sb hm fun v3 hv3 hm=>cl (fun q0=>((EC (hv3 q0)).le ⟨.refl _,(.sl rfl (fun _=>rfl) nofun (le_litG iV 0 [(0:Int),(1:Int)])),trivial⟩ trivial))<|by cases hm;exact re) fun c6 hm=>by
 refine ⟨.bool false,[],(fun q0=>absurd q0 (YK c6)),?_⟩
 (conv=>whnf)
 have hm:r=(((c_.Parents.length:Int)==(1:Int))&&false):=hm
 subst hm
 refine ⟨[],[],?_⟩
 (conv=>whnf)
 exact ⟨⟨rfl,trivial,trivial⟩,rfl⟩) fun _ hm=>by cases hm;exact re) fun _ hm=>si hm (fun _ hm=>sb hm fun v4 hv4 hm=>cl (fun q0=>(jI (hv4 q0)))<|by cases hm;exact re) fun _ hm=>si hm (fun _ hm=>sn hm fun _ hm=>sb hm fun v5 hv5 hm=>cl (fun q0=>(jI (hv5 q0)))<|by cases hm;exact re) fun _ hm=>si hm (fun _ hm=>si hm (fun _ hm=>sb hm fun v6 hv6 hm=>cl (fun q0=>((EC (hv6 q0)).le ⟨.refl _,(.sl rfl (fun _=>rfl) nofun (le_litG iV 0 [(0:Int),(1:Int)])),trivial⟩ trivial))<|by cases hm;exact re) fun c10 hm=>by
 refine ⟨.bool false,[],(fun q0=>absurd q0 (YK c10)),?_⟩
 (conv=>whnf)
 have hm:r=(((c_.Parents.length:Int)==(1:Int))&&false):=hm
 subst hm
 refine ⟨[],[],?_⟩
 (conv=>whnf)
 exact ⟨⟨rfl,trivial,trivial⟩,rfl⟩) fun _ hm=>by cases hm;exact re
theorem Hq {l_:(List av)} {r:(List Int)} (hm:rO l_ r):S 79 [aN l_] [] (aC r) [] :=TJ [13] Tryz.func79 rfl<|Lx [13] hm (fun g1=>⟨[(3,.bP 0 0 g1.2.length false),(9,aN l_),(10,iV (l_.length:Int)),(11,iV g1.1)],[(0,some (.row 1 g1.2.length (aX iV 0 g1.2)))],1⟩) [(0,none)] [] <|fun self1 g1 hm=>si hm (fun _ hm=>sn hm fun _ hm=>Lx [13] hm (fun g6=>⟨[(3,.bP 0 0 g1.2.length false),(5,.ptr 1 0 0),(6,iV g6.1),(9,aN l_),(10,iV (l_.length:Int)),(11,iV g1.1),(16,aC ((l_.getD g1.1.toNat au).Parents)),(17,iV ((((l_.getD g1.1.toNat au).Parents).length:Nat):Int)),(18,iV g6.2)],[(0,some (.row 1 g1.2.length (aX iV 0 g1.2))),(1,some (.box [iV ((l_.getD g1.1.toNat au).Kind),aC ((l_.getD g1.1.toNat au).Parents),aC ((l_.getD g1.1.toNat au).Choices),iV ((l_.getD g1.1.toNat au).Low),iV ((l_.getD g1.1.toNat au).High)]))],2⟩) [(1,some 25)] [] <|fun self6 g6 hm=>si hm (fun _ hm=>sn hm fun _ hm=>sn hm fun _ hm=>sn hm fun _ hm=>le hm) fun _ hm=>ck [13] (jF g1 self1) r (fun g7=>⟨[(3,.bP 0 0 g1.2.length false),(6,iV g7),(9,aN l_),(10,iV (l_.length:Int)),(11,iV g1.1)],[(0,some (.row 1 g1.2.length (aX iV 0 g1.2)))],1⟩) (si hm (fun _ hm=>sn hm fun _ hm=>le hm) fun _ hm=>le hm) fun g7 hm=>sn hm fun _ hm=>sn hm fun _ hm=>lc [(0,some 25)] [] hm) fun _ hm=>by cases hm;exact rt [0] []
theorem zY {l_:(List av)} {r:Int} (hm:sN l_ r):S 28 [aN l_] [] (iV r) [] :=sp Tryz.func28 rfl<|si hm (fun _ hm=>by cases hm;exact re) fun _ hm=>l0 hm (fun g1=>⟨[(0,aN l_),(15,aN l_),(16,iV (l_.length:Int)),(17,iV g1)],[],0⟩) <|fun self1 g1 hm=>si hm (fun _ hm=>sn hm fun _ hm=>si hm (fun _ hm=>by cases hm;exact re) fun _ hm=>sn hm fun _ hm=>le hm) fun _ hm=>l0 hm (fun g2=>⟨[(0,aN l_),(5,iV g2.1),(32,aN l_),(33,iV (l_.length:Int)),(34,iV g2.2)],[],0⟩) <|fun self2 g2 hm=>si hm (fun _ hm=>sn hm fun _ hm=>lf hm (fun g5=>⟨[(0,aN l_),(5,iV g2.1),(6,iV g2.2),(7,.ptr 0 0 0),(32,aN l_),(33,iV (l_.length:Int)),(34,iV g2.2),(40,aC ((l_.getD g2.2.toNat au).Parents)),(41,iV ((((l_.getD g2.2.toNat au).Parents).length:Nat):Int)),(42,iV g5)],[(0,some (.box [iV ((l_.getD g2.2.toNat au).Kind),aC ((l_.getD g2.2.toNat au).Parents),aC ((l_.getD g2.2.toNat au).Choices),iV ((l_.getD g2.2.toNat au).Low),iV ((l_.getD g2.2.toNat au).High)]))],1⟩) [(0,some 32)] [] <|fun self5 g5 hm=>si hm (fun _ hm=>sn hm fun _ hm=>si hm (fun _ hm=>by cases hm;exact re) fun _ hm=>sn hm fun _ hm=>le hm) fun _ hm=>sb hm fun v3 hv3 hm=>cl (Ho hv3)<|si hm (fun _ hm=>by cases hm;exact re) fun _ hm=>sn hm fun _ hm=>sn hm fun _ hm=>le hm) fun _ hm=>si hm (fun _ hm=>by cases hm;exact re) fun _ hm=>sb hm fun v4 hv4 hm=>cl (Hq hv4)<|l0 hm (fun g6=>⟨[(84,aC v4),(85,iV (v4.length:Int)),(86,iV g6)],[],0⟩) <|fun self6 g6 hm=>si hm (fun _ hm=>sn hm fun _ hm=>si hm (fun _ hm=>by cases hm;exact re) fun _ hm=>sn hm fun _ hm=>le hm) fun _ hm=>by cases hm;exact re
end Go.Proofs.YtfblhejmclcdmaaGreatDoor


namespace Go.Proofs.YtfblhejmclcdmaaGreatDoor
open Go.Ab
set_option maxRecDepth 100000
set_option maxHeartbeats 40000000
theorem Jl {l_:(List av)} {m_:(List bC)} {r:Bool} (hm:uZ l_ m_ r):S 111 [aN l_,eT m_] [] (.bool r) [] :=sp Tryz.func111 rfl<|sb hm fun v1 hv1 hm=>cl (zY hv1)<|si hm (fun _ hm=>by cases hm;exact re) fun _ hm=>l0 hm (fun g1=>⟨[(0,aN l_),(15,eT m_),(16,iV (m_.length:Int)),(17,iV g1)],[],0⟩) <|fun self1 g1 hm=>si hm (fun _ hm=>sn hm fun _ hm=>si hm (fun _ hm=>by cases hm;exact re) fun _ hm=>sn hm fun _ hm=>le hm) fun _ hm=>by cases hm;exact re
theorem Ko {l_:(List av)} {m_:(List bC)} {r:Int} (hm:xI l_ m_ r):S 119 [aN l_,eT m_] [] (iV r) [] :=sp Tryz.func119 rfl<|sb hm fun v1 hv1 hm=>cl (zY hv1)<|si hm (fun _ hm=>by cases hm;exact re) fun _ hm=>sb hm fun v2 hv2 hm=>cl (Jl hv2)<|si hm (fun _ hm=>by cases hm;exact re) fun _ hm=>by cases hm;exact re
theorem Jm {c_:av} {choice_:Int} {r:Int} (hm:u6 c_ choice_ r):S 148 [Di c_,iV choice_] [] (iV r) [] :=sp Tryz.func148 rfl<|si hm (fun _ hm=>by cases hm;exact re) fun _ hm=>si hm (fun _ hm=>sn hm fun _ hm=>sn hm fun _ hm=>by cases hm;exact re) fun _ hm=>sn hm fun _ hm=>by cases hm;exact re
theorem oD {a_:Int} {b_:Int} {r:Int} (hm:kX a_ b_ r):S 179 [iV a_,iV b_] [] (iV r) [] :=sp Tryz.func179 rfl<|l0 hm (fun g1=>⟨[(0,iV g1.1),(1,iV g1.2)],[],0⟩) <|fun self1 g1 hm=>si hm (fun _ hm=>sn hm fun _ hm=>le hm) fun _ hm=>by cases hm;exact re
theorem mO {r_:aP} {r:Bool} (hm:l6 r_ r):S 151 [lU r_] [] (.bool r) [] :=sp Tryz.func151 rfl<|sb hm fun v1 hv1 hm=>cl (fun q0=>(oD (hv1 q0)))<|by cases hm;exact re
theorem yw {k_:Int} {r:Bool} (hm:pK k_ r):S 177 [iV k_] [] (.bool r) [] :=sp Tryz.func177 rfl<|by cases hm;exact re
theorem ED {num_:Int} {den_:Int} {r:(aP×Int)} (hm:zF num_ den_ r):S 178 [iV num_,iV den_] [] (.iT [lU r.1,iV r.2]) [] :=sp Tryz.func178 rfl<|si hm (fun _ hm=>by cases hm;exact re) fun _ hm=>sb hm fun v1 hv1 hm=>cl (oD hv1)<|sn hm fun _ hm=>sn hm fun _ hm=>sb hm fun v2 hv2 hm=>cl (mO hv2)<|si hm (fun _ hm=>by cases hm;exact re) fun _ hm=>by cases hm;exact re
theorem LG {r_:aP} {k_:Int} {r:(aP×Int)} (hm:Ar r_ k_ r):S 149 [lU r_,iV k_] [] (.iT [lU r.1,iV r.2]) [] :=sp Tryz.func149 rfl<|sb hm fun v1 hv1 hm=>cl (mO hv1)<|si hm (fun _ hm=>by cases hm;exact re) fun _ hm=>sb hm fun v2 hv2 hm=>cl (yw hv2)<|si hm (fun _ hm=>by cases hm;exact re) fun _ hm=>sn hm fun _ hm=>sb hm fun v3 hv3 hm=>cl (ED hv3)<|by cases hm;exact re
theorem Kq {r_:aP} {k_:Int} {r:(aP×Int)} (hm:xJ r_ k_ r):S 150 [lU r_,iV k_] [] (.iT [lU r.1,iV r.2]) [] :=sp Tryz.func150 rfl<|sb hm fun v1 hv1 hm=>cl (mO hv1)<|si hm (fun _ hm=>by cases hm;exact re) fun _ hm=>sb hm fun v2 hv2 hm=>cl (yw hv2)<|si hm (fun _ hm=>by cases hm;exact re) fun _ hm=>sb hm fun v3 hv3 hm=>cl (oD hv3)<|sn hm fun _ hm=>sn hm fun _ hm=>si hm (fun _ hm=>by cases hm;exact re) fun _ hm=>sn hm fun _ hm=>sn hm fun _ hm=>sn hm fun _ hm=>sb hm fun v4 hv4 hm=>cl (ED hv4)<|by cases hm;exact re
theorem Jo {l_:(List av)} {s_:(List Int)} {r:((List aP)×(List Bool))} (hm:u7 l_ s_ r):S 112 [aN l_,aC s_] [] (.iT [qP r.1,aS r.2]) [] :=TJ [10,21] Tryz.func112 rfl<|Lx [10,21] hm (fun g1=>⟨[(1,aC s_),(6,.bP 0 0 g1.2.1.length false),(7,.bP 1 0 g1.2.2.length false),(14,aN l_),(15,iV (l_.length:Int)),(16,iV g1.1)],[(0,some (.row 2 g1.2.1.length (aX lU bZ g1.2.1))),(1,some (.row 1 g1.2.2.length (aX AV.bool false g1.2.2)))],2⟩) [(0,none),(1,none)] [] <|fun self1 g1 hm=>si hm (fun _ hm=>sn hm fun _ hm=>ck [10,21] (j5 l_ s_ g1 self1) r (fun g6=>⟨[(1,aC s_),(6,.bP 0 0 g1.2.1.length false),(7,.bP 1 0 g1.2.2.length false),(8,iV g1.1),(9,.ptr 2 0 0),(10,.ptr 3 0 0),(11,.bool g6.1),(14,aN l_),(15,iV (l_.length:Int)),(16,iV g1.1)],[(0,some (.row 2 g1.2.1.length (aX lU bZ g1.2.1))),(1,some (.row 1 g1.2.2.length (aX AV.bool false g1.2.2))),(2,some (.box [iV ((l_.getD g1.1.toNat au).Kind),aC ((l_.getD g1.1.toNat au).Parents),aC ((l_.getD g1.1.toNat au).Choices),iV ((l_.getD g1.1.toNat au).Low),iV ((l_.getD g1.1.toNat au).High)])),(3,some (.box [iV g6.2.1,iV g6.2.2]))],4⟩) (sn hm fun _ hm=>sb hm fun v18 hv18 hm=>cl (Jm hv18)<|si hm (fun _ hm=>sn hm fun _ hm=>sn hm fun _ hm=>lc [(2,some 34),(3,some 66)] [] hm) fun _ hm=>lc [(2,some 34),(3,some 66)] [] hm) fun g6 hm=>sn hm fun _ hm=>sn hm fun _ hm=>ck [10,21] (fC g1 self1) r (fun g7=>⟨[(1,aC s_),(6,.bP 0 0 g1.2.1.length false),(7,.bP 1 0 g1.2.2.length false),(10,.ptr 2 0 0),(11,.bool g7.1),(14,aN l_),(15,iV (l_.length:Int)),(16,iV g1.1)],[(0,some (.row 2 g1.2.1.length (aX lU bZ g1.2.1))),(1,some (.row 1 g1.2.2.length (aX AV.bool false g1.2.2))),(2,some (.box [iV g7.2.1,iV g7.2.2]))],3⟩) (si hm (fun _ hm=>lc [(2,some 3)] [] hm) fun _ hm=>si hm (fun _ hm=>sb hm fun v16 hv16 hm=>cl (LG hv16)<|lc [(2,some 3)] [] hm) fun _ hm=>si hm (fun _ hm=>sb hm fun v17 hv17 hm=>cl (Kq hv17)<|lc [(2,some 3)] [] hm) fun _ hm=>si hm (fun _ hm=>si hm (fun _ hm=>lc [(2,some 3)] [] hm) fun _ hm=>lc [(2,some 3)] [] hm) fun _ hm=>lc [(2,some 3)] [] hm) fun g7 hm=>sn hm fun _ hm=>sn hm fun _ hm=>sn hm fun _ hm=>lc [(0,some 27),(1,some 59)] [] hm) fun _ hm=>by cases hm;exact rt [0,1] []
theorem yx {r_:aP} {low_:Int} {high_:Int} {r:Bool} (hm:pO r_ low_ high_ r):S 113 [lU r_,iV low_,iV high_] [] (.bool r) [] :=sp Tryz.func113 rfl<|sb hm fun v1 hv1 hm=>cl (mO hv1)<|si hm (fun _ hm=>by cases hm;exact re) fun _ hm=>sn hm fun _ hm=>sn hm fun _ hm=>by cases hm;exact re
theorem NZ {l_:(List av)} {r_:(List aP)} {on_:(List Bool)} {r:Bool} (hm:E8 l_ r_ on_ r):S 114 [aN l_,qP r_,aS on_] [] (.bool r) [] :=sp Tryz.func114 rfl<|l0 hm (fun g1=>⟨[(1,qP r_),(2,aS on_),(9,aN l_),(10,iV (l_.length:Int)),(11,iV g1)],[],0⟩) <|fun self1 g1 hm=>si hm (fun _ hm=>sn hm fun _ hm=>sn hm fun _ hm=>sn hm fun _ hm=>sb hm fun v3 hv3 hm=>cl (fun q0=>(yx (hv3 q0)))<|si hm (fun _ hm=>by cases hm;exact re) fun _ hm=>sn hm fun _ hm=>le hm) fun _ hm=>by cases hm;exact re
theorem LH {l_:(List av)} {s_:(List Int)} {m_:(List bC)} {r:Bool} (hm:Au l_ s_ m_ r):S 153 [aN l_,aC s_,eT m_] [] (.bool r) [] :=sp Tryz.func153 rfl<|sb hm fun v1 hv1 hm=>cl (Jo hv1)<|l0 hm (fun g1=>⟨[(0,aN l_),(7,qP v1.1),(8,aS v1.2),(17,eT m_),(18,iV (m_.length:Int)),(19,iV g1)],[],0⟩) <|fun self1 g1 hm=>si hm (fun _ hm=>sn hm fun _ hm=>sn hm fun _ hm=>sn hm fun _ hm=>sb hm fun v4 hv4 hm=>cl (fun q0=>(yx (hv4 q0)))<|si hm (fun _ hm=>by cases hm;exact re) fun _ hm=>sn hm fun _ hm=>le hm) fun _ hm=>sb hm fun v5 hv5 hm=>cl (NZ hv5)<|by cases hm;exact re
theorem LJ {l_:(List av)} {s_:(List Int)} {r:((List Int)×Bool)} (hm:Av l_ s_ r):S 154 [aN l_,aC s_] [] (.iT [aC r.1,.bool r.2]) [] :=TJ [6] Tryz.func154 rfl<|sn hm fun _ hm=>sn hm fun _ hm=>Lx [6] hm (fun g1=>⟨[(0,aN l_),(6,.bP 0 0 g1.2.length false),(7,iV g1.1)],[(0,some (.row 1 g1.2.length (aX iV 0 g1.2)))],1⟩) [(0,some 32)] [] <|fun self1 g1 hm=>si hm (fun _ hm=>ck [6] (yI l_ g1 self1) r (fun g4=>⟨[(0,aN l_),(6,.bP 0 0 g4.length false),(7,iV g1.1)],[(0,some (.row 1 g4.length (aX iV 0 g4)))],1⟩) (sn hm fun _ hm=>sn hm fun _ hm=>sn hm fun _ hm=>le hm) fun g4 hm=>sn hm fun _ hm=>sn hm fun _ hm=>si hm (fun _ hm=>by cases hm;exact rt [0] []) fun _ hm=>sn hm fun _ hm=>sn hm fun _ hm=>le hm) fun _ hm=>by cases hm;exact re
theorem N7 {l_:(List av)} {m_:(List bC)} {r:(List (List Int))} (hm:E9 l_ m_ r):S 120 [aN l_,eT m_] [] (abR r) [] :=TJ [4,6] Tryz.func120 rfl<|sn hm fun _ hm=>Lx [4,6] hm (fun g1=>⟨[(0,aN l_),(1,eT m_),(5,.bP 0 0 g1.2.2.length false),(6,aC g1.1),(7,.bool g1.2.1)],[(0,some (.row 1 g1.2.2.length (aX aC [] g1.2.2)))],1⟩) [(0,none)] [32] <|fun self1 g1 hm=>ck [4,6] (Aw l_ m_ g1 self1) r (fun g6=>⟨[(0,aN l_),(1,eT m_),(5,.bP 0 0 g1.2.2.length false),(6,aC g1.1)],[(0,some (.row 1 g1.2.2.length (aX aC [] g1.2.2)))],1⟩) (si hm (fun _ hm=>le hm) fun _ hm=>by cases hm;exact rt [0] []) fun g6 hm=>ck [4,6] (pQ l_ g1 self1) r (fun g7=>⟨[(0,aN l_),(1,eT m_),(5,.bP 0 0 g7.length false),(6,aC g1.1)],[(0,some (.row 1 g7.length (aX aC [] g7)))],1⟩) (sb hm fun v9 hv9 hm=>cl (LH hv9)<|si hm (fun _ hm=>sn hm fun _ hm=>lc [(0,some 57)] [] hm) fun _ hm=>le hm) fun g7 hm=>sb hm fun v8 hv8 hm=>cl (LJ hv8)<|le hm
theorem Kr {l_:(List av)} {m_:(List bC)} {r:((List Int)×Int)} (hm:xK l_ m_ r):S 72 [aN l_,eT m_] [] (.iT [aC r.1,iV r.2]) [] :=sp Tryz.func72 rfl<|sb hm fun v1 hv1 hm=>cl (Ko hv1)<|si hm (fun _ hm=>by cases hm;exact re) fun _ hm=>sb hm fun v2 hv2 hm=>cl (N7 hv2)<|si hm (fun _ hm=>by cases hm;exact re) fun _ hm=>sn hm fun _ hm=>by cases hm;exact re
theorem jg {x_:Int} {lo_:Int} {hi_:Int} {r:Bool} (hm:l7 x_ lo_ hi_ r):S 80 [iV x_,iV lo_,iV hi_] [] (.bool r) [] :=sp Tryz.func80 rfl<|by cases hm;exact re
theorem zZ {l_:(List aj)} {r:Int} (hm:sO l_ r):S 29 [aJ l_] [] (iV r) [] :=sp Tryz.func29 rfl<|si hm (fun _ hm=>by cases hm;exact re) fun _ hm=>l0 hm (fun g1=>⟨[(0,aJ l_),(12,aJ l_),(13,iV (l_.length:Int)),(14,iV g1)],[],0⟩) <|fun self1 g1 hm=>si hm (fun _ hm=>sn hm fun _ hm=>si hm (fun _ hm=>by cases hm;exact re) fun _ hm=>sn hm fun _ hm=>le hm) fun _ hm=>l0 hm (fun g2=>⟨[(23,aJ l_),(24,iV (l_.length:Int)),(25,iV g2)],[],0⟩) <|fun self2 g2 hm=>si hm (fun _ hm=>sn hm fun _ hm=>sn hm fun _ hm=>sb hm fun v13 hv13 hm=>cl (jg hv13)<|sb hm fun v14 hv14 hm=>cl (fun q0=>(jg (hv14 q0)))<|sb hm fun v15 hv15 hm=>cl (fun q0=>(jg (hv15 q0)))<|si hm (fun _ hm=>by cases hm;exact re) fun _ hm=>lf hm (fun g5=>⟨[(6,.ptr 0 0 0),(23,aJ l_),(24,iV (l_.length:Int)),(25,iV g2),(65,aC ((l_.getD g2.toNat ah).aU)),(66,iV ((((l_.getD g2.toNat ah).aU).length:Nat):Int)),(67,iV g5)],[(0,some (.box [iV ((l_.getD g2.toNat ah).Parent),aC ((l_.getD g2.toNat ah).aU),iV ((l_.getD g2.toNat ah).dO),iV ((l_.getD g2.toNat ah).eG),.bool ((l_.getD g2.toNat ah).Always)]))],1⟩) [(0,some 32)] [] <|fun self5 g5 hm=>si hm (fun _ hm=>sn hm fun _ hm=>sb hm fun v18 hv18 hm=>cl (jg hv18)<|sn hm fun _ hm=>sn hm fun _ hm=>si hm (fun _ hm=>by cases hm;exact re) fun _ hm=>sn hm fun _ hm=>le hm) fun _ hm=>sn hm fun _ hm=>le hm) fun _ hm=>by cases hm;exact re
theorem Kt {l_:(List aj)} {d_:(List aM)} {r:Bool} (hm:xL l_ d_ r):S 115 [aJ l_,dR d_] [] (.bool r) [] :=sp Tryz.func115 rfl<|sb hm fun v1 hv1 hm=>cl (zZ hv1)<|si hm (fun _ hm=>by cases hm;exact re) fun _ hm=>l0 hm (fun g1=>⟨[(0,aJ l_),(15,dR d_),(16,iV (d_.length:Int)),(17,iV g1)],[],0⟩) <|fun self1 g1 hm=>si hm (fun _ hm=>sn hm fun _ hm=>sn hm fun _ hm=>sb hm fun v8 hv8 hm=>cl (jg hv8)<|sb hm fun v9 hv9 hm=>cl (fun q0=>(jg (hv9 q0)))<|sb hm fun v10 hv10 hm=>cl (fun q0=>(jg (hv10 q0)))<|si hm (fun _ hm=>by cases hm;exact re) fun _ hm=>sn hm fun _ hm=>le hm) fun _ hm=>by cases hm;exact re
theorem Ku {l_:(List aj)} {d_:(List aM)} {r:Int} (hm:xM l_ d_ r):S 121 [aJ l_,dR d_] [] (iV r) [] :=sp Tryz.func121 rfl<|sb hm fun v1 hv1 hm=>cl (zZ hv1)<|si hm (fun _ hm=>by cases hm;exact re) fun _ hm=>sb hm fun v2 hv2 hm=>cl (Kt hv2)<|si hm (fun _ hm=>by cases hm;exact re) fun _ hm=>by cases hm;exact re
theorem Cj {l_:(List aj)} {d_:(List aM)} {r:(List Bool)} (hm:wz l_ d_ r):S 122 [aJ l_,dR d_] [] (aS r) [] :=sp Tryz.func122 rfl<|sn hm fun _ hm=>sn hm fun _ hm=>lf hm (fun g1=>⟨[(0,aJ l_),(1,dR d_),(5,.bP 0 0 g1.2.length false),(6,iV g1.1)],[(0,some (.row 1 g1.2.length (aX AV.bool false g1.2)))],1⟩) [(0,some 24)] [] <|fun self1 g1 hm=>si hm (fun _ hm=>sn hm fun _ hm=>sn hm fun _ hm=>sn hm fun _ hm=>l0 hm (fun g4=>⟨[(0,aJ l_),(1,dR d_),(5,.bP 0 0 g4.2.length false),(6,iV g1.1),(34,dR d_),(35,iV (d_.length:Int)),(36,iV g4.1)],[(0,some (.row 1 g4.2.length (aX AV.bool false g4.2)))],1⟩) <|fun self4 g4 hm=>si hm (fun _ hm=>sn hm fun _ hm=>sn hm fun _ hm=>sn hm fun _ hm=>sn hm fun _ hm=>le hm) fun _ hm=>sn hm fun _ hm=>sn hm fun _ hm=>si hm (fun _ hm=>sn hm fun _ hm=>sn hm fun _ hm=>le hm) fun _ hm=>sn hm fun _ hm=>le hm) fun _ hm=>by cases hm;exact rt [0] []
theorem Kv {s_:aj} {v_:Int} {r:Int} (hm:xO s_ v_ r):S 123 [uL s_,iV v_] [] (iV r) [] :=sp Tryz.func123 rfl<|l0 hm (fun g1=>⟨[(1,iV v_),(8,aC s_.aU),(9,iV (s_.aU.length:Int)),(10,iV g1)],[],0⟩) <|fun self1 g1 hm=>si hm (fun _ hm=>sn hm fun _ hm=>si hm (fun _ hm=>by cases hm;exact re) fun _ hm=>sn hm fun _ hm=>le hm) fun _ hm=>by cases hm;exact re
theorem mP {l_:(List aj)} {r_:bF} {k_:Int} {r:Int} (hm:l8 l_ r_ k_ r):S 124 [aJ l_,Dk r_,iV k_] [] (iV r) [] :=sp Tryz.func124 rfl<|sn hm fun _ hm=>sn hm fun _ hm=>sn hm fun _ hm=>by cases hm;exact re
theorem Kw {l_:(List aj)} {d_:(List aM)} {r:(List Int)} (hm:xP l_ d_ r):S 152 [aJ l_,dR d_] [] (aC r) [] :=sp Tryz.func152 rfl<|sn hm fun _ hm=>sn hm fun _ hm=>lf hm (fun g1=>⟨[(0,aJ l_),(1,dR d_),(5,.bP 0 0 g1.2.length false),(6,iV g1.1)],[(0,some (.row 1 g1.2.length (aX iV 0 g1.2)))],1⟩) [(0,some 24)] [] <|fun self1 g1 hm=>si hm (fun _ hm=>l0 hm (fun g4=>⟨[(0,aJ l_),(1,dR d_),(5,.bP 0 0 g4.2.length false),(6,iV g1.1),(20,dR d_),(21,iV (d_.length:Int)),(22,iV g4.1)],[(0,some (.row 1 g4.2.length (aX iV 0 g4.2)))],1⟩) <|fun self4 g4 hm=>si hm (fun _ hm=>sn hm fun _ hm=>si hm (fun _ hm=>sn hm fun _ hm=>sn hm fun _ hm=>sn hm fun _ hm=>sn hm fun _ hm=>le hm) fun _ hm=>sn hm fun _ hm=>le hm) fun _ hm=>sn hm fun _ hm=>si hm (fun _ hm=>sn hm fun _ hm=>sn hm fun _ hm=>sn hm fun _ hm=>sn hm fun _ hm=>sn hm fun _ hm=>le hm) fun _ hm=>sn hm fun _ hm=>le hm) fun _ hm=>by cases hm;exact rt [0] []
theorem Ky {l_:(List aj)} {r_:bF} {d_:(List aM)} {r:Bool} (hm:xQ l_ r_ d_ r):S 117 [aJ l_,Dk r_,dR d_] [] (.bool r) [] :=sp Tryz.func117 rfl<|sb hm fun v1 hv1 hm=>cl (Cj hv1)<|sb hm fun v2 hv2 hm=>cl (Kw hv2)<|l0 hm (fun g1=>⟨[(0,aJ l_),(2,dR d_),(4,.ptr 0 0 0),(7,aS v1),(8,aC v2),(19,aJ l_),(20,iV (l_.length:Int)),(21,iV g1)],[(0,some (.box [aS r_.On,aC r_.Level]))],1⟩) <|fun self1 g1 hm=>si hm (fun _ hm=>sn hm fun _ hm=>sn hm fun _ hm=>sn hm fun _ hm=>si hm (fun _ hm=>by cases hm;exact re) fun _ hm=>sn hm fun _ hm=>si hm (fun _ hm=>sn hm fun _ hm=>le hm) fun _ hm=>sn hm fun _ hm=>sn hm fun _ hm=>sb hm fun v7 hv7 hm=>cl (fun q0 q1 q2=>(mP (hv7 q0 q1 q2)))<|sb hm fun v8 hv8 hm=>cl (fun q0 q1 q2=>(mP (hv8 q0 q1 q2)))<|sn hm fun _ hm=>si hm (fun _ hm=>by cases hm;exact re) fun _ hm=>sn hm fun _ hm=>le hm) fun _ hm=>l0 hm (fun g2=>⟨[(0,aJ l_),(4,.ptr 0 0 0),(81,dR d_),(82,iV (d_.length:Int)),(83,iV g2)],[(0,some (.box [aS r_.On,aC r_.Level]))],1⟩) <|fun self2 g2 hm=>si hm (fun _ hm=>sn hm fun _ hm=>sb hm fun v13 hv13 hm=>cl (mP hv13)<|sb hm fun v14 hv14 hm=>cl (jg hv14)<|si hm (fun _ hm=>by cases hm;exact re) fun _ hm=>sn hm fun _ hm=>le hm) fun _ hm=>by cases hm;exact re
theorem Kz {l_:(List aj)} {d_:(List aM)} {r:(bF×Int)} (hm:xR l_ d_ r):S 73 [aJ l_,dR d_] [] (.iT [Dk r.1,iV r.2]) [] :=TJ [17] Tryz.func73 rfl<|sb hm fun v1 hv1 hm=>cl (Ku hv1)<|si hm (fun _ hm=>by cases hm;exact re) fun _ hm=>sb hm fun v2 hv2 hm=>cl (Cj hv2)<|sn hm fun _ hm=>sn hm fun _ hm=>Lx [17] hm (fun g1=>⟨[(0,aJ l_),(1,dR d_),(4,.ptr 0 0 0),(7,aS v2),(8,.ptr 1 0 0),(9,.bP 2 0 g1.2.1.length false),(32,dR d_),(33,iV (d_.length:Int)),(34,iV g1.1)],[(0,some (.box [.sl 0 0 true dB,.sl 0 0 true dB])),(1,some (.box [aS v2,.bP 3 0 g1.2.2.length false])),(2,some (.row 1 g1.2.1.length (aX iV 0 g1.2.1))),(3,some (.row 1 g1.2.2.length (aX iV 0 g1.2.2)))],4⟩) [(1,some 136),(2,some 168),(3,some 120)] [] <|fun self1 g1 hm=>si hm (fun _ hm=>sn hm fun _ hm=>sn hm fun _ hm=>sn hm fun _ hm=>sn hm fun _ hm=>le hm) fun _ hm=>sn hm fun _ hm=>Lx [17] hm (fun g2=>⟨[(0,aJ l_),(1,dR d_),(4,.ptr 0 0 0),(7,aS v2),(8,.ptr 1 0 0),(9,.bP 2 0 g2.2.1.length false),(12,iV g2.1)],[(0,some (.box [.sl 0 0 true dB,.sl 0 0 true dB])),(1,some (.box [aS v2,.bP 3 0 g2.2.2.length false])),(2,some (.row 1 g2.2.1.length (aX iV 0 g2.2.1))),(3,some (.row 1 g2.2.2.length (aX iV 0 g2.2.2)))],4⟩) [] [] <|fun self2 g2 hm=>si hm (fun _ hm=>sn hm fun _ hm=>si hm (fun _ hm=>sn hm fun _ hm=>le hm) fun _ hm=>ck [17] (tN l_ v2 g2 self2) r (fun g5=>⟨[(0,aJ l_),(1,dR d_),(4,.ptr 0 0 0),(7,aS v2),(8,.ptr 1 0 0),(9,.bP 2 0 g2.2.1.length false),(12,iV g2.1)],[(0,some (.box [.sl 0 0 true dB,.sl 0 0 true dB])),(1,some (.box [aS v2,.bP 3 0 g5.length false])),(2,some (.row 1 g2.2.1.length (aX iV 0 g2.2.1))),(3,some (.row 1 g5.length (aX iV 0 g5)))],4⟩) (sn hm fun _ hm=>sn hm fun _ hm=>sb hm fun v11 hv11 hm=>cl (Kv hv11)<|sn hm fun _ hm=>le hm) fun g5 hm=>sn hm fun _ hm=>si hm (fun _ hm=>by cases hm;exact re) fun _ hm=>sn hm fun _ hm=>si hm (fun _ hm=>sn hm fun _ hm=>sb hm fun v10 hv10 hm=>cl (mP hv10)<|sn hm fun _ hm=>sn hm fun _ hm=>sn hm fun _ hm=>sn hm fun _ hm=>le hm) fun _ hm=>sn hm fun _ hm=>le hm) fun _ hm=>sb hm fun v12 hv12 hm=>cl (Ky hv12)<|si hm (fun _ hm=>by cases hm;exact re) fun _ hm=>by cases hm;exact rt [3] []
end Go.Proofs.YtfblhejmclcdmaaGreatDoor


namespace Go.Proofs.YtfblhejmclcdmaaGreatDoor
open Go.Ab
set_option maxRecDepth 100000
set_option maxHeartbeats 40000000
theorem uj {s_:ByteArray} {r:Bool} (hm:qV s_ r):S 109 [.str s_] [] (.bool r) [] :=sp Tryz.func109 rfl<|sn hm fun _ hm=>sn hm fun _ hm=>si hm (fun _ hm=>by cases hm;exact re) fun _ hm=>l0 hm (fun g1=>⟨[(0,.str s_),(3,iV g1)],[],0⟩) <|fun self1 g1 hm=>si hm (fun _ hm=>sn hm fun _ hm=>sn hm fun _ hm=>sn hm fun _ hm=>sn hm fun _ hm=>sn hm fun _ hm=>si hm (fun _ hm=>by cases hm;exact re) fun _ hm=>sn hm fun _ hm=>le hm) fun _ hm=>by cases hm;exact re
theorem KA {p_:bB} {i_:Int} {r:Int} (hm:xS p_ i_ r):S 81 [lu p_,iV i_] [] (iV r) [] :=sp Tryz.func81 rfl<|sn hm fun _ hm=>sb hm fun v1 hv1 hm=>cl (uj hv1)<|si hm (fun _ hm=>by cases hm;exact re) fun _ hm=>lf hm (fun g1=>⟨[(1,iV i_),(2,.ptr 0 0 0),(5,.ptr 1 0 0),(6,iV g1)],[(0,some (.box [iV p_.bT,aT p_.Groups])),(1,some (.box [.str ((p_.Groups.getD i_.toNat aF).Name),aC ((p_.Groups.getD i_.toNat aF).bT),fP ((p_.Groups.getD i_.toNat aF).Functions)]))],2⟩) [(1,some 56)] [] <|fun self1 g1 hm=>si hm (fun _ hm=>sn hm fun _ hm=>si hm (fun _ hm=>by cases hm;exact re) fun _ hm=>sn hm fun _ hm=>le hm) fun _ hm=>si hm (fun _ hm=>by cases hm;exact re) fun _ hm=>si hm (fun _ hm=>by cases hm;exact re) fun _ hm=>l0 hm (fun g2=>⟨[(2,.ptr 0 0 0),(5,.ptr 1 0 0),(7,iV g2)],[(0,some (.box [iV p_.bT,aT p_.Groups])),(1,some (.box [.str ((p_.Groups.getD i_.toNat aF).Name),aC ((p_.Groups.getD i_.toNat aF).bT),fP ((p_.Groups.getD i_.toNat aF).Functions)]))],2⟩) <|fun self2 g2 hm=>si hm (fun _ hm=>sn hm fun _ hm=>sn hm fun _ hm=>si hm (fun _ hm=>by cases hm;exact re) fun _ hm=>sn hm fun _ hm=>le hm) fun _ hm=>lf hm (fun g3=>⟨[(5,.ptr 0 0 0),(8,iV g3)],[(0,some (.box [.str ((p_.Groups.getD i_.toNat aF).Name),aC ((p_.Groups.getD i_.toNat aF).bT),fP ((p_.Groups.getD i_.toNat aF).Functions)]))],1⟩) [(0,some 1)] [] <|fun self3 g3 hm=>si hm (fun _ hm=>sn hm fun _ hm=>sn hm fun _ hm=>sn hm fun _ hm=>si hm (fun _ hm=>by cases hm;exact re) fun _ hm=>sn hm fun _ hm=>le hm) fun _ hm=>l0 hm (fun g4=>⟨[(5,.ptr 0 0 0),(9,iV g4)],[(0,some (.box [.str ((p_.Groups.getD i_.toNat aF).Name),aC ((p_.Groups.getD i_.toNat aF).bT),fP ((p_.Groups.getD i_.toNat aF).Functions)]))],1⟩) <|fun self4 g4 hm=>si hm (fun _ hm=>sn hm fun _ hm=>sb hm fun v4 hv4 hm=>cl (uj hv4)<|si hm (fun _ hm=>by cases hm;exact re) fun _ hm=>sn hm fun _ hm=>le hm) fun _ hm=>l0 hm (fun g5=>⟨[(5,.ptr 0 0 0),(10,iV g5)],[(0,some (.box [.str ((p_.Groups.getD i_.toNat aF).Name),aC ((p_.Groups.getD i_.toNat aF).bT),fP ((p_.Groups.getD i_.toNat aF).Functions)]))],1⟩) <|fun self5 g5 hm=>si hm (fun _ hm=>l0 hm (fun g8=>⟨[(5,.ptr 0 0 0),(10,iV g5),(11,iV g8)],[(0,some (.box [.str ((p_.Groups.getD i_.toNat aF).Name),aC ((p_.Groups.getD i_.toNat aF).bT),fP ((p_.Groups.getD i_.toNat aF).Functions)]))],1⟩) <|fun self8 g8 hm=>si hm (fun _ hm=>sn hm fun _ hm=>sn hm fun _ hm=>si hm (fun _ hm=>by cases hm;exact re) fun _ hm=>sn hm fun _ hm=>le hm) fun _ hm=>sn hm fun _ hm=>le hm) fun _ hm=>by cases hm;exact re
theorem KC {p_:bB} {r:Int} (hm:xU p_ r):S 30 [lu p_] [] (iV r) [] :=sp Tryz.func30 rfl<|si hm (fun _ hm=>by cases hm;exact re) fun _ hm=>si hm (fun _ hm=>by cases hm;exact re) fun _ hm=>l0 hm (fun g1=>⟨[(1,.ptr 0 0 0),(3,iV g1)],[(0,some (.box [iV p_.bT,aT p_.Groups]))],1⟩) <|fun self1 g1 hm=>si hm (fun _ hm=>sb hm fun v3 hv3 hm=>cl (KA hv3)<|si hm (fun _ hm=>by cases hm;exact re) fun _ hm=>sn hm fun _ hm=>le hm) fun _ hm=>by cases hm;exact re
theorem KD {p_:bB} {l_:(List ByteArray)} {r:Bool} (hm:xV p_ l_ r):S 155 [lu p_,fP l_] [] (.bool r) [] :=sp Tryz.func155 rfl<|sb hm fun v1 hv1 hm=>cl (KC hv1)<|si hm (fun _ hm=>by cases hm;exact re) fun _ hm=>l0 hm (fun g1=>⟨[(1,fP l_),(5,iV g1)],[],0⟩) <|fun self1 g1 hm=>si hm (fun _ hm=>sn hm fun _ hm=>sb hm fun v4 hv4 hm=>cl (uj hv4)<|si hm (fun _ hm=>by cases hm;exact re) fun _ hm=>sn hm fun _ hm=>le hm) fun _ hm=>by cases hm;exact re
theorem yS {g_:aY} {function_:ByteArray} {r:Int} (hm:zG g_ function_ r):S 77 [jX g_,.str function_] [] (iV r) [] :=sp Tryz.func77 rfl<|l0 hm (fun g1=>⟨[(1,.str function_),(2,.ptr 0 0 0),(5,iV g1)],[(0,some (.box [.str g_.Name,aC g_.bT,fP g_.Functions]))],1⟩) <|fun self1 g1 hm=>si hm (fun _ hm=>sn hm fun _ hm=>si hm (fun _ hm=>by cases hm;exact re) fun _ hm=>sn hm fun _ hm=>le hm) fun _ hm=>by cases hm;exact re
theorem KE {a_:(List Int)} {b_:(List Int)} {r:Bool} (hm:xW a_ b_ r):S 180 [aC a_,aC b_] [] (.bool r) [] :=sp Tryz.func180 rfl<|l0 hm (fun g1=>⟨[(0,aC a_),(1,aC b_),(5,iV g1.1),(6,iV g1.2)],[],0⟩) <|fun self1 g1 hm=>si hm (fun _ hm=>sn hm fun _ hm=>sn hm fun _ hm=>si hm (fun _ hm=>by cases hm;exact re) fun _ hm=>sn hm fun _ hm=>sn hm fun _ hm=>si hm (fun _ hm=>sn hm fun _ hm=>le hm) fun _ hm=>sn hm fun _ hm=>le hm) fun _ hm=>by cases hm;exact re
theorem Ck {p_:bB} {groups_:(List Int)} {g_:Int} {r:Bool} (hm:wB p_ groups_ g_ r):S 158 [lu p_,aC groups_,iV g_] [] (.bool r) [] :=sp Tryz.func158 rfl<|l0 hm (fun g1=>⟨[(1,aC groups_),(2,iV g_),(3,.ptr 0 0 0),(7,iV g1)],[(0,some (.box [iV p_.bT,aT p_.Groups]))],1⟩) <|fun self1 g1 hm=>si hm (fun _ hm=>sn hm fun _ hm=>sn hm fun _ hm=>sn hm fun _ hm=>sn hm fun _ hm=>sb hm fun v3 hv3 hm=>cl (fun q0=>(KE (hv3 q0)))<|si hm (fun _ hm=>by cases hm;exact re) fun _ hm=>sn hm fun _ hm=>le hm) fun _ hm=>by cases hm;exact re
theorem LK {p_:bB} {l_:(List ByteArray)} {groups_:(List Int)} {r:Bool} (hm:Ay p_ l_ groups_ r):S 156 [lu p_,fP l_,aC groups_] [] (.bool r) [] :=sp Tryz.func156 rfl<|si hm (fun _ hm=>by cases hm;exact re) fun _ hm=>l0 hm (fun g1=>⟨[(1,fP l_),(2,aC groups_),(3,.ptr 0 0 0),(7,iV g1)],[(0,some (.box [iV p_.bT,aT p_.Groups]))],1⟩) <|fun self1 g1 hm=>si hm (fun _ hm=>sn hm fun _ hm=>sn hm fun _ hm=>sn hm fun _ hm=>sb hm fun v5 hv5 hm=>cl (fun q0=>(yS (hv5 q0)))<|sn hm fun _ hm=>sb hm fun v6 hv6 hm=>cl (fun q0=>((Ck (hv6 q0)).le ⟨.refl _,(.sl oz (fun _=>rfl) nofun (le_rtake (f:=iV) (d:=0) (by first | omega | (simp; omega)))),.refl _,trivial⟩ trivial))<|si hm (fun _ hm=>by cases hm;exact re) fun _ hm=>sn hm fun _ hm=>le hm) fun _ hm=>by cases hm;exact re
theorem N8 {p_:bB} {l_:(List ByteArray)} {given_:(List Int)} {r:Int} (hm:Fa p_ l_ given_ r):S 125 [lu p_,fP l_,aC given_] [] (iV r) [] :=sp Tryz.func125 rfl<|sb hm fun v1 hv1 hm=>cl (KD hv1)<|si hm (fun _ hm=>by cases hm;exact re) fun _ hm=>sb hm fun v2 hv2 hm=>cl (LK hv2)<|si hm (fun _ hm=>by cases hm;exact re) fun _ hm=>by cases hm;exact re
theorem Jp {p_:bB} {function_:ByteArray} {r:(List Int)} (hm:vg p_ function_ r):S 157 [lu p_,.str function_] [] (aC r) [] :=sp Tryz.func157 rfl<|lf hm (fun g1=>⟨[(1,.str function_),(2,.ptr 0 0 0),(5,.bP 1 0 g1.2.length false),(9,iV (p_.Groups.length:Int)),(10,iV g1.1)],[(0,some (.box [iV p_.bT,aT p_.Groups])),(1,some (.row 1 g1.2.length (aX iV 0 g1.2)))],2⟩) [(1,none)] [] <|fun self1 g1 hm=>si hm (fun _ hm=>sn hm fun _ hm=>sb hm fun v3 hv3 hm=>cl (yS hv3)<|si hm (fun _ hm=>sn hm fun _ hm=>sn hm fun _ hm=>lc [(1,some 114)] [] hm) fun _ hm=>sn hm fun _ hm=>le hm) fun _ hm=>by cases hm;exact rt [1] []
theorem LM:∀(n:Nat) (a0_:(bB×(List ByteArray)×(List Int))) (r:((List Int)×Bool)),itM j6 n a0_ r→S 126 [lu a0_.1,fP a0_.2.1,aC a0_.2.2] [] (.iT [aC r.1,.bool r.2]) [] :=by
 intro n
 induction n with
 | zero=>intro a0_ r hm; exact hm.elim
 | succ n ih=>
   intro a0_ r hm
   have hm:j6 (itM j6 n) a0_ r:=hm
   generalize itM j6 n=self0_ at hm ih
   refine kG (ct:=[]) fE Tryz.func126 rfl rfl (Nat.le_of_ble_eq_true rfl) dk (Nat.le_of_ble_eq_true rfl) ?_
   (conv=>whnf)
   refine dG hm (fun c1 hm=>?_) (fun c1 hm=>?_)
   · (conv=>whnf)
     refine aH hm fun h1 hm=>?_
     (conv=>whnf)
     have hm:r=(a0_.2.2,true):=hm
     subst hm
     refine ⟨[72],[],?_⟩
     (conv=>whnf)
     exact ⟨⟨rfl,trivial,trivial⟩,(by (conv=>whnf); exact ⟨(by (conv=>whnf); exact sf),(by (conv=>whnf); exact ⟨(by first | ((conv=>whnf); exact rfl) | exact rfl),trivial⟩)⟩)⟩
   · (conv=>whnf)
     refine aH hm fun h2 hm=>?_
     (conv=>whnf)
     refine dH hm fun v1 hv1 hm=>?_
     refine ⟨_,_,(Jp hv1),?_⟩
     (conv=>whnf)
     refine zm (ct:=[]) fE dk hm (fun g1=>⟨[(1,fP a0_.2.1),(2,aC a0_.2.2),(3,.ptr 0 0 0),(8,aC v1),(9,iV g1)],[(0,some (.box [iV a0_.1.bT,aT a0_.1.Groups]))],1⟩) [] [] ⟨rfl,⟨sr,sr,r4,sr,r2,trivial⟩,⟨⟨r2,sr,trivial⟩,trivial⟩⟩ ?_
     intro self1 g1 hm
     (conv=>whnf)
     refine dG hm (fun c8 hm=>?_) (fun c8 hm=>?_)
     · (conv=>whnf)
       refine aH hm fun h15 hm=>?_
       (conv=>whnf)
       refine dH hm fun v6 hv6 hm=>?_
       refine ⟨_,_,(Ck hv6),?_⟩
       (conv=>whnf)
       refine dG hm (fun c9 hm=>?_) (fun c9 hm=>?_)
       · (conv=>whnf)
         refine aH hm fun h16 hm=>?_
         (conv=>whnf)
         exact ⟨(g1+(1:Int)),[],[],hm,⟨rfl,⟨sr,sr,r4,sr,r2,trivial⟩,⟨⟨r2,sr,trivial⟩,trivial⟩⟩⟩
       · (conv=>whnf)
         refine aH hm fun h17 hm=>?_
         (conv=>whnf)
         refine aH hm fun h18 hm=>?_
         (conv=>whnf)
         refine aH hm fun h19 hm=>?_
         (conv=>whnf)
         refine dH hm fun v7 hv7 hm=>?_
         refine ⟨_,_,((ih _ _ hv7).le ⟨.refl _,.refl _,(.sl oz (fun _=>rfl) nofun (le_appG rfl (fun _ _=>.refl _) rfl (le_litG iV 0 [(v1.getD g1.toNat 0)]))),trivial⟩ trivial),?_⟩
         (conv=>whnf)
         refine dG hm (fun c10 hm=>?_) (fun c10 hm=>?_)
         · (conv=>whnf)
           have hm:r=(v7.1,true):=hm
           subst hm
           refine ⟨[],[],?_⟩
           (conv=>whnf)
           exact ⟨⟨rfl,trivial,trivial⟩,⟨sf,rfl,trivial⟩⟩
         · (conv=>whnf)
           refine aH hm fun h20 hm=>?_
           (conv=>whnf)
           exact ⟨(g1+(1:Int)),[],[],hm,⟨rfl,⟨sr,sr,r4,sr,r2,trivial⟩,⟨⟨r2,sr,trivial⟩,trivial⟩⟩⟩
     · (conv=>whnf)
       have hm:r=(([]:List Int),false):=hm
       subst hm
       refine ⟨[],[],?_⟩
       (conv=>whnf)
       exact ⟨⟨rfl,trivial,trivial⟩,⟨⟨rfl,(fun h=>absurd rfl h),nofun,(fun _ h=>absurd h (Nat.not_lt_zero _))⟩,rfl,trivial⟩⟩
theorem Jq {p_:bB} {l_:(List ByteArray)} {groups_:(List Int)} {r:((List Int)×Bool)} (hm:vk p_ l_ groups_ r):S 126 [lu p_,fP l_,aC groups_] [] (.iT [aC r.1,.bool r.2]) [] :=by
 obtain ⟨n,hm⟩:=hm
 exact LM n (p_,l_,groups_) r hm
theorem Jr {p_:bB} {l_:(List ByteArray)} {given_:(List Int)} {r:((List Int)×Int)} (hm:vo p_ l_ given_ r):S 74 [lu p_,fP l_,aC given_] [] (.iT [aC r.1,iV r.2]) [] :=sp Tryz.func74 rfl<|sb hm fun v1 hv1 hm=>cl (N8 hv1)<|si hm (fun _ hm=>by cases hm;exact re) fun _ hm=>sb hm fun v2 hv2 hm=>cl (Jq hv2)<|si hm (fun _ hm=>by cases hm;exact re) fun _ hm=>by cases hm;exact re
theorem KF {l_:(List cu)} {r:Int} (hm:xX l_ r):S 31 [bO l_] [] (iV r) [] :=sp Tryz.func31 rfl<|si hm (fun _ hm=>by cases hm;exact re) fun _ hm=>l0 hm (fun g1=>⟨[(0,bO l_),(3,iV g1)],[],0⟩) <|fun self1 g1 hm=>si hm (fun _ hm=>l0 hm (fun g6=>⟨[(0,bO l_),(3,iV g1),(4,iV g6)],[],0⟩) <|fun self6 g6 hm=>sn hm fun _ hm=>si hm (fun _ hm=>sn hm fun _ hm=>sn hm fun _ hm=>sn hm fun _ hm=>sn hm fun _ hm=>si hm (fun _ hm=>by cases hm;exact re) fun _ hm=>sn hm fun _ hm=>le hm) fun _ hm=>l0 hm (fun g7=>⟨[(0,bO l_),(3,iV g1),(5,iV g7)],[],0⟩) <|fun self7 g7 hm=>sn hm fun _ hm=>si hm (fun _ hm=>sn hm fun _ hm=>sn hm fun _ hm=>sn hm fun _ hm=>sn hm fun _ hm=>sn hm fun _ hm=>si hm (fun _ hm=>by cases hm;exact re) fun _ hm=>sn hm fun _ hm=>le hm) fun _ hm=>sn hm fun _ hm=>le hm) fun _ hm=>by cases hm;exact re
theorem Js {l_:(List cu)} {lines_:(List Int)} {r:((List Bool)×Int)} (hm:vv l_ lines_ r):S 75 [bO l_,aC lines_] [] (.iT [aS r.1,iV r.2]) [] :=sp Tryz.func75 rfl<|sb hm fun v1 hv1 hm=>cl (KF hv1)<|si hm (fun _ hm=>by cases hm;exact re) fun _ hm=>sn hm fun _ hm=>lf hm (fun g1=>⟨[(0,bO l_),(1,aC lines_),(6,.bP 0 0 g1.2.length false),(7,iV g1.1)],[(0,some (.row 1 g1.2.length (aX AV.bool false g1.2)))],1⟩) [(0,some 56)] [] <|fun self1 g1 hm=>si hm (fun _ hm=>sn hm fun _ hm=>sn hm fun _ hm=>si hm (fun _ hm=>by cases hm;exact re) fun _ hm=>sn hm fun _ hm=>sn hm fun _ hm=>sn hm fun _ hm=>le hm) fun _ hm=>sn hm fun _ hm=>l0 hm (fun g2=>⟨[(0,bO l_),(6,.bP 0 0 g2.2.length false),(8,iV g2.1)],[(0,some (.row 1 g2.2.length (aX AV.bool false g2.2)))],1⟩) <|fun self2 g2 hm=>si hm (fun _ hm=>l0 hm (fun g5=>⟨[(0,bO l_),(6,.bP 0 0 g5.2.length false),(8,iV g2.1),(9,iV g5.1)],[(0,some (.row 1 g5.2.length (aX AV.bool false g5.2)))],1⟩) <|fun self5 g5 hm=>sn hm fun _ hm=>sn hm fun _ hm=>si hm (fun _ hm=>sn hm fun _ hm=>sn hm fun _ hm=>sn hm fun _ hm=>sn hm fun _ hm=>le hm) fun _ hm=>sn hm fun _ hm=>le hm) fun _ hm=>by cases hm;exact rt [0] []
theorem KG {l_:(List bM)} {r:Int} (hm:xY l_ r):S 32 [bG l_] [] (iV r) [] :=sp Tryz.func32 rfl<|si hm (fun _ hm=>by cases hm;exact re) fun _ hm=>l0 hm (fun g1=>⟨[(0,bG l_),(3,iV g1)],[],0⟩) <|fun self1 g1 hm=>si hm (fun _ hm=>sn hm fun _ hm=>sn hm fun _ hm=>si hm (fun _ hm=>by cases hm;exact re) fun _ hm=>sn hm fun _ hm=>le hm) fun _ hm=>by cases hm;exact re
theorem N9 {l_:(List bM)} {users_:(List Int)} {r:Int} (hm:Fb l_ users_ r):S 127 [bG l_,aC users_] [] (iV r) [] :=sp Tryz.func127 rfl<|sb hm fun v1 hv1 hm=>cl (KG hv1)<|si hm (fun _ hm=>by cases hm;exact re) fun _ hm=>l0 hm (fun g1=>⟨[(0,bG l_),(1,aC users_),(5,iV g1)],[],0⟩) <|fun self1 g1 hm=>si hm (fun _ hm=>sn hm fun _ hm=>sn hm fun _ hm=>si hm (fun _ hm=>by cases hm;exact re) fun _ hm=>sn hm fun _ hm=>le hm) fun _ hm=>by cases hm;exact re
theorem Pn {l_:(List bM)} {users_:(List Int)} {r:((List Bool)×Int)} (hm:Iu l_ users_ r):S 76 [bG l_,aC users_] [] (.iT [aS r.1,iV r.2]) [] :=TJ [13] Tryz.func76 rfl<|sb hm fun v1 hv1 hm=>cl (N9 hv1)<|si hm (fun _ hm=>by cases hm;exact re) fun _ hm=>sn hm fun _ hm=>Lx [13] hm (fun g1=>⟨[(0,bG l_),(1,aC users_),(7,.bP 0 0 g1.2.length false),(8,iV g1.1)],[(0,some (.row 1 g1.2.length (aX AV.bool false g1.2)))],1⟩) [(0,some 80)] [] <|fun self1 g1 hm=>si hm (fun _ hm=>sn hm fun _ hm=>sn hm fun _ hm=>sn hm fun _ hm=>le hm) fun _ hm=>sn hm fun _ hm=>Lx [13] hm (fun g2=>⟨[(0,bG l_),(7,.bP 0 0 g2.2.length false),(9,iV g2.1)],[(0,some (.row 1 g2.2.length (aX AV.bool false g2.2)))],1⟩) [] [] <|fun self2 g2 hm=>si hm (fun _ hm=>ck [13] (Az l_ g2 self2) r (fun g5=>⟨[(0,bG l_),(7,.bP 0 0 g5.length false),(9,iV g2.1)],[(0,some (.row 1 g5.length (aX AV.bool false g5)))],1⟩) (sn hm fun _ hm=>sn hm fun _ hm=>sn hm fun _ hm=>le hm) fun g5 hm=>sn hm fun _ hm=>sn hm fun _ hm=>si hm (fun _ hm=>sn hm fun _ hm=>sn hm fun _ hm=>sn hm fun _ hm=>le hm) fun _ hm=>sn hm fun _ hm=>le hm) fun _ hm=>by cases hm;exact rt [0] []
theorem wP {b_:bQ} {l_:(List aV)} {m_:(List Int)} {r:(bq×Bool)} (hm:nJ b_ l_ m_ r):S 27 [vX b_,eu l_,aC m_] [] (.iT [yG r.1,.bool r.2]) [] :=TJ [11,18] Tryz.func27 rfl<|Lx [11,18] hm (fun g1=>⟨[(1,eu l_),(3,.ptr 0 0 0),(6,.ptr 1 0 0),(8,.bP 2 0 g1.2.1.length false),(9,.bP 3 0 g1.2.2.1.length false),(10,.bP 4 0 g1.2.2.2.1.length false),(11,.bP 5 0 g1.2.2.2.2.1.length false),(12,.bP 6 0 g1.2.2.2.2.2.1.length false),(13,.bP 7 0 g1.2.2.2.2.2.2.length false),(28,aC m_),(29,iV (m_.length:Int)),(30,iV g1.1)],[(0,some (.box [aN b_.bY,aJ b_.bH,iV b_.bE.bT,aT b_.bE.Groups,bO b_.Resets,bG b_.cK])),(1,some (.box [.sl 0 0 true dB,.sl 0 0 true dB,.sl 0 0 true dB,.sl 0 0 true dB,.sl 0 0 true dB,.sl 0 0 true dB])),(2,some (.row 3 g1.2.1.length (aX tC cB g1.2.1))),(3,some (.row 4 g1.2.2.1.length (aX Bg bL g1.2.2.1))),(4,some (.row 1 g1.2.2.2.1.length (aX AV.str ByteArray.empty g1.2.2.2.1))),(5,some (.row 1 g1.2.2.2.2.1.length (aX iV 0 g1.2.2.2.2.1))),(6,some (.row 1 g1.2.2.2.2.2.1.length (aX iV 0 g1.2.2.2.2.2.1))),(7,some (.row 1 g1.2.2.2.2.2.2.length (aX iV 0 g1.2.2.2.2.2.2)))],8⟩) [(1,some 8),(2,none),(3,none),(4,none),(5,none),(6,none),(7,none)] [] <|fun self1 g1 hm=>si hm (fun _ hm=>sn hm fun _ hm=>sn hm fun _ hm=>sn hm fun _ hm=>sn hm fun _ hm=>sn hm fun _ hm=>sn hm fun _ hm=>sn hm fun _ hm=>sn hm fun _ hm=>sn hm fun _ hm=>ck [11,18] (jG l_ m_ g1 self1) r (fun g6=>⟨[(1,eu l_),(3,.ptr 0 0 0),(6,.ptr 1 0 0),(8,.bP 2 0 g6.1.length false),(9,.bP 3 0 g6.2.1.length false),(10,.bP 4 0 g6.2.2.1.length false),(11,.bP 5 0 g6.2.2.2.1.length false),(12,.bP 6 0 g6.2.2.2.2.length false),(13,.bP 7 0 g1.2.2.2.2.2.2.length false),(15,iV (m_.getD g1.1.toNat 0)),(28,aC m_),(29,iV (m_.length:Int)),(30,iV g1.1)],[(0,some (.box [aN b_.bY,aJ b_.bH,iV b_.bE.bT,aT b_.bE.Groups,bO b_.Resets,bG b_.cK])),(1,some (.box [.sl 0 0 true dB,.sl 0 0 true dB,.sl 0 0 true dB,.sl 0 0 true dB,.sl 0 0 true dB,.sl 0 0 true dB])),(2,some (.row 3 g6.1.length (aX tC cB g6.1))),(3,some (.row 4 g6.2.1.length (aX Bg bL g6.2.1))),(4,some (.row 1 g6.2.2.1.length (aX AV.str ByteArray.empty g6.2.2.1))),(5,some (.row 1 g6.2.2.2.1.length (aX iV 0 g6.2.2.2.1))),(6,some (.row 1 g6.2.2.2.2.length (aX iV 0 g6.2.2.2.2))),(7,some (.row 1 g1.2.2.2.2.2.2.length (aX iV 0 g1.2.2.2.2.2.2)))],8⟩) (sn hm fun _ hm=>si hm (fun _ hm=>sn hm fun _ hm=>sn hm fun _ hm=>lc [(2,some 88),(3,some 144),(4,some 200),(5,some 256),(6,some 400)] [] hm) fun _ hm=>lc [(2,some 88),(3,some 144),(4,some 200),(5,some 256)] [] hm) fun g6 hm=>sn hm fun _ hm=>Lx [11,18] hm (fun g7=>⟨[(1,eu l_),(3,.ptr 0 0 0),(6,.ptr 1 0 0),(8,.bP 2 0 g6.1.length false),(9,.bP 3 0 g6.2.1.length false),(10,.bP 4 0 g6.2.2.1.length false),(11,.bP 5 0 g6.2.2.2.1.length false),(12,.bP 6 0 g6.2.2.2.2.length false),(13,.bP 7 0 g7.2.length false),(15,iV (m_.getD g1.1.toNat 0)),(28,aC m_),(29,iV (m_.length:Int)),(30,iV g1.1),(81,iV ((((l_.getD ((m_.getD g1.1.toNat 0).toNat) bJ).Functions).length:Nat):Int)),(82,iV g7.1)],[(0,some (.box [aN b_.bY,aJ b_.bH,iV b_.bE.bT,aT b_.bE.Groups,bO b_.Resets,bG b_.cK])),(1,some (.box [.sl 0 0 true dB,.sl 0 0 true dB,.sl 0 0 true dB,.sl 0 0 true dB,.sl 0 0 true dB,.sl 0 0 true dB])),(2,some (.row 3 g6.1.length (aX tC cB g6.1))),(3,some (.row 4 g6.2.1.length (aX Bg bL g6.2.1))),(4,some (.row 1 g6.2.2.1.length (aX AV.str ByteArray.empty g6.2.2.1))),(5,some (.row 1 g6.2.2.2.1.length (aX iV 0 g6.2.2.2.1))),(6,some (.row 1 g6.2.2.2.2.length (aX iV 0 g6.2.2.2.2))),(7,some (.row 1 g7.2.length (aX iV 0 g7.2)))],8⟩) [] [] <|fun self7 g7 hm=>si hm (fun _ hm=>sn hm fun _ hm=>sn hm fun _ hm=>lc [(7,some 40)] [] hm) fun _ hm=>sn hm fun _ hm=>le hm) fun _ hm=>sb hm fun v1 hv1 hm=>cl (Kr hv1)<|ck [11,18] (pU b_ g1 v1) r (fun g8=>⟨[(3,.ptr 0 0 0),(6,.ptr 1 0 0),(10,fP g8.1),(11,.bP 2 0 g1.2.2.2.2.1.length false),(12,.bP 3 0 g1.2.2.2.2.2.1.length false),(13,.bP 4 0 g1.2.2.2.2.2.2.length false),(16,aC v1.1),(17,iV v1.2),(18,.ptr 5 0 0),(19,iV g8.2.1)],[(0,some (.box [aN b_.bY,aJ b_.bH,iV b_.bE.bT,aT b_.bE.Groups,bO b_.Resets,bG b_.cK])),(1,some (.box [.sl 0 0 true dB,.sl 0 0 true dB,.sl 0 0 true dB,.sl 0 0 true dB,.sl 0 0 true dB,.sl 0 0 true dB])),(2,some (.row 1 g1.2.2.2.2.1.length (aX iV 0 g1.2.2.2.2.1))),(3,some (.row 1 g1.2.2.2.2.2.1.length (aX iV 0 g1.2.2.2.2.2.1))),(4,some (.row 1 g1.2.2.2.2.2.2.length (aX iV 0 g1.2.2.2.2.2.2))),(5,some (.box [aS g8.2.2.1,aC g8.2.2.2]))],6⟩) (sb hm fun v9 hv9 hm=>cl (Kz hv9)<|lc [(2,some 5),(3,some 6),(4,some 7),(5,some 144)] [4] hm) fun g8 hm=>sb hm fun v3 hv3 hm=>cl ((Jr hv3).le ⟨.refl _,.refl _,(.sl rfl (fun h=>absurd rfl h) nofun (fun _ h=>absurd h (Nat.not_lt_zero _))),trivial⟩ trivial)<|sb hm fun v4 hv4 hm=>cl (Js hv4)<|sb hm fun v5 hv5 hm=>cl (Pn hv5)<|si hm (fun _ hm=>by cases hm;exact re) fun _ hm=>Lx [11,18] hm (fun g9=>⟨[(3,.ptr 0 0 0),(6,.ptr 1 0 0),(10,fP g8.1),(13,.bP 2 0 g1.2.2.2.2.2.2.length false),(20,aC v3.1),(26,.ptr 3 0 0),(150,iV (v3.1.length:Int)),(151,iV g9.1)],[(0,some (.box [aN b_.bY,aJ b_.bH,iV b_.bE.bT,aT b_.bE.Groups,bO b_.Resets,bG b_.cK])),(1,some (.box [.sl 0 0 true dB,.sl 0 0 true dB,.sl 0 0 true dB,.sl 0 0 true dB,.sl 0 0 true dB,.sl 0 0 true dB])),(2,some (.row 1 g1.2.2.2.2.2.2.length (aX iV 0 g1.2.2.2.2.2.2))),(3,some (.box [aC v1.1,aS g8.2.2.1,aC g8.2.2.2,.bP 4 0 g9.2.length false,aS v4.1,aS v5.1])),(4,some (.row 3 g9.2.length (aX gF bS g9.2)))],5⟩) [(2,some 4),(3,some 406),(4,none)] [] <|fun self9 g9 hm=>si hm (fun _ hm=>sn hm fun _ hm=>sn hm fun _ hm=>sn hm fun _ hm=>sn hm fun _ hm=>sn hm fun _ hm=>sb hm fun v8 hv8 hm=>cl (yS hv8)<|sn hm fun _ hm=>sn hm fun _ hm=>lc [(4,some 245)] [] hm) fun _ hm=>by cases hm;exact rt [4] []
end Go.Proofs.YtfblhejmclcdmaaGreatDoor

namespace Go.Ab
inductive Rz (α:Type) where
 | ok (a:α)
 | err (l:List Nat)
abbrev wQ:=FuncId→List AV→List aW→Rz (AV×List aW)
def evX (call:wQ) (H:Nat→Option aW):Pg→List Nat→Rz (AV×gI×List Nat)
 | .ret v ups,rds=>.ok (v,ups,rds)
 | @Pg.need _ d k,rds=>match d with
  | .isTrue _=>evX call H k rds
  | .isFalse _=>.err [1]
 | .rd o k,rds=>match H o with
  | some x=>evX call H (k x) (o::rds)
  | none=>.err [2,o]
 | .call f args obs k,rds=>match call f args obs with
  | .ok (r,obs')=>evX call H (k r obs') rds
  | .err l=>.err l
 | .fail,_=>.err [3]
def Po:List Bool→Nat→Bool
 | [],_=>false
 | b::_,0=>b
 | _::l,n+1=>Po l n
def isApp:Op→Bool
 | .call c=>match c.callee with
  | .builtin .append=>true
  | _=>false
 | _=>false
def Wp (op:Op) (ups:gI):List Nat:=match isApp op with
 | true=>[]
 | false=>go ups
 where go:gI→List Nat
 | []=>[]
 | (o,none)::l=>o::go l
 | (_,some _)::l=>go l
section
variable (cfg:mQ) (call:wQ)
end
section
variable {P:Program} {cfg:mQ} {cx:Ctx} {N:Nat} {Sp:jM} {call:wQ}
theorem XQ (hcall:∀f a o r o',call f a o=.ok (r,o')→Sp f a o r o') (H:Nat→Option aW):∀(pg:Pg) (rds:List Nat) (v:AV) (ups:gI) (rds':List Nat),evX call H pg rds=.ok (v,ups,rds')→(∀x∈rds,x∈rds')∧∃r,dh Sp H pg v ups r∧∀x∈r,x∈rds':=by
 intro pg;induction pg with
 | ret v0 ups0=>
  intro rds v ups rds' h;cases h;exact ⟨fun _ h=>h,[],.ret _ _,fun x hx=>by cases hx⟩
 | need p k ih=>
  intro rds v ups rds' h;unfold evX at h;split at h
  ·rename_i hp;obtain ⟨h1,r,h2,h3⟩:=ih rds v ups rds' h;exact ⟨h1,r,@dh.need Sp H p (.isTrue hp) k v ups r hp h2,h3⟩
  ·cases h
 | rd o k ih=>
  intro rds v ups rds' h;unfold evX at h;split at h
  ·rename_i x hx;obtain ⟨h1,r,h2,h3⟩:=ih x (o::rds) v ups rds' h;refine ⟨fun y hy=>h1 y (List.mem_cons_of_mem _ hy),o::r,.rd hx h2,fun y hy=>?_⟩;rcases List.mem_cons.1 hy with e | e
   ·subst e; exact h1 y (by simp)
   ·exact h3 y e
  ·cases h
 | call f args obs k ih=>
  intro rds v ups rds' h;unfold evX at h;split at h
  ·rename_i r obs' hc;obtain ⟨h1,r',h2,h3⟩:=ih r obs' rds v ups rds' h;exact ⟨h1,r',.call (hcall _ _ _ _ _ hc) h2,h3⟩
  ·cases h
 | fail=>intro rds v ups rds' h; cases h
end
end Go.Ab

namespace Go.Ab
def fN {β:Type} (a:Nat) (K:Nat→β):β:=match a with
 | 0=>K 0
 | n+1=>K (n+1)
def fI {β:Type} (a:Int) (K:Int→β):β:=match a with
 | .ofNat n=>fN n fun n=>K (.ofNat n)
 | .negSucc n=>fN n fun n=>K (.negSucc n)
theorem Gs {β:Type} (a:Nat) (K:Nat→β):fN a K=K a:=by cases a<;>rfl
theorem abr {β:Type} (a:Int) (K:Int→β):fI a K=K a:=by
 cases a<;>(unfold fI; simp only [Gs])
def Pp (h:AV→AV):Nat→(Nat→AV)→List AV→List AV
 | 0,_,acc=>acc
 | n+1,g,acc=>Pp h n g (h (g n)::acc)
def nV:Nat→AV→AV
 | 0,v=>v
 | f+1,v=>match v with
  | .sl es n fl g=>.sl es n fl (qw (Pp (nV f) n g []))
  | .agg cs=>.agg (cs.map (nV f))
  | .iT cs=>.iT (cs.map (nV f))
  | .ro cs=>.ro (cs.map (nV f))
  | .fn g cs=>.fn g (cs.map (nV f))
  | .undef=>.undef
  | .bool b=>.bool b
  | .int k n=>.int k n
  | .str s=>.str s
  | .ptr o i off=>.ptr o i off
  | .bP o i n fl=>.bP o i n fl
  | .nZ=>.nZ
  | .mref o=>.mref o
def cLs {β:Type} (h:AV→(AV→β)→β):List AV→(List AV→β)→β
 | [],K=>K []
 | v::l,K=>h v fun v=>cLs h l fun l=>K (v::l)
def Zm {β:Type} (h:AV→(AV→β)→β):Nat→(Nat→AV)→List AV→(List AV→β)→β
 | 0,_,acc,K=>K acc
 | n+1,g,acc,K=>h (g n) fun v=>Zm h n g (v::acc) K
def cV {β:Type}:Nat→AV→(AV→β)→β
 | 0,v,K=>K v
 | f+1,v,K=>match v with
  | .undef=>K .undef
  | .bool b=>match b with | true=>K (.bool true) | false=>K (.bool false)
  | .int k n=>fI n fun n=>K (.int k n)
  | .str s=>K (.str s)
  | .sl es n fl g=>fN n fun n=>Zm (cV f) n g [] fun l=>K (.sl es n fl (qw l))
  | .agg cs=>cLs (cV f) cs fun cs=>K (.agg cs)
  | .iT cs=>cLs (cV f) cs fun cs=>K (.iT cs)
  | .ro cs=>cLs (cV f) cs fun cs=>K (.ro cs)
  | .fn g cs=>cLs (cV f) cs fun cs=>K (.fn g cs)
  | .ptr o i off=>fN o fun o=>fN i fun i=>fN off fun off=>K (.ptr o i off)
  | .bP o i n fl=>fN o fun o=>fN i fun i=>fN n fun n=>K (.bP o i n fl)
  | .nZ=>K .nZ
  | .mref o=>fN o fun o=>K (.mref o)
theorem Rk {β:Type} {h:AV→(AV→β)→β} {p:AV→AV} (hp:∀v K,h v K=K (p v)):∀(l:List AV) (K:List AV→β),cLs h l K=K (l.map p):=by
 intro l;induction l with
 | nil=>intro K; rfl
 | cons v l ih=>intro K; unfold cLs; rw [hp,ih]; rfl
theorem Wq {β:Type} {h:AV→(AV→β)→β} {p:AV→AV} (hp:∀v K,h v K=K (p v)):∀(n:Nat) (g:Nat→AV) (acc:List AV) (K:List AV→β),Zm h n g acc K=K (Pp p n g acc):=by
 intro n;induction n with
 | zero=>intro g acc K; rfl
 | succ n ih=>intro g acc K; unfold Zm Pp; rw [hp,ih]
theorem acO {β:Type}:∀(f:Nat) (v:AV) (K:AV→β),cV f v K=K (nV f v):=by
 intro f;induction f with
 | zero=>intro v K; rfl
 | succ f ih=>
  intro v K;cases v with
  | bool b=>cases b<;>rfl
  | int k n=>unfold cV nV; simp only [abr]
  | sl es n fl g=>unfold cV nV; simp only [Gs,Wq ih]
  | agg cs=>unfold cV nV; simp only [Rk ih]
  | iT cs=>unfold cV nV; simp only [Rk ih]
  | ro cs=>unfold cV nV; simp only [Rk ih]
  | fn g cs=>unfold cV nV; simp only [Rk ih]
  | ptr o i off=>unfold cV nV; simp only [Gs]
  | bP o i n fl=>unfold cV nV; simp only [Gs]
  | mref o=>unfold cV nV; simp only [Gs]
  | _=>rfl
theorem TK (h:AV→AV):∀(n:Nat) (g:Nat→AV) (acc:List AV) (i:Nat),nth (Pp h n g acc) i=if i<n then h (g i) else nth acc (i - n):=by
 intro n;induction n with
 | zero=>intro g acc i; simp [Pp]
 | succ n ih=>
  intro g acc i;unfold Pp;rw [ih];by_cases h1:i<n
  ·rw [if_pos h1,if_pos (by omega)]
  ·rw [if_neg h1];by_cases h2:i=n
   ·subst h2; rw [if_pos (by omega),Nat.sub_self]; rfl
   ·rw [if_neg (by omega),show i - n=(i - (n+1))+1 by omega]; rfl
theorem Ws {p:AV→AV}:∀(l:List AV) (j:Nat),j<l.length→nth (l.map p) j=p (nth l j):=by
 intro l;induction l with
 | nil=>intro j h; cases h
 | cons v l ih=>intro j h; cases j with
  | zero=>rfl
  | succ j=>exact ih j (by simpa using h)
theorem abt:∀(f:Nat) (v:AV),Le v (nV f v):=by
 intro f;induction f with
 | zero=>intro v; exact .refl _
 | succ f ih=>
  intro v;have many:∀(cs:List AV) (j:Nat),j<cs.length→Le (nth cs j) (nth (cs.map (nV f)) j):=fun cs j hj=>by rw [Ws cs j hj]; exact ih _
  cases v with
  | sl es n fl g=>
   refine .sl rfl (fun _=>rfl) id fun i hi=>?_;unfold qw;rw [TK,if_pos hi];exact ih _
  | agg cs=>exact .agg (by simp) (many cs)
  | iT cs=>exact .iT (by simp) (many cs)
  | ro cs=>exact .ro (by simp) (many cs)
  | fn g cs=>exact .fn (by simp) (many cs)
  | _=>exact .refl _
def nO (f:Nat):aW→aW
 | .box cs=>.box (cs.map (nV f))
 | .row es n g=>.row es n (qw (Pp (nV f) n g []))
 | .map kd z h=>.map kd z h
theorem TL {α:Type} (t:Nat):∀(l m:List (Nat×α)),look (l++m) t=match look l t with | some x=>some x | none=>look m t:=by
 intro l;induction l with
 | nil=>intro m; rfl
 | cons p l ih=>
  intro m;obtain ⟨k,x⟩:=p;simp only [List.cons_append,look];cases Nat.beq k t with
  | true=>rfl
  | false=>exact ih m
theorem z8 {α:Type} {d:Nat}:∀ {l:List (Nat×α)},(∀p∈l,p.1≠d)→look l d=none:=by
 intro l;induction l with
 | nil=>intro _; rfl
 | cons p l ih=>
  intro h;obtain ⟨k,x⟩:=p;have:k≠d:=h (k,x) (by simp);simp only [look];cases hb:Nat.beq k d with
  | true=>exact absurd (Nat.eq_of_beq_eq_true hb) this
  | false=>exact ih fun q hq=>h q (List.mem_cons_of_mem _ hq)
section
variable {P:Program} {cfg:mQ} {cx:Ctx} {N:Nat}
theorem ab4 {w:World} {I:Nat→Prop} {O:OM} {D:Nat→Prop} {p:Own} (f:Nat) {x:aW} (h:dZ w I O D p x):dZ w I O D p (nO f x):=by
 cases x with
 | map=>exact h
 | box cs=>
  obtain ⟨h1,b,bo,sz,h2,h3,h4,h5⟩:=h;refine ⟨h1,b,bo,sz,h2,h3,by simpa using h4,fun j hj=>?_⟩;have hj':j<cs.length:=by simpa using hj
  rw [Ws cs j hj'];exact (abt f _).rep (h5 j hj')
 | row es n g=>
  refine LeO.rep (x:=.row es n g) ⟨rfl,rfl,fun i hi=>?_⟩ h;unfold qw;rw [TK,if_pos hi];exact abt f _
end
end Go.Ab

namespace Go.Ab
def Qg:Nat:=40
section
variable (cfg:mQ) (call:wQ)
end
section
variable {P:Program} {cfg:mQ} {cx:Ctx} {N:Nat} {call:wQ}
theorem Qh {r:Option Nat} {m:Nat} {c:Code} {s:St} {K:Exit→St→Prop} {M:Nat} (h:Good P cfg N r m c s (fun e s'=>match e with | .normal=>K5 P cfg N r m c K M s' | e=>K e s')):K5 P cfg N r m c K (M+1) s:=by
 refine ⟨fun n0 cx a w I O hS hrd=>?_⟩;rw [roundsIn_succ];refine wpIn_mono (h n0 cx a w I O hS hrd) ?_;intro e a' w' ⟨s',I',O',h1,h2⟩;cases e with
 | normal=>exact h1.ok n0 cx a' w' I' O' h2 hrd
 | exit id=>exact ⟨s',I',O',h1,h2⟩
 | goto l=>exact ⟨s',I',O',h1,h2⟩
 | ret=>exact ⟨s',I',O',h1,h2⟩
 | panic ch=>exact ⟨s',I',O',h1,h2⟩
 | outgrown=>exact ⟨s',I',O',h1,h2⟩
theorem Oa {r:Option Nat} {m:Nat} {c:Code} {s:St} {e0:Exit} {s0:St} (he:e0≠.normal) (h:Good P cfg N r m c s (fun e s'=>e=e0∧s'=s0)):K5 P cfg N r m c (fun e s'=>e=e0∧s'=s0) 1 s:=
 Qh (h.mono fun e s' hk=>by
  obtain ⟨rfl,rfl⟩:=hk;cases e with
  | normal=>exact absurd rfl he
  | _=>exact ⟨rfl,rfl⟩)
end
def abu:AV→List Nat
 | .ptr o _ _=>[o]
 | .bP o _ _ _=>[o]
 | .mref o=>[o]
 | .agg cs=>KN cs++mrefs cs
 | .fn _ cs=>KN cs++mrefs cs
 | .iT cs=>go cs
 | _=>[]
 where
 mrefs:List AV→List Nat
 | []=>[]
 | .mref o::l=>o::mrefs l
 | .fn _ cs::l=>KN cs++mrefs l
 | _::l=>mrefs l
 go:List AV→List Nat
 | []=>[]
 | .agg cs::l=>KN cs++mrefs cs++go l
 | .fn _ cs::l=>KN cs++mrefs cs++go l
 | v::l=>abe v++mrefs [v]++go l
def abv:aW→List Nat
 | .box cs=>KN cs++abu.mrefs cs
 | _=>[]
def Rl (H:gI):Nat→List Nat→List Nat→Option (List Nat)
 | 0,_,_=>none
 | _+1,[],sg=>some sg
 | f+1,o::todo,sg=>match qM o sg with
  | true=>Rl H f todo sg
  | false=>match hget H o with
   | some x=>Rl H f (abv x++todo) (sg++[o])
   | none=>Rl H f todo sg
def Vh (H:gI):List Nat→List Nat
 | []=>[]
 | o::l=>match hget H o with
  | some x=>abv x++Vh H l
  | none=>Vh H l
section
variable (H:gI) (sg:List Nat)
def rnO (o:Nat) (k:Nat→AV):AV:=match hget H o with
 | some x=>match iX x,rX sg o 0 with
  | false,some j=>k j
  | _,_=>.undef
 | none=>.undef
mutual
def rnV:Nat→AV→Option AV
 | 0,_=>none
 | f+1,u=>match u with
  | .ptr o i off=>some (rnO H sg o fun j=>.ptr j i off)
  | .bP o i n fl=>some (rnO H sg o fun j=>.bP j i n fl)
  | .mref o=>some (rnO H sg o fun j=>.mref j)
  | .agg cs=>match rnL f cs with | some cs'=>some (.agg cs') | none=>none
  | .fn g cs=>match rnL f cs with | some cs'=>some (.fn g cs') | none=>none
  | .iT cs=>match rnL f cs with | some cs'=>some (.iT cs') | none=>none
  | .undef=>some .undef
  | .bool b=>some (.bool b)
  | .int k n=>some (.int k n)
  | .str s=>some (.str s)
  | .sl es n fl g=>some (.sl es n fl g)
  | .ro cs=>some (.ro cs)
  | .nZ=>some .nZ
def rnL:Nat→List AV→Option (List AV)
 | 0,_=>none
 | _+1,[]=>some []
 | f+1,u::l=>match rnV f u with
  | some v=>match rnL f l with
   | some l'=>some (v::l')
   | none=>none
  | none=>none
end
def Zn:aW→Option aW
 | .box cs=>match rnL H sg fuel cs with
  | some cs'=>some (.box cs')
  | none=>none
 | .row es n g=>some (.row es n g)
 | .map kd z h=>some (.map kd z h)
def aa0:List Nat→Option (List aW)
 | []=>some []
 | o::l=>match aa0 l with
  | some ys=>match hget H o with
   | some x=>match iX x with
    | true=>some (Pt::ys)
    | false=>match Zn H sg x with
     | some y=>some (y::ys)
     | none=>none
   | none=>some (Pt::ys)
  | none=>none
end
def Gt:List Nat→Nat→List (Nat×Option Nat)
 | [],_=>[]
 | o::l,j=>(j,some o)::Gt l (j+1)
def Zo (cfg:mQ) (rs:List ResultVar) (m:Nat) (s:St):Rz (AV×List aW):=
 match vR cfg s rs with
 | none=>.err [9]
 | some vs=>match Rl s.heap 10000 (abu (oneOf vs)++Vh s.heap (upTo m 0)) (upTo m 0) with
  | none=>.err [10]
  | some sg=>match aa0 s.heap sg sg with
   | none=>.err [11]
   | some obs'=>match rnV s.heap sg fuel (oneOf vs) with
    | none=>.err [12]
    | some r=>match Qu m (Gt sg 0) ⟨[],yV obs' 0,obs'.length⟩,Nat.ble m obs'.length,jP sg with
     | true,true,true=>.ok (r,obs')
     | _,_,_=>.err [13]
theorem Vi:∀(sg:List Nat) (i j:Nat),look (Gt sg i) j=if i≤j∧j - i<sg.length then some (some (nthN sg (j - i))) else none:=by
 intro sg;induction sg with
 | nil=>intro i j; simp [Gt,look]
 | cons o l ih=>
  intro i j;unfold Gt;simp only [look];cases hb:Nat.beq i j with
  | true=>
   have:=Nat.eq_of_beq_eq_true hb;subst this;simp [nthN]
  | false=>
   have hne:i≠j:=fun e=>by subst e; simp at hb
   simp only;rw [ih];by_cases h:i+1≤j∧j - (i+1)<l.length
   ·rw [if_pos h,if_pos ⟨by omega,by simp; omega⟩,show j - i=(j - (i+1))+1 by omega];rfl
   ·rw [if_neg h,if_neg (by simp; omega)]
theorem aa1:∀(sg:List Nat) (o k j:Nat),rX sg o k=some j→k≤j∧j - k<sg.length∧nthN sg (j - k)=o:=by
 intro sg;induction sg with
 | nil=>intro o k j h; cases h
 | cons a l ih=>
  intro o k j h;unfold rX at h;split at h
  ·rename_i hb;cases h;exact ⟨Nat.le_refl _,by simp,by rw [Nat.sub_self]; exact Nat.eq_of_beq_eq_true hb⟩
  ·obtain ⟨h1,h2,h3⟩:=ih o (k+1) j h;refine ⟨by omega,by simp; omega,?_⟩;rw [show j - k=(j - (k+1))+1 by omega];exact h3
theorem XR {H:gI} {sg:List Nat}:∀(l:List Nat) (ys:List aW),aa0 H sg l=some ys→ys.length=l.length∧∀j,j<l.length→(∃x y,hget H (nthN l j)=some x∧iX x=false∧Zn H sg x=some y∧hof ys j=some y)∨((∀x,hget H (nthN l j)=some x→iX x=true)∧hof ys j=some Pt):=by
 intro l;induction l with
 | nil=>intro ys h; cases h; exact ⟨rfl,fun j hj=>by cases hj⟩
 | cons o l ih=>
  intro ys h;unfold aa0 at h;split at h
  ·rename_i zs hz;obtain ⟨h1,h2⟩:=ih zs hz;have step:∀y,ys=y::zs→((∃x y,hget H o=some x∧iX x=false∧Zn H sg x=some y∧hof ys 0=some y)∨((∀x,hget H o=some x→iX x=true)∧hof ys 0=some Pt))→ys.length=(o::l).length∧∀j,j<(o::l).length→(∃x y,hget H (nthN (o::l) j)=some x∧iX x=false∧Zn H sg x=some y∧hof ys j=some y)∨((∀x,hget H (nthN (o::l) j)=some x→iX x=true)∧hof ys j=some Pt):=by
    rintro y rfl h3;refine ⟨by simp [h1],fun j hj=>?_⟩;cases j with
    | zero=>exact h3
    | succ j=>exact h2 j (by simpa using hj)
   split at h
   ·rename_i x hx;split at h
    ·rename_i hg; cases h; exact step _ rfl (.inr ⟨fun x' e=>by rw [hx] at e; cases e; exact hg,rfl⟩)
    ·rename_i hg;split at h
     ·rename_i y hy; cases h; exact step _ rfl (.inl ⟨x,y,hx,hg,hy,rfl⟩)
     ·cases h
   ·rename_i hx; cases h; exact step _ rfl (.inr ⟨fun x' e=>(by rw [hx] at e; cases e),rfl⟩)
  ·cases h
theorem Vj {H:gI} {sg:List Nat} {x y:aW} (h:Zn H sg x=some y) (hg:iX x=false):iX y=false:=by
 cases x with
 | box cs=>
  simp only [Zn] at h;split at h
  ·cases h; rfl
  ·cases h
 | row es n g=>simp only [Zn] at h; cases h; rfl
 | map kd z f=>simp only [Zn] at h; cases h; exact hg
section
variable {H:gI} {sg:List Nat} {ρ:List (Nat×Option Nat)} {H':gI}
theorem Rm {f o:Nat} {k:Nat→AV} {u:AV} (hl:∀o j x,hget H o=some x→iX x=false→rX sg o 0=some j→CU H' j=true∧jN ρ j=some o) (hk:∀j,CU H' j=true→jN ρ j=some o→fF ρ H' (f+1) u (k j)):fF ρ H' (f+1) u (rnO H sg o k):=by
 unfold rnO;split
 ·rename_i x hx;split
  ·rename_i j hg hj;obtain ⟨h1,h2⟩:=hl o j x hx hg hj;exact hk j h1 h2
  ·unfold fF; trivial
 ·unfold fF; trivial
theorem Zp (hl:∀o j x,hget H o=some x→iX x=false→rX sg o 0=some j→CU H' j=true∧jN ρ j=some o):∀(f:Nat),(∀u v,rnV H sg f u=some v→fF ρ H' f u v)∧(∀l m,rnL H sg f l=some m→fF.embL ρ H' f l m):=by
 intro f;induction f with
 | zero=>exact ⟨fun u v h=>(by simp [rnV] at h),fun l m h=>(by simp [rnL] at h)⟩
 | succ f ih=>
  obtain ⟨ih1,ih2⟩:=ih;refine ⟨fun u v h=>?_,fun l m h=>?_⟩
  ·unfold rnV at h;cases u with
   | ptr o i off=>cases h; exact Rm hl fun j h1 h2=>by unfold fF; exact ⟨h1,h2,rfl,rfl⟩
   | bP o i n fl=>cases h; exact Rm hl fun j h1 h2=>by unfold fF; exact ⟨h1,h2,rfl,rfl,id⟩
   | mref o=>cases h; exact Rm hl fun j h1 h2=>by unfold fF; exact ⟨h1,h2⟩
   | agg cs=>
    simp only at h;split at h
    ·rename_i cs' hcs; cases h; unfold fF; exact ih2 _ _ hcs
    ·cases h
   | fn g cs=>
    simp only at h;split at h
    ·rename_i cs' hcs; cases h; unfold fF; exact ⟨rfl,ih2 _ _ hcs⟩
    ·cases h
   | iT cs=>
    simp only at h;split at h
    ·rename_i cs' hcs; cases h; unfold fF; exact ih2 _ _ hcs
    ·cases h
   | undef=>cases h; unfold fF; trivial
   | bool b=>cases h; unfold fF; rfl
   | int k n=>cases h; unfold fF; exact ⟨rfl,rfl⟩
   | str s=>cases h; unfold fF; rfl
   | sl es n fl g=>cases h; unfold fF; exact ⟨rfl,fun _=>rfl,id,fun _ _=>.refl _⟩
   | ro cs=>cases h; unfold fF; exact Jy.refl _
   | nZ=>cases h; unfold fF; trivial
  ·cases l with
   | nil=>unfold rnL at h; cases h; unfold fF.embL; trivial
   | cons u l=>
    unfold rnL at h;split at h
    ·rename_i v hv;split at h
     ·rename_i l' hl'; cases h; unfold fF.embL; exact ⟨ih1 _ _ hv,ih2 _ _ hl'⟩
     ·cases h
    ·cases h
end
theorem Zq {ρ:List (Nat×Option Nat)} {H' H:gI}:∀(obs:List aW) (i:Nat),(∀j y,hof obs j=some y→iX y=false→∃o x,jN ρ (i+j)=some o∧hget H o=some x∧Qt ρ H' x y)→Uh ρ H' H (yV obs i):=by
 intro obs;induction obs with
 | nil=>intro i _; unfold yV; unfold Uh; trivial
 | cons y obs ih=>
  intro i h;have hrest:=ih (i+1) fun j z hz hg=>by
   have:=h (j+1) z hz hg;rwa [show i+(j+1)=i+1+j by omega] at this
  unfold yV;cases hg:iX y with
  | true=>unfold gz; rw [hg]; exact hrest
  | false=>
   unfold gz;rw [hg];obtain ⟨o,x,h1,h2,h3⟩:=h 0 y rfl hg;rw [Nat.add_zero] at h1;refine ⟨?_,hrest⟩;rw [h1];simp only;rw [h2];exact h3
theorem aa2 {l:List aW} {j:Nat} {y:aW} (h:hof l j=some y) (hg:iX y=false):uG l j=some y:=by
 induction l generalizing j with
 | nil=>cases h
 | cons z l ih=>
  cases j with
  | zero=>cases h; simp only [uG,gz,hg]
  | succ j=>exact ih h
theorem Vk {cfg:mQ} {rs:List ResultVar} {m:Nat} {s:St} {r:AV} {obs':List aW} {e:Exit} (he:e=.normal∨e=.ret) (h:Zo cfg rs m s=.ok (r,obs')):m≤obs'.length∧UU cfg rs m r obs' e s:=by
 unfold Zo at h;split at h
 ·cases h
 rename_i vs hvs;split at h
 ·cases h
 rename_i sg hsg;split at h
 ·cases h
 rename_i ob2 hob;split at h
 ·cases h
 rename_i r2 hr;split at h
 ·rename_i hchk hm hnd;cases h;obtain ⟨h1,h2⟩:=XR _ _ hob;have hren:∀j,j<sg.length→jN (Gt sg 0) j=some (nthN sg j):=fun j hj=>by
   unfold jN;rw [Vi,if_pos ⟨Nat.zero_le _,by simpa using hj⟩];simp
  have hl:∀o j x,hget s.heap o=some x→iX x=false→rX sg o 0=some j→CU (yV obs' 0) j=true∧jN (Gt sg 0) j=some o:=by
   intro o j x hx hg hj;obtain ⟨_,h3,h4⟩:=aa1 _ _ _ _ hj;simp only [Nat.sub_zero] at h3 h4;refine ⟨?_,by rw [hren j h3,h4]⟩;rw [JK,M6];rcases h2 j h3 with ⟨x',y,h5,h6,h7,h8⟩ | ⟨h5,_⟩
   ·exact ⟨y,aa2 h8 (Vj h7 h6)⟩
   ·rw [h4] at h5;rw [h5 x hx] at hg;cases hg
  refine ⟨Nat.le_of_ble_eq_true hm,?_⟩;have main:∃fz ρ,match KZ fz s with
   | s'=>match vR cfg s' rs with
    | some vs=>WH m ρ s' ⟨[],yV obs' 0,obs'.length⟩∧fF ρ (yV obs' 0) fuel (oneOf vs) r
    | none=>False:=by
   refine ⟨[],Gt sg 0,?_⟩
   show match vR cfg s rs with
    | some vs=>WH m (Gt sg 0) s ⟨[],yV obs' 0,obs'.length⟩∧fF (Gt sg 0) (yV obs' 0) fuel (oneOf vs) r
    | none=>False
   rw [hvs]
   refine ⟨⟨hchk,trivial,?_⟩,(Zp hl fuel).1 _ _ hr⟩
   refine Zq _ _ fun j y hy hg=>?_
   have hj:j<sg.length:=by
    rw [← h1]
    rcases Nat.lt_or_ge j obs'.length with h | h
    ·exact h
    ·rw [hof_none _ _ h] at hy; cases hy
   rcases h2 j hj with ⟨x,y',h5,h6,h7,h8⟩ | ⟨_,h6⟩
   ·rw [hy] at h8
    cases h8
    refine ⟨_,x,by rw [Nat.zero_add]; exact hren j hj,h5,?_⟩
    cases x with
    | box cs=>
     simp only [Zn] at h7
     split at h7
     ·rename_i cs' hcs; cases h7; exact (Zp hl fuel).2 _ _ hcs
     ·cases h7
    | row es n g=>simp only [Zn] at h7; cases h7; exact ⟨rfl,rfl,fun _ _=>.refl _⟩
    | map kd z f=>simp only [Zn] at h7; cases h7; exact ⟨rfl,rfl,rfl⟩
   ·rw [hy] at h6
    cases h6
    cases hg
  unfold UU;rcases he with rfl | rfl<;>exact main
 ·cases h
end Go.Ab

namespace Go.Ab
inductive kR (α:Type) where
 | leaf
 | node (v:Option α) (l r:kR α)
namespace kR
abbrev half (n:Nat):Nat:=Nat.div n 2
abbrev even (n:Nat):Bool:=Nat.beq (Nat.mod n 2) 0
noncomputable def get {α:Type} (t:kR α):Nat→Option α:=
 kR.rec (motive:=fun _=>Nat→Option α) (fun _=>none) (fun v _ _ gl gr k=>Nat.rec v (fun k' _=>Bool.rec (gr (half k')) (gl (half k')) (even k')) k) t
theorem wR {α:Type} (k:Nat):get (.leaf:kR α) k=none:=rfl
theorem Ob {α:Type} (v:Option α) (l r:kR α):get (.node v l r) 0=v:=rfl
theorem kr {α:Type} (v:Option α) (l r:kR α) (k:Nat):get (.node v l r) (k+1)=if even k=true then get l (half k) else get r (half k):=by
 show Bool.rec (motive:=fun _=>Option α) (get r (half k)) (get l (half k)) (even k)=_;cases even k<;>rfl
noncomputable def set {α:Type} (x:Option α) (f:Nat):kR α→Nat→kR α:=
 Nat.rec (motive:=fun _=>kR α→Nat→kR α) (fun t _=>t)
  (fun _ ih t k=>kR.rec (motive:=fun _=>kR α)
    (Nat.rec (.node x .leaf .leaf) (fun k' _=>Bool.rec (.node none .leaf (ih .leaf (half k'))) (.node none (ih .leaf (half k')) .leaf) (even k')) k)
    (fun v l r _ _=>Nat.rec (.node x l r) (fun k' _=>Bool.rec (.node v l (ih r (half k'))) (.node v (ih l (half k')) r) (even k')) k) t) f
theorem TM {α:Type} (x:Option α) (f:Nat) (t:kR α):set x (f+1) t 0=match t with | .leaf=>.node x .leaf .leaf | .node _ l r=>.node x l r:=by cases t<;>rfl
theorem Zr {α:Type} (x:Option α) (f:Nat) (t:kR α) (k:Nat):set x (f+1) t (k+1)=match t with
  | .leaf=>if even k=true then .node none (set x f .leaf (half k)) .leaf else .node none .leaf (set x f .leaf (half k))
  | .node v l r=>if even k=true then .node v (set x f l (half k)) r else .node v l (set x f r (half k)):=by
 cases t with
 | leaf=>
  show Bool.rec (motive:=fun _=>kR α) _ _ (even k)=_;cases even k<;>rfl
 | node v l r=>
  show Bool.rec (motive:=fun _=>kR α) _ _ (even k)=_;cases even k<;>rfl
theorem aa3 (k f:Nat) (h:k+1<2 ^ (f+1)):half k<2 ^ f:=by
 show k / 2<2 ^ f;rw [Nat.pow_succ] at h;omega
theorem Zt {j k:Nat} (h:half j=half k) (he:even j=even k):j=k:=by
 have h:j / 2=k / 2:=h;have e:∀n,even n=true↔n % 2=0:=fun n=>by show Nat.beq (n % 2) 0=true↔_; simp
 have:=(e j).symm.trans ((by rw [he]:even j=true↔even k=true).trans (e k));omega
theorem Jt {α:Type} (x:Option α):∀(f:Nat) (t:kR α) (k j:Nat),k<2 ^ f→get (set x (f+1) t k) j=if j=k then x else get t j:=by
 intro f;induction f with
 | zero=>
  intro t k j hk;have:k=0:=by simpa using hk
  subst this;rw [TM];cases t with
  | leaf=>
   cases j with
   | zero=>rfl
   | succ j=>rw [kr]; simp [wR]
  | node v l r=>
   cases j with
   | zero=>rfl
   | succ j=>rw [kr,kr]; simp
 | succ f ih=>
  intro t k j hk;cases k with
  | zero=>
   rw [TM];cases t with
   | leaf=>
    cases j with
    | zero=>rfl
    | succ j=>rw [kr]; simp [wR]
   | node v l r=>
    cases j with
    | zero=>rfl
    | succ j=>rw [kr,kr]; simp
  | succ k=>
   have hh:=aa3 k f (by rw [Nat.pow_succ] at hk ⊢; omega);have hne:∀j,(j+1=k+1)=(half j=half k∧even j=even k):=fun j=>propext ⟨fun h=>by rw [Nat.succ.inj h]; exact ⟨rfl,rfl⟩,fun h=>by rw [Zt h.1 h.2]⟩;rw [Zr];cases t with
   | leaf=>
    cases j with
    | zero=>cases even k<;>simp [Ob,wR]
    | succ j=>
     simp only [hne];cases hek:even k with
     | true=>
      simp only [if_true];rw [kr];cases hej:even j with
      | true=>simp only [if_true]; rw [ih _ _ _ hh]; simp [wR]
      | false=>simp [wR]
     | false=>
      simp only [Bool.false_eq_true,if_false];rw [kr];cases hej:even j with
      | true=>simp [wR]
      | false=>simp only [Bool.false_eq_true,if_false]; rw [ih _ _ _ hh]; simp [wR]
   | node v l r=>
    cases j with
    | zero=>cases even k<;>simp [Ob]
    | succ j=>
     simp only [hne];cases hek:even k with
     | true=>
      simp only [if_true];rw [kr,kr];cases hej:even j with
      | true=>simp only [if_true]; rw [ih _ _ _ hh]; simp
      | false=>simp
     | false=>
      simp only [Bool.false_eq_true,if_false];rw [kr,kr];cases hej:even j with
      | true=>simp
      | false=>simp only [Bool.false_eq_true,if_false]; rw [ih _ _ _ hh]; simp
noncomputable def TN {α:Type} (t:kR α):Nat→Nat→List (Nat×α):=
 kR.rec (motive:=fun _=>Nat→Nat→List (Nat×α)) (fun _ _=>[]) (fun v _ _ gl gr a b=>(match v with | some x=>[(b,x)] | none=>[])++(gl (2*a) (a+b)++gr (2*a) (2*a+b))) t
theorem TP {α:Type} (v:Option α) (l r:kR α) (a b:Nat):TN (.node v l r) a b=(match v with | some x=>[(b,x)] | none=>[])++(TN l (2*a) (a+b)++TN r (2*a) (2*a+b)):=rfl
theorem Ju {α:Type}:∀(t:kR α) (a b:Nat),∀p∈TN t a b,∃k,p.1=a*k+b:=by
 intro t;induction t with
 | leaf=>intro a b p h; cases h
 | node v l r ihl ihr=>
  intro a b p h;rw [TP] at h;rcases List.mem_append.1 h with h | h
  ·cases v with
   | none=>cases h
   | some x=>simp at h; subst h; exact ⟨0,by simp⟩
  ·rcases List.mem_append.1 h with h | h
   ·obtain ⟨k,hk⟩:=ihl _ _ p h;exact ⟨2*k+1,by rw [hk,Nat.mul_add,Nat.mul_one,show a*(2*k)=2*a*k by rw [← Nat.mul_assoc,Nat.mul_comm a 2]]; omega⟩
   ·obtain ⟨k,hk⟩:=ihr _ _ p h;exact ⟨2*k+2,by rw [hk,Nat.mul_add,show a*(2*k)=2*a*k by rw [← Nat.mul_assoc,Nat.mul_comm a 2],Nat.mul_comm a 2]; omega⟩
theorem TQ {α:Type}:∀(t:kR α) (a b k:Nat),0<a→look (TN t a b) (a*k+b)=get t k:=by
 intro t;induction t with
 | leaf=>intro a b k _; rfl
 | node v l r ihl ihr=>
  intro a b k ha;rw [TP,TL,TL];have inj:∀x y,a*x+b=a*y+b→x=y:=fun x y h=>Nat.eq_of_mul_eq_mul_left ha (by omega);have el:∀k',2*a*k'+(a+b)=a*(2*k'+1)+b:=fun k'=>by rw [Nat.mul_add,Nat.mul_one,show a*(2*k')=2*a*k' by rw [← Nat.mul_assoc,Nat.mul_comm a 2]]; omega
  have er:∀k',2*a*k'+(2*a+b)=a*(2*k'+2)+b:=fun k'=>by rw [Nat.mul_add,show a*(2*k')=2*a*k' by rw [← Nat.mul_assoc,Nat.mul_comm a 2],Nat.mul_comm a 2]; omega
  cases k with
  | zero=>
   rw [Ob];have nl:look (TN l (2*a) (a+b)) (a*0+b)=none:=z8 fun p hp=>by
    obtain ⟨k',hk'⟩:=Ju _ _ _ p hp;rw [hk',el];intro h;have:=inj _ _ h;omega
   have nr:look (TN r (2*a) (2*a+b)) (a*0+b)=none:=z8 fun p hp=>by
    obtain ⟨k',hk'⟩:=Ju _ _ _ p hp;rw [hk',er];intro h;have:=inj _ _ h;omega
   rw [nl,nr];cases v with
   | none=>rfl
   | some x=>simp [look]
  | succ k=>
   have nv:look (match v with | some x=>[(b,x)] | none=>[]) (a*(k+1)+b)=none:=by
    cases v with
    | none=>rfl
    | some x=>
     refine z8 fun p hp=>?_;simp at hp;subst hp;intro h;have h:b=a*(k+1)+b:=h;rw [Nat.mul_add] at h;omega
   rw [nv,kr];simp only;have e2:even k=true↔k % 2=0:=by show Nat.beq (k % 2) 0=true↔_; simp
   cases he:even k with
   | true=>
    have hk:k+1=2*half k+1:=by have:=e2.1 he; show k+1=2*(k / 2)+1; omega
    simp only [if_true];have h1:=ihl (2*a) (a+b) (half k) (by omega);rw [el,← hk] at h1;rw [h1];cases get l (half k) with
    | some x=>rfl
    | none=>
     refine z8 fun p hp=>?_;obtain ⟨k',hk'⟩:=Ju _ _ _ p hp;rw [hk',er];intro h;have:=inj _ _ h;have:=e2.1 he;omega
   | false=>
    have hne:¬ k % 2=0:=fun h=>by rw [e2.2 h] at he; cases he
    have hk:k+1=2*half k+2:=by show k+1=2*(k / 2)+2; omega
    simp only [Bool.false_eq_true,if_false];have h1:=ihr (2*a) (2*a+b) (half k) (by omega);rw [er,← hk] at h1;have nl:look (TN l (2*a) (a+b)) (a*(k+1)+b)=none:=z8 fun p hp=>by
     obtain ⟨k',hk'⟩:=Ju _ _ _ p hp;rw [hk',el];intro h;have:=inj _ _ h;omega
    rw [nl,h1]
theorem Fp {α:Type} (t:kR α) (k:Nat):look (TN t 1 0) k=get t k:=by
 have:=TQ t 1 0 k (by omega);simpa using this
end kR
end Go.Ab

namespace Go.Ab
set_option linter.unusedSimpArgs false
structure KX where
 ty:kR yT
 eqs:List (Nat×List ZK):=[]
 fns:kR FnI
 glob:List (Nat×List AV):=[]
noncomputable def KX.cfg (x:KX):mQ:=⟨x.ty.TN 1 0,x.eqs,x.fns.TN 1 0,x.glob⟩
section
variable (x:KX)
noncomputable def Ol (t:TypeId) (k:yT→Pg):Pg:=match x.ty.get t with | some i=>k i | none=>.fail
noncomputable def Aa (t:TypeId) (k:yT→Pg):Pg:=match x.ty.get t with
 | some i=>match i.desc with
  | .slice e=>Ol x e k
  | _=>.fail
 | none=>.fail
noncomputable def aa4 (t:TypeId):Option (Nat×TypeId):=match x.ty.get t with
 | some i=>CP i.desc
 | none=>none
noncomputable def Zu (t:TypeId) (k:yT→yT→Pg):Pg:=match x.ty.get t with
 | some i=>match i.desc with
  | .map kt et=>Ol x kt fun ki=>Ol x et fun ei=>bN (!ei.agg) (k ki ei)
  | _=>.fail
 | none=>.fail
noncomputable def fnX (f:FuncId):FnI:=match x.fns.get f with | some i=>i | none=>{}
theorem Mi (t:Nat):look x.cfg.ty t=x.ty.get t:=kR.Fp _ _
theorem EF (t:TypeId) (k:yT→Pg):Ol x t k=Lc x.cfg t k:=by unfold Ol Lc; rw [Mi]; cases x.ty.get t<;>rfl
theorem Jv (t:TypeId) (k:yT→Pg):Aa x t k=um x.cfg t k:=by
 unfold Aa um;rw [Mi];cases x.ty.get t with
 | none=>rfl
 | some i=>simp only [EF]; cases i.desc<;>rfl
theorem Rn (t:TypeId):aa4 x t=Rv x.cfg t:=by unfold aa4 Rv; rw [Mi]; cases x.ty.get t<;>rfl
theorem Mj (t:TypeId) (k:yT→yT→Pg):Zu x t k=Uf x.cfg t k:=by
 unfold Zu Uf;rw [Mi];cases x.ty.get t with
 | none=>rfl
 | some i=>simp only [EF]; cases i.desc<;>rfl
theorem ab5 (f:FuncId):fnX x f=Rt x.cfg f:=by
 unfold fnX Rt;rw [show look x.cfg.fns f=x.fns.get f from kR.Fp _ _];cases x.fns.get f<;>rfl
noncomputable def Wt (fs:List (Nat×Nat)):List (Nat×AV)→List AV→(List AV→Pg)→Pg
 | [],cs,k=>k cs
 | (i,v)::rest,cs,k=>match Ld fs i with
  | some (off,t)=>Ol x t fun ti=>qL v fun vs=>bN (Nat.beq vs.length ti.size) (bN (Nat.ble (off+vs.length) cs.length) (Wt fs rest (vN off vs cs) k))
  | none=>.fail
theorem TR (fs:List (Nat×Nat)):∀(ps:List (Nat×AV)) (cs:List AV) (k:List AV→Pg),Wt x fs ps cs k=Pq x.cfg fs ps cs k:=by
 intro ps;induction ps with
 | nil=>intro cs k; rfl
 | cons p ps ih=>intro cs k; obtain ⟨i,v⟩:=p; unfold Wt Pq; simp only [EF,ih]; cases Ld fs i<;>rfl
section
variable (ρ:Operand→AV)
noncomputable def Vl (nid:Nat) (e:TypeId):Pg:=Ol x e fun ti=>match CP ti.desc with
  | some (n,et)=>Ol x et fun ei=>bN (WC ei) (bN (Nat.blt 0 n) (bN (decide (ti.zero=Rw n ei.zero)) (.ret (.ptr nid 0 0) [(nid,some (.row ei.size n (fun _=>zeroOf ei)))])))
  | none=>.ret (.ptr nid 0 0) [(nid,some (.box (rW ti.zero)))]
def ab6 (nid:Nat) (v:AV):Pg:=qL v fun cs=>.ret (.ptr nid 0 0) [(nid,some (.box cs))]
noncomputable def Vm (t:TypeId) (parts:List (Nat×Operand)):Pg:=Ol x t fun ti=>match ti.desc with
  | .struct fs=>Wt x fs (parts.map fun p=>(p.1,ρ p.2)) (rW ti.zero) fun cs=>dW (.agg cs)
  | _=>.fail
noncomputable def EG (nid:Nat) (t:TypeId) (len:Nat) (parts:List (Nat×Operand)):Pg:=Aa x t fun ti=>bN (WC ti) (bN (Nat.ble (len*ti.size) 4096) (CG (parts.map fun p=>(p.1,ρ p.2)) fun ps ids=>
   Rs ti.size ti.agg ps (Uc len (zeroOf ti)) fun es=>
   .ret (.bP nid 0 len true) ((nid,some (.row ti.size len (qw es)))::dead ids)))
noncomputable def Zv (t:TypeId) (a:AV):Pg:=Ol x t fun ti=>match a with
  | .ptr o i off=>.rd o fun
   | .box cs=>lJ ti (cs.drop off)
   | .row es n g=>match CP ti.desc with
    | some _=>bN (Jw i&&Jw off) (lJ ti (gY n 0 g))
    | none=>bN (Nat.ble (off+ti.size) es) (lJ ti ((g i).cells.drop off))
   | .map .. => .fail
  | .ro cs=>lJ ti cs
  | _=>.fail
def KH (ti:yT) (o i off es n:Nat) (g:Nat→AV) (v:AV):Pg:=match CP ti.desc with
    | some _=>Om fuel v fun x' ids=>bN (!qM o ids) (qL x' fun vs=>bN (Nat.beq vs.length ti.size) (bN (Nat.beq es 1) (bN (Nat.beq n ti.size) (bN (Jw i&&Jw off) (.ret .undef ((o,some (.row 1 n (qw vs)))::dead ids))))))
    | none=>Om fuel v fun x' ids=>bN (!qM o ids) (qL x' fun vs=>bN (Nat.beq vs.length ti.size) (bN (Nat.blt 0 ti.size) (bN (Nat.ble (off+vs.length) es)
     (.ret .undef ((o,some (.row es n (Ql g i (match Jw off&&Nat.beq vs.length es with
       | true=>x'
       | false=>match g i with
        | .agg cs=>.agg (vN off vs cs)
        | _=>x'))))::dead ids)))))
noncomputable def Vn (t:TypeId) (a v:AV):Pg:=Ol x t fun ti=>match a with
  | .ptr o i off=>.rd o fun
   | .box cs=>qL v fun vs=>bN (Nat.beq vs.length ti.size) (bN (Nat.ble (off+vs.length) cs.length) (.ret .undef [(o,some (.box (vN off vs cs)))]))
   | .row es n g=>KH ti o i off es n g v
   | .map .. => .fail
  | _=>.fail
def ab7 (v:AV):Pg:=match v with
  | .ptr o i off=>.rd o fun _=>dW (.ptr o i off)
  | .ro cs=>dW (.ro cs)
  | .fn f cs=>dW (.fn f cs)
  | _=>.fail
def Wu (op:BinOp) (k:IntKind) (a b:Int):Pg:=match EK op with
  | true=>match og k .i64 with
   | true=>arith op a b
   | false=>Ub k op a b
  | false=>match op with
   | .and=>dW (.int k (abB k a b))
   | .shr=>iU (0≤b) (.int k (abC k a b))
   | _=>abA op a b
noncomputable def TS (op:BinOp) (t:TypeId) (a b:Bool):Pg:=Ol x t fun ti=>match ti.desc,op with
  | .bool,.eql=>dW (.bool (a==b))
  | .bool,.neq=>dW (.bool (!(a==b)))
  | _,_=>.fail
def Wv (op:BinOp) (t:TypeId) (cs cs':List AV):Pg:=match look x.eqs t with
  | some zs=>match HV zs cs cs',op with
   | some r,.eql=>dW (.bool r)
   | some r,.neq=>dW (.bool (!r))
   | _,_=>.fail
  | none=>.fail
noncomputable def acR (op:BinOp) (t:TypeId) (u v:AV):Pg:=match u,v with
 | .int k a,.int k' b=>bN (og k k') (Wu op k a b)
 | .bool a,.bool b=>TS x op t a b
 | .str a,.str b=>X4 op a b
 | .agg cs,.agg cs'=>Wv x op t cs cs'
 | _,_=>.fail
def xUn (op:UnOp) (v:AV):Pg:=match op,v with
  | .not,.bool b=>dW (.bool (!b))
  | .neg,.int k n=>bN (og k .i64) (iU (InI64 (-n)) (.int .i64 (-n)))
  | _,_=>.fail
noncomputable def Oc (src:TypeId) (v:AV):Pg:=Aa x src fun ei=>bN (u8D ei.desc) (HY v fun es n g=>bN (Co es n 1) (.need (∀i,i<n→ZW (g i)=true) (dW (.str (yB n 0 g ByteArray.empty)))))
noncomputable def Zw (src dst:TypeId) (v:AV):Pg:=Ol x src fun _=>Ol x dst fun ti=>match ZV ti.desc with
  | true=>Oc x src v
  | false=>match ti.desc,v with
   | .int k,.int _ n=>dW (.int k (k.wrap n))
   | _,_=>.fail
def KI (fn:Fn) (first:List Operand) (captured:List Operand):Pg:=match fn,first with
  | .func f,[]=>dW (.fn f (captured.map ρ))
  | _,_=>.fail
noncomputable def Hr (nid:Nat) (t:TypeId) (l c:Operand):Pg:=Aa x t fun ti=>match ρ l with
  | .int _ n=>bN (wY (some l) (some c)) (bN (Nat.blt 0 ti.bytes) (bN (WC ti) (.need (0≤n∧n*ti.bytes≤big) (.ret (.bP nid 0 n.toNat true) [(nid,some (.row ti.size n.toNat (fun _=>zeroOf ti)))]))))
  | _=>.fail
noncomputable def Qi (n:Nat) (et:TypeId) (v:AV) (lo hi mx:Option Operand):Pg:=Ol x et fun ei=>bN mx.isNone (match v with
   | .ptr o i off=>.rd o fun
    | .row es n' _=>bN (Jw i&&Jw off) (bN (Nat.beq es ei.size) (bN (Nat.beq n' n) (VN o n (lo.map ρ) (hi.map ρ))))
    | _=>.fail
   | _=>.fail)
noncomputable def Qj (t:TypeId) (o i n:Nat) (f:Bool) (lo hi mx:Option Operand):Pg:=Aa x t fun ti=>.rd o fun
   | .row es N _=>bN (Nat.beq es ti.size) (VG o i n N f (lo.map ρ) (hi.map ρ) (mx.map ρ))
   | _=>.fail
noncomputable def Od (t:TypeId) (v:AV) (lo hi mx:Option Operand):Pg:=Ud ρ hi mx<|Aa x t fun ti=>match v with
   | .sl es n f g=>bN (Co es n ti.size) (EL (.sl es n f g) (lo.map ρ) (hi.map ρ) mx.isSome mx.isSome)
   | .bP o i n f=>.rd o fun
    | .row es _ _=>bN (Nat.beq es ti.size) (EL (.bP o i n f) (lo.map ρ) (hi.map ρ) mx.isSome mx.isSome)
    | _=>.fail
   | _=>.fail
noncomputable def Zx (t:TypeId) (v:AV) (lo hi mx:Option Operand):Pg:=match aa4 x t with
  | some (n,et)=>Qi x ρ n et v lo hi mx
  | none=>match v with
   | .bP o i n f=>Qj x ρ t o i n f lo hi mx
   | v=>Od x ρ t v lo hi mx
noncomputable def Ht (s:TypeId) (v:AV) (f:Nat):Pg:=Ol x s fun ts=>match wX ts f with
  | some (o,t)=>Ol x t fun ti=>bN (Nat.blt 0 ti.size) (match v with
   | .ptr ob i off=>.rd ob fun _=>dW (.ptr ob i (off+o))
   | .ro cs=>dW (.ro (cs.drop o))
   | _=>.fail)
  | none=>.fail
noncomputable def Vo (s:TypeId) (v:AV) (f:Nat):Pg:=Ol x s fun ts=>match wX ts f with
  | some (o,t)=>Ol x t fun ti=>match v with
   | .agg cs=>lJ ti (cs.drop o)
   | _=>.fail
  | none=>.fail
noncomputable def Vp (n:Nat) (et:TypeId) (v ix:AV):Pg:=Ol x et fun ei=>match ix,v with
   | .int _ i,.ptr o j off=>.rd o fun
    | .row es n' _=>bN (Jw j&&Jw off) (bN (Nat.beq es ei.size) (bN (Nat.beq n' n) (iU (0≤i∧i<n) (.ptr o i.toNat 0))))
    | _=>.fail
   | _,_=>.fail
noncomputable def Zy (t:TypeId) (v ix:AV):Pg:=Aa x t fun ti=>match ix with
  | .int _ i=>match v with
   | .sl es n _ g=>bN (Co es n ti.size) (iU (0≤i∧i<n) (.ro (g i.toNat).cells))
   | .bP o j n _=>.rd o fun
    | .row es _ _=>bN (Nat.beq es ti.size) (iU (0≤i∧i<n) (.ptr o (addN j i.toNat) 0))
    | _=>.fail
   | _=>.fail
  | _=>.fail
noncomputable def Hu (t:TypeId) (v ix:AV):Pg:=match aa4 x t with
  | some (n,et)=>Vp x n et v ix
  | none=>Zy x t v ix
noncomputable def Vq (t:TypeId) (v ix:AV):Pg:=Ol x t fun ti=>match ti.desc,v,ix with
  | .str,.str b,.int _ i=>iU (0≤i∧i<b.size) (.int .u8 (gG b i.toNat))
  | _,_,_=>.fail
noncomputable def TT (nid:Nat) (t:TypeId) (r:Option Operand):Pg:=match r with
 | none=>Zu x t fun ki ei=>.ret (.mref nid) [(nid,some (.map ki.desc ei.zero fun _=>none))]
 | some _=>.fail
noncomputable def Ww (t:TypeId) (v ix:AV) (ok:Bool):Pg:=match ok with
 | false=>Zu x t fun ki ei=>match v,keyOf ix with
  | .mref o,some k=>bN (uF ki.desc k) (.rd o fun
   | .map kd z f=>bN (decide (kd=ki.desc)) (bN (decide (z=ei.zero)) (bN (JA z) (dW (abD z (wT f k)))))
   | _=>.fail)
  | _,_=>.fail
 | true=>.fail
noncomputable def Hw (t:TypeId) (v ix y:AV):Pg:=Zu x t fun ki ei=>match v,keyOf ix,ZU ei.zero y with
  | .mref o,some k,some n=>bN (uF ki.desc k) (.rd o fun
   | .map kd z f=>bN (decide (kd=ki.desc)) (bN (decide (z=ei.zero)) (bN (JA z) (.ret .undef [(o,some (.map kd z (HZ f k n)))])))
   | _=>.fail)
  | _,_,_=>.fail
def Oe (v:AV) (i:Nat):Pg:=match v with
  | .iT vs=>bN (Nat.blt i vs.length) (dW (nth vs i))
  | _=>.fail
noncomputable def acS (vs:List AV) (ts:List TypeId):Pg:=match vs,ts with
   | [v],[t]=>Ol x t fun ti=>match v,ti.desc with
    | .sl _ n _ _,.slice _=>dW (.int .i64 n)
    | .bP o _ n _,.slice _=>.rd o fun _=>dW (.int .i64 n)
    | .str s,.str=>dW (.int .i64 s.size)
    | _,_=>.fail
   | _,_=>.fail
noncomputable def Wx (nid:Nat) (vs:List AV) (ts:List TypeId):Pg:=match vs,ts with
   | [d,s],[t,t']=>Aa x t' fun _=>Aa x t fun ti=>bN (Nat.blt 0 ti.size) (bN (Nat.blt 0 ti.bytes) (match isSelf d s with | true=>LQ ti d s | false=>Mq ti nid d s))
   | _,_=>.fail
noncomputable def abw (vs:List AV) (ts:List TypeId):Pg:=match vs,ts with
   | [d,s],[t,t']=>Aa x t' fun _=>Aa x t fun ti=>bN (Nat.blt 0 ti.size) (Ue ti d s)
   | _,_=>.fail
noncomputable def Zz (vs:List AV) (ts:List TypeId):Pg:=match vs,ts with
   | [.bP o i n _],[t]=>Aa x t fun ti=>bN (WC ti) (.rd o fun
    | .row es N g=>bN (Nat.beq es ti.size) (.ret .undef [(o,some (.row es N (VF i n g (fun _=>zeroOf ti))))])
    | _=>.fail)
   | _,_=>.fail
def acT (vs:List AV):Pg:=match vs with
   | [.int k a,.int _ b]=>dW (.int k (if b<a then b else a))
   | _=>.fail
def acU (vs:List AV):Pg:=match vs with
   | [.int k a,.int _ b]=>dW (.int k (if b > a then b else a))
   | _=>.fail
noncomputable def Vr (nid:Nat) (f:FuncId) (args:List AV):Pg:=
 match sigma args (fnX x f).muts with
 | []=>match (fnX x f).frz with
  | false=>vP [] args fun args' _=>.call f args' [] fun r obs'=>match obs' with
   | []=>bN (VI r) (dW r)
   | _::_=>.fail
  | true=>EN nid f args []
 | y::sg=>EN nid f args (y::sg)
noncomputable def TU (nid:Nat) (b:Builtin) (vs:List AV) (ts:List TypeId):Pg:=match b with
  | .len=>acS x vs ts
  | .append=>Wx x nid vs ts
  | .copy=>abw x vs ts
  | .clear=>Zz x vs ts
  | .min=>acT vs
  | .max=>acU vs
  | _=>.fail
noncomputable def ZA (nid:Nat) (v:AV) (vs:List AV):Pg:=match v with
   | .fn g caps=>Vr x nid g (vs++caps)
   | _=>.fail
noncomputable def abx (nid:Nat) (c:Call):Pg:=match c.callee with
  | .builtin b=>TU x nid b (c.args.toList.map ρ) c.argTypes.toList
  | .value f=>ZA x nid (ρ f) (c.args.toList.map ρ)
  | .invoke _ _=>.fail
noncomputable def ZQ (nid:Nat) (op:Op):Pg:=
 match op with
 | .move v=>dW (ρ v)
 | .assign v=>dW (ρ v)
 | .pick c a b=>Qm (ρ c) a b (ρ a) (ρ b)
 | .alloc e=>Vl x nid e
 | .box _ v=>ab6 nid (ρ v)
 | .build t parts=>Vm x ρ t parts.toList
 | .buildSlice t len parts=>EG x ρ nid t len parts.toList
 | .load t a=>Zv x t (ρ a)
 | .store t a v=>Vn x t (ρ a) (ρ v)
 | .nilCheck v=>ab7 (ρ v)
 | .binOp op t u v _=>acR x op t (ρ u) (ρ v)
 | .unOp op _ v=>xUn op (ρ v)
 | .convert src dst v=>Zw x src dst (ρ v)
 | .makeFunc fn first captured=>KI ρ fn first.toList captured.toList
 | .makeSlice t l c=>Hr x ρ nid t l c
 | .slice t v lo hi mx=>Zx x ρ t (ρ v) lo hi mx
 | .fieldAddr s v f=>Ht x s (ρ v) f
 | .field s v f=>Vo x s (ρ v) f
 | .indexAddr t v ix=>Hu x t (ρ v) (ρ ix)
 | .index t v ix=>Vq x t (ρ v) (ρ ix)
 | .makeMap t r=>TT x nid t r
 | .lookup t v ix ok=>Ww x t (ρ v) (ρ ix) ok
 | .mapUpdate t v ix y=>Hw x t (ρ v) (ρ ix) (ρ y)
 | .extract t i=>Oe (ρ t) i
 | .call c=>abx x ρ nid c
 | _=>.fail
theorem XT (nid:Nat) (f:FuncId) (args:List AV):Vr x nid f args=Qp x.cfg nid f args:=by
 unfold Vr Qp;rw [ab5];cases sigma args (Rt x.cfg f).muts with
 | nil=>cases (Rt x.cfg f).frz<;>rfl
 | cons=>rfl
theorem ab8 (nid:Nat) (op:Op):ZQ x ρ nid op=dD x.cfg nid op ρ:=by
 cases op with
 | call c=>
  simp only [ZQ,dD,abx];cases c.callee with
  | builtin b=>cases b<;>first | rfl | (simp only [TU,acS,Wx,abw,Zz,acT,acU,EF,Jv]; rfl)
  | value f=>simp only [ZA,XT]; rfl
  | invoke=>rfl
 | binOp op t u v ty=>
  simp only [ZQ,dD];cases ρ u<;>cases ρ v<;>simp only [acR,VE,TS,Wv,Wu,EF]<;>rfl
 | makeMap t r=>cases r<;>simp only [ZQ,dD,TT,Mj]
 | lookup t v ix ok=>cases ok<;>simp only [ZQ,dD,Ww,Mj]<;>rfl
 | slice t v lo hi mx=>
  simp only [ZQ,dD,Zx,Qi,Qj,Od,Rn,EF,Jv];cases Rv x.cfg t with
  | some p=>rfl
  | none=>cases ρ v<;>rfl
 | _=>first
  | rfl
  | (simp only [ZQ,dD,Vl,ab6,Vm,EG,Zv,Vn,KH,ab7,xUn,Zw,Oc,H6,KI,Hr,Ht,Vo,Hu,Vp,Zy,Vq,Hw,Oe,Rn,Mj,EF,Jv,TR]; done)
  | (simp only [ZQ,dD,Vl,ab6,Vm,EG,Zv,Vn,KH,ab7,xUn,Zw,Oc,H6,KI,Hr,Ht,Vo,Hu,Vp,Zy,Vq,Hw,Oe,Rn,Mj,EF,Jv,TR]; rfl)
end
end
end Go.Ab

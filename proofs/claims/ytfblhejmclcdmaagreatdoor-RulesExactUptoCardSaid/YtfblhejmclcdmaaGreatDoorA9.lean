/- An abstract machine over the model's code, that it is sound; models of the functions and their proofs. -/
import Derived.Test.YtfblhejmclcdmaaGreatDoorA8
set_option linter.unusedVariables false
set_option linter.unusedSimpArgs false


namespace Go.Proofs.YtfblhejmclcdmaaGreatDoor
open Go.Ab
set_option maxRecDepth 100000
set_option maxHeartbeats 20000000
theorem wz {s_:(List Int)} {f0_:(List aC)} {f1_:(List au)} {f2_:Int} {f3_:(List bG)} {f4_:(List cK)} {f5_:(List bT)} {f6_:(List aH)} {f7_:(List Int)} {f8_:(List Int)} {f9_:(List Bool)} {f10_:(List Int)} {f11_:(List aK)} {f12_:(List Bool)} {f13_:(List Bool)} {f14_:Bool} {r:Int} (hm:ql s_ f0_ f1_ f2_ f3_ f4_ f5_ f6_ f7_ f8_ f9_ f10_ f11_ f12_ f13_ f14_ r):S 174 [ak s_,.fn 138 [.ro [aS f0_,aM f1_,iV f2_,aO f3_,bL f4_,bC f5_,dB f6_,ak f7_,ak f8_,aJ f9_,ak f10_,bN f11_,aJ f12_,aJ f13_,.bool f14_]]] [] (iV r) [] :=sp Tryz.func174 rfl<|l0 hm (fun g1=>⟨[(0,ak s_),(1,.fn 138 [.ro [aS f0_,aM f1_,iV f2_,aO f3_,bL f4_,bC f5_,dB f6_,ak f7_,ak f8_,aJ f9_,ak f10_,bN f11_,aJ f12_,aJ f13_,.bool f14_]]),(7,iV (s_.length:Int)),(8,iV g1)],[],0⟩) <|fun self1 g1 hm=>si hm (fun _ hm=>sn hm fun _ hm=>sb hm fun v3 hv3 hm=>cl (zh hv3)<|si hm (fun _ hm=>by cases hm;exact re) fun _ hm=>sn hm fun _ hm=>le hm) fun _ hm=>by cases hm;exact re
theorem rT {s_:(List Int)} {f0_:(List aC)} {f1_:(List au)} {f2_:Int} {f3_:(List bG)} {f4_:(List cK)} {f5_:(List bT)} {f6_:(List aH)} {f7_:(List Int)} {f8_:(List Int)} {f9_:(List Bool)} {f10_:(List Int)} {f11_:(List aK)} {f12_:(List Bool)} {f13_:(List Bool)} {f14_:Bool} {r:Bool} (hm:jI s_ f0_ f1_ f2_ f3_ f4_ f5_ f6_ f7_ f8_ f9_ f10_ f11_ f12_ f13_ f14_ r):S 135 [ak s_,.fn 138 [.ro [aS f0_,aM f1_,iV f2_,aO f3_,bL f4_,bC f5_,dB f6_,ak f7_,ak f8_,aJ f9_,ak f10_,bN f11_,aJ f12_,aJ f13_,.bool f14_]]] [] (.bool r) [] :=sp Tryz.func135 rfl<|sb hm fun v1 hv1 hm=>cl (wz hv1)<|by cases hm;exact re
theorem AP {s_:dY} {r:Bool} (hm:kH s_ r):S 89 [CS s_] [] (.bool r) [] :=sp Tryz.func89 rfl<|sb hm fun v1 hv1 hm=>cl (LU hv1)<|si hm (fun _ hm=>by cases hm;exact re) fun _ hm=>sb hm fun v2 hv2 hm=>cl (rT hv2)<|by cases hm;exact re
theorem kV {s_:dY} {r:Int} (hm:gK s_ r):S 33 [CS s_] [] (iV r) [] :=sp Tryz.func33 rfl<|by
 refine Vz 9 ?_
 refine kC (ct:=[]) iw dk ?_
 (conv=>whnf)
 refine aT hm fun h1 hm=>?_
 (conv=>whnf)
 refine dz hm fun v1 hv1 hm=>?_
 refine ⟨_,_,(Dv hv1),?_⟩
 (conv=>whnf)
 refine dK hm (fun c1 hm=>?_) (fun c1 hm=>?_)
 ·(conv=>whnf)
  refine aT hm fun h2 hm=>?_
  (conv=>whnf)
  have hm:r=((0:Int)+(1:Int)):=hm
  subst hm
  refine ⟨[],[],?_⟩
  (conv=>whnf)
  exact ⟨⟨rfl,trivial,trivial⟩,r2⟩
 ·(conv=>whnf)
  refine aT hm fun h3 hm=>?_
  (conv=>whnf)
  refine kC (ct:=[]) iw dk ?_
  (conv=>whnf)
  refine aT hm fun h4 hm=>?_
  (conv=>whnf)
  refine dz hm fun v2 hv2 hm=>?_
  refine ⟨_,_,(Cj hv2),?_⟩
  (conv=>whnf)
  refine dK hm (fun c2 hm=>?_) (fun c2 hm=>?_)
  ·(conv=>whnf)
   refine aT hm fun h5 hm=>?_
   (conv=>whnf)
   have hm:r=(((0:Int)+(1:Int))+(1:Int)):=hm
   subst hm
   refine ⟨[],[],?_⟩
   (conv=>whnf)
   exact ⟨⟨rfl,trivial,trivial⟩,r2⟩
  ·(conv=>whnf)
   refine aT hm fun h6 hm=>?_
   (conv=>whnf)
   refine kC (ct:=[]) iw dk ?_
   (conv=>whnf)
   refine aT hm fun h7 hm=>?_
   (conv=>whnf)
   refine dz hm fun v3 hv3 hm=>?_
   refine ⟨_,_,(Ck hv3),?_⟩
   (conv=>whnf)
   refine dK hm (fun c3 hm=>?_) (fun c3 hm=>?_)
   ·(conv=>whnf)
    refine aT hm fun h8 hm=>?_
    (conv=>whnf)
    have hm:r=((((0:Int)+(1:Int))+(1:Int))+(1:Int)):=hm
    subst hm
    refine ⟨[],[],?_⟩
    (conv=>whnf)
    exact ⟨⟨rfl,trivial,trivial⟩,r2⟩
   ·(conv=>whnf)
    refine aT hm fun h9 hm=>?_
    (conv=>whnf)
    refine kC (ct:=[]) iw dk ?_
    (conv=>whnf)
    refine aT hm fun h10 hm=>?_
    (conv=>whnf)
    refine dz hm fun v4 hv4 hm=>?_
    refine ⟨_,_,(zw hv4),?_⟩
    (conv=>whnf)
    refine dK hm (fun c4 hm=>?_) (fun c4 hm=>?_)
    ·(conv=>whnf)
     refine aT hm fun h11 hm=>?_
     (conv=>whnf)
     have hm:r=(((((0:Int)+(1:Int))+(1:Int))+(1:Int))+(1:Int)):=hm
     subst hm
     refine ⟨[],[],?_⟩
     (conv=>whnf)
     exact ⟨⟨rfl,trivial,trivial⟩,r2⟩
    ·(conv=>whnf)
     refine aT hm fun h12 hm=>?_
     (conv=>whnf)
     refine kC (ct:=[]) iw dk ?_
     (conv=>whnf)
     refine aT hm fun h13 hm=>?_
     (conv=>whnf)
     refine dz hm fun v5 hv5 hm=>?_
     refine ⟨_,_,(E8 hv5),?_⟩
     (conv=>whnf)
     refine dK hm (fun c5 hm=>?_) (fun c5 hm=>?_)
     ·(conv=>whnf)
      refine aT hm fun h14 hm=>?_
      (conv=>whnf)
      have hm:r=((((((0:Int)+(1:Int))+(1:Int))+(1:Int))+(1:Int))+(1:Int)):=hm
      subst hm
      refine ⟨[],[],?_⟩
      (conv=>whnf)
      exact ⟨⟨rfl,trivial,trivial⟩,r2⟩
     ·(conv=>whnf)
      refine aT hm fun h15 hm=>?_
      (conv=>whnf)
      refine kC (ct:=[]) iw dk ?_
      (conv=>whnf)
      refine aT hm fun h16 hm=>?_
      (conv=>whnf)
      refine dz hm fun v6 hv6 hm=>?_
      refine ⟨_,_,(zf hv6),?_⟩
      (conv=>whnf)
      refine dK hm (fun c6 hm=>?_) (fun c6 hm=>?_)
      ·(conv=>whnf)
       refine aT hm fun h17 hm=>?_
       (conv=>whnf)
       have hm:r=(((((((0:Int)+(1:Int))+(1:Int))+(1:Int))+(1:Int))+(1:Int))+(1:Int)):=hm
       subst hm
       refine ⟨[],[],?_⟩
       (conv=>whnf)
       exact ⟨⟨rfl,trivial,trivial⟩,r2⟩
      ·(conv=>whnf)
       refine aT hm fun h18 hm=>?_
       (conv=>whnf)
       refine kC (ct:=[]) iw dk ?_
       (conv=>whnf)
       refine aT hm fun h19 hm=>?_
       (conv=>whnf)
       refine dz hm fun v7 hv7 hm=>?_
       refine ⟨_,_,(Cm hv7),?_⟩
       (conv=>whnf)
       refine dK hm (fun c7 hm=>?_) (fun c7 hm=>?_)
       ·(conv=>whnf)
        refine aT hm fun h20 hm=>?_
        (conv=>whnf)
        have hm:r=((((((((0:Int)+(1:Int))+(1:Int))+(1:Int))+(1:Int))+(1:Int))+(1:Int))+(1:Int)):=hm
        subst hm
        refine ⟨[],[],?_⟩
        (conv=>whnf)
        exact ⟨⟨rfl,trivial,trivial⟩,r2⟩
       ·(conv=>whnf)
        refine aT hm fun h21 hm=>?_
        (conv=>whnf)
        refine kC (ct:=[]) iw dk ?_
        (conv=>whnf)
        refine aT hm fun h22 hm=>?_
        (conv=>whnf)
        refine dz hm fun v8 hv8 hm=>?_
        refine ⟨_,_,(AP hv8),?_⟩
        (conv=>whnf)
        refine dK hm (fun c8 hm=>?_) (fun c8 hm=>?_)
        ·(conv=>whnf)
         refine aT hm fun h23 hm=>?_
         (conv=>whnf)
         have hm:r=(((((((((0:Int)+(1:Int))+(1:Int))+(1:Int))+(1:Int))+(1:Int))+(1:Int))+(1:Int))+(1:Int)):=hm
         subst hm
         refine ⟨[],[],?_⟩
         (conv=>whnf)
         exact ⟨⟨rfl,trivial,trivial⟩,r2⟩
        ·(conv=>whnf)
         refine aT hm fun h24 hm=>?_
         (conv=>whnf)
         refine kC (ct:=[]) iw dk ?_
         (conv=>whnf)
         have hm:r=(0:Int):=hm
         subst hm
         refine ⟨[],[],?_⟩
         (conv=>whnf)
         exact ⟨⟨rfl,trivial,trivial⟩,r2⟩
theorem lX {at_:Int} {x_:Int} {o0_:(List Int)} {r:(Bool×(List Int))} (hm:kD at_ x_ o0_ r):S 96 [.dh 0 0 o0_.length false,iV at_,iV x_] [.row 1 o0_.length (bE iV 0 o0_)] (.bool r.1) [.row 1 r.2.length (bE iV 0 r.2)] :=sp Tryz.func96 rfl<|si hm (fun _ hm=>by cases hm;exact re) fun _ hm=>sn hm fun _ hm=>by cases hm;exact re
theorem iq {at_:Int} {x_:Bool} {o0_:(List Bool)} {r:(Bool×(List Bool))} (hm:gX at_ x_ o0_ r):S 97 [.dh 0 0 o0_.length false,iV at_,.bool x_] [.row 1 o0_.length (bE AV.bool false o0_)] (.bool r.1) [.row 1 r.2.length (bE AV.bool false r.2)] :=sp Tryz.func97 rfl<|si hm (fun _ hm=>by cases hm;exact re) fun _ hm=>sn hm fun _ hm=>by cases hm;exact re
theorem Kt {u_:aK} {a10_:Int} {a11_:Int} {a12_:Int} {r:Bool} (hm:oQ u_ a10_ a11_ a12_ r):S 99 [dX u_,.ro [iV a10_,iV a11_,iV a12_]] [] (.bool r) [] :=sp Tryz.func99 rfl<|by cases hm;exact re
theorem kW {s_:(List aK)} {f0_:Int} {f1_:Int} {f2_:Int} {r:Int} (hm:iA s_ f0_ f1_ f2_ r):S 98 [bN s_,.fn 99 [.ro [iV f0_,iV f1_,iV f2_]]] [] (iV r) [] :=sp Tryz.func98 rfl<|l0 hm (fun g1=>⟨[(0,bN s_),(1,.fn 99 [.ro [iV f0_,iV f1_,iV f2_]]),(7,iV (s_.length:Int)),(8,iV g1)],[],0⟩) <|fun self1 g1 hm=>si hm (fun _ hm=>sn hm fun _ hm=>sb hm fun v3 hv3 hm=>cl (Kt hv3)<|si hm (fun _ hm=>by cases hm;exact re) fun _ hm=>sn hm fun _ hm=>le hm) fun _ hm=>by cases hm;exact re
theorem xK {i_:Int} {j_:Int} {o0_:(List aK)} {r:(Nat×(List aK))} (hm:jB i_ j_ o0_ r):S 100 [.dh 0 0 o0_.length false,iV i_,iV j_] [.row 3 o0_.length (bE dX bq o0_)] (.dh 0 0 r.1 false) [.row 3 r.2.length (bE dX bq r.2)] :=sp Tryz.func100 rfl<|sn hm fun _ hm=>si hm (fun _ hm=>by cases hm;exact re) fun _ hm=>s2 hm fun _ _ hm=>s2 hm fun _ _ hm=>by cases hm;exact rt [] [] (by (conv=>whnf);exact ⟨⟨rfl,trivial,⟨⟨rfl,oz,(Ql oz (Ql rfl (fun _ _=>.refl _) oz (Mx (a:=(0+j_.toNat)) (N:=o0_.length) (fun _ _=>.refl _) (by first | omega | (simp; omega)))) oz (Qm dX bq))⟩,trivial⟩⟩,⟨rfl,rfl,rfl,rfl,nofun⟩⟩)
theorem tL {s_:Nat} {i_:Int} {j_:Int} {o0_:(List aK)} {r:(Nat×(List aK))} (hm:iB s_ i_ j_ o0_ r):S 100 [.dh 0 0 s_ false,iV i_,iV j_] [.row 3 o0_.length (bE dX bq o0_)] (.dh 0 0 r.1 false) [.row 3 r.2.length (bE dX bq r.2)] :=sp Tryz.func100 rfl<|by
 have h6:=hm.1
 have hm:=hm.2
 refine aT hm fun h1 hm=>?_
 (conv=>whnf)
 refine dK hm (fun c1 hm=>?_) (fun c1 hm=>?_)
 ·(conv=>whnf)
  have hm:r=(s_,o0_):=hm
  subst hm
  refine ⟨[],[],?_⟩
  (conv=>whnf)
  exact ⟨⟨rfl,trivial,⟨⟨rfl,rfl,(fun _ _=>.refl _)⟩,trivial⟩⟩,⟨rfl,rfl,rfl,rfl,nofun⟩⟩
 ·(conv=>whnf)
  refine aT hm fun h2 hm=>?_
  (conv=>whnf)
  refine aT hm fun h3 hm=>?_
  (conv=>whnf)
  refine aT hm fun h4 hm=>?_
  (conv=>whnf)
  refine aT hm fun h5 hm=>?_
  (conv=>whnf)
  have hm:r=((i_.toNat+(s_ - j_.toNat)),(J5 (J5 o0_ ((0+i_.toNat)) ((o0_.drop ((0+j_.toNat))).take ((s_ - j_.toNat)))) ((0+(((i_.toNat+(s_ - j_.toNat)):Nat):Int).toNat)) (List.replicate ((((s_:Nat):Int).toNat - (((i_.toNat+(s_ - j_.toNat)):Nat):Int).toNat)) bq))):=hm
  subst hm
  refine ⟨[],[],?_⟩
  (conv=>whnf)
  exact ⟨⟨rfl,trivial,⟨⟨rfl,oz,(Ql oz (Ql rfl (fun _ _=>.refl _) oz (Mx (a:=(0+j_.toNat)) (N:=o0_.length) (fun _ _=>.refl _) (by first | omega | (simp; omega)))) oz (Qm dX bq))⟩,trivial⟩⟩,⟨rfl,rfl,rfl,rfl,nofun⟩⟩
theorem Jc {w_:bU} {o0x0_:(List aC)} {o0x1_:(List au)} {o0x2_:Int} {o0x3_:(List bG)} {o0x4_:(List cK)} {o0x5_:(List bT)} {o0x6_:(List aH)} {o0x7_:(List Int)} {o0x8_:Nat} {o0x9_:Bool} {o1_:(List Int)} {o2_:(List Bool)} {o3_:(List Int)} {o4_:(List aK)} {o5_:(List Bool)} {o6_:(List Bool)} {r:(Bool×Nat×(List Int)×(List Bool)×(List Int)×(List Bool)×(List Bool)×(List aK))} (hm:qO w_ o0x0_ o0x1_ o0x2_ o0x3_ o0x4_ o0x5_ o0x6_ o0x7_ o0x8_ o0x9_ o1_ o2_ o3_ o4_ o5_ o6_ r):S 40 [.ptr 0 0 8,vWrite w_] [.box [aS o0x0_,aM o0x1_,iV o0x2_,aO o0x3_,bL o0x4_,bC o0x5_,dB o0x6_,ak o0x7_,.dh 1 0 o1_.length false,.dh 2 0 o2_.length false,.dh 3 0 o3_.length false,.dh 4 0 o0x8_ false,.dh 5 0 o5_.length false,.dh 6 0 o6_.length false,.bool o0x9_],.row 1 o1_.length (bE iV 0 o1_),.row 1 o2_.length (bE AV.bool false o2_),.row 1 o3_.length (bE iV 0 o3_),.row 3 o4_.length (bE dX bq o4_),.row 1 o5_.length (bE AV.bool false o5_),.row 1 o6_.length (bE AV.bool false o6_)] (.bool r.1) [.box [aS o0x0_,aM o0x1_,iV o0x2_,aO o0x3_,bL o0x4_,bC o0x5_,dB o0x6_,ak o0x7_,.dh 1 0 r.2.2.1.length false,.dh 2 0 r.2.2.2.1.length false,.dh 3 0 r.2.2.2.2.1.length false,.dh 7 0 r.2.1 false,.dh 5 0 r.2.2.2.2.2.1.length false,.dh 6 0 r.2.2.2.2.2.2.1.length false,.bool o0x9_],.row 1 r.2.2.1.length (bE iV 0 r.2.2.1),.row 1 r.2.2.2.1.length (bE AV.bool false r.2.2.2.1),.row 1 r.2.2.2.2.1.length (bE iV 0 r.2.2.2.2.1),adp,.row 1 r.2.2.2.2.2.1.length (bE AV.bool false r.2.2.2.2.2.1),.row 1 r.2.2.2.2.2.2.1.length (bE AV.bool false r.2.2.2.2.2.2.1),.row 3 r.2.2.2.2.2.2.2.length (bE dX bq r.2.2.2.2.2.2.2)] :=Sj [20] Tryz.func40 rfl<|by
 have h16:=hm.1
 have hm:=hm.2
 refine dK hm (fun c1 hm=>?_) (fun c1 hm=>?_)
 ·(conv=>whnf)
  have hm:r=(false,o0x8_,o1_,o2_,o3_,o5_,o6_,o4_):=hm
  subst hm
  refine ⟨[],[(7,some 4)],?_⟩
  (conv=>whnf)
  exact ⟨⟨rfl,trivial,⟨⟨sr,sr,r2,sr,sr,sr,sr,sr,⟨rfl,rfl,rfl,rfl,nofun⟩,⟨rfl,rfl,rfl,rfl,nofun⟩,⟨rfl,rfl,rfl,rfl,nofun⟩,⟨rfl,rfl,rfl,rfl,nofun⟩,⟨rfl,rfl,rfl,rfl,nofun⟩,⟨rfl,rfl,rfl,rfl,nofun⟩,rfl,trivial⟩,⟨rfl,rfl,(fun _ _=>.refl _)⟩,⟨rfl,rfl,(fun _ _=>.refl _)⟩,⟨rfl,rfl,(fun _ _=>.refl _)⟩,⟨rfl,rfl,(fun _ _=>.refl _)⟩,⟨rfl,rfl,(fun _ _=>.refl _)⟩,⟨rfl,rfl,(fun _ _=>.refl _)⟩,trivial⟩⟩,rfl⟩
 ·(conv=>whnf)
  refine dK hm (fun c2 hm=>?_) (fun c2 hm=>?_)
  ·(conv=>whnf)
   refine dz hm fun v1 hv1 hm=>?_
   refine ⟨_,_,(lX hv1),?_⟩
   (conv=>whnf)
   have h1:=hm.1
   have hm:=hm.2
   have hm:r=(v1.1,o0x8_,v1.2,o2_,o3_,o5_,o6_,o4_):=hm
   subst hm
   refine ⟨[],[(7,some 4)],?_⟩
   (conv=>whnf)
   exact ⟨⟨rfl,trivial,⟨⟨sr,sr,r2,sr,sr,sr,sr,sr,⟨rfl,rfl,rfl,(by first | omega | (simp; omega)),nofun⟩,⟨rfl,rfl,rfl,rfl,nofun⟩,⟨rfl,rfl,rfl,rfl,nofun⟩,⟨rfl,rfl,rfl,rfl,nofun⟩,⟨rfl,rfl,rfl,rfl,nofun⟩,⟨rfl,rfl,rfl,rfl,nofun⟩,rfl,trivial⟩,⟨rfl,rfl,(fun _ _=>.refl _)⟩,⟨rfl,rfl,(fun _ _=>.refl _)⟩,⟨rfl,rfl,(fun _ _=>.refl _)⟩,⟨rfl,rfl,(fun _ _=>.refl _)⟩,⟨rfl,rfl,(fun _ _=>.refl _)⟩,⟨rfl,rfl,(fun _ _=>.refl _)⟩,trivial⟩⟩,rfl⟩
  ·(conv=>whnf)
   refine dK hm (fun c3 hm=>?_) (fun c3 hm=>?_)
   ·(conv=>whnf)
    refine dz hm fun v2 hv2 hm=>?_
    refine ⟨_,_,(lX hv2),?_⟩
    (conv=>whnf)
    have h2:=hm.1
    have hm:=hm.2
    have hm:r=(v2.1,o0x8_,o1_,o2_,v2.2,o5_,o6_,o4_):=hm
    subst hm
    refine ⟨[],[(7,some 4)],?_⟩
    (conv=>whnf)
    exact ⟨⟨rfl,trivial,⟨⟨sr,sr,r2,sr,sr,sr,sr,sr,⟨rfl,rfl,rfl,rfl,nofun⟩,⟨rfl,rfl,rfl,rfl,nofun⟩,⟨rfl,rfl,rfl,(by first | omega | (simp; omega)),nofun⟩,⟨rfl,rfl,rfl,rfl,nofun⟩,⟨rfl,rfl,rfl,rfl,nofun⟩,⟨rfl,rfl,rfl,rfl,nofun⟩,rfl,trivial⟩,⟨rfl,rfl,(fun _ _=>.refl _)⟩,⟨rfl,rfl,(fun _ _=>.refl _)⟩,⟨rfl,rfl,(fun _ _=>.refl _)⟩,⟨rfl,rfl,(fun _ _=>.refl _)⟩,⟨rfl,rfl,(fun _ _=>.refl _)⟩,⟨rfl,rfl,(fun _ _=>.refl _)⟩,trivial⟩⟩,rfl⟩
   ·(conv=>whnf)
    refine dK hm (fun c4 hm=>?_) (fun c4 hm=>?_)
    ·(conv=>whnf)
     refine dK hm (fun c5 hm=>?_) (fun c5 hm=>?_)
     ·(conv=>whnf)
      refine dz hm fun v3 hv3 hm=>?_
      refine ⟨_,_,(iq hv3),?_⟩
      (conv=>whnf)
      have h3:=hm.1
      have hm:=hm.2
      have hm:r=(((decide (w_.Value≤(1:Int)))&&v3.1),o0x8_,o1_,v3.2,o3_,o5_,o6_,o4_):=hm
      subst hm
      refine ⟨[],[(7,some 4)],?_⟩
      (conv=>whnf)
      exact ⟨⟨rfl,trivial,⟨⟨sr,sr,r2,sr,sr,sr,sr,sr,⟨rfl,rfl,rfl,rfl,nofun⟩,⟨rfl,rfl,rfl,(by first | omega | (simp; omega)),nofun⟩,⟨rfl,rfl,rfl,rfl,nofun⟩,⟨rfl,rfl,rfl,rfl,nofun⟩,⟨rfl,rfl,rfl,rfl,nofun⟩,⟨rfl,rfl,rfl,rfl,nofun⟩,rfl,trivial⟩,⟨rfl,rfl,(fun _ _=>.refl _)⟩,⟨rfl,rfl,(fun _ _=>.refl _)⟩,⟨rfl,rfl,(fun _ _=>.refl _)⟩,⟨rfl,rfl,(fun _ _=>.refl _)⟩,⟨rfl,rfl,(fun _ _=>.refl _)⟩,⟨rfl,rfl,(fun _ _=>.refl _)⟩,trivial⟩⟩,rfl⟩
     ·(conv=>whnf)
      refine aT hm fun h4 hm=>?_
      (conv=>whnf)
      have hm:r=(false,o0x8_,o1_,o2_,o3_,o5_,o6_,o4_):=hm
      subst hm
      refine ⟨[],[(7,some 4)],?_⟩
      (conv=>whnf)
      exact ⟨⟨rfl,trivial,⟨⟨sr,sr,r2,sr,sr,sr,sr,sr,⟨rfl,rfl,rfl,rfl,nofun⟩,⟨rfl,rfl,rfl,rfl,nofun⟩,⟨rfl,rfl,rfl,rfl,nofun⟩,⟨rfl,rfl,rfl,rfl,nofun⟩,⟨rfl,rfl,rfl,rfl,nofun⟩,⟨rfl,rfl,rfl,rfl,nofun⟩,rfl,trivial⟩,⟨rfl,rfl,(fun _ _=>.refl _)⟩,⟨rfl,rfl,(fun _ _=>.refl _)⟩,⟨rfl,rfl,(fun _ _=>.refl _)⟩,⟨rfl,rfl,(fun _ _=>.refl _)⟩,⟨rfl,rfl,(fun _ _=>.refl _)⟩,⟨rfl,rfl,(fun _ _=>.refl _)⟩,trivial⟩⟩,rfl⟩
    ·(conv=>whnf)
     refine dK hm (fun c6 hm=>?_) (fun c6 hm=>?_)
     ·(conv=>whnf)
      refine dK hm (fun c7 hm=>?_) (fun c7 hm=>?_)
      ·(conv=>whnf)
       refine dz hm fun v4 hv4 hm=>?_
       refine ⟨_,_,(iq hv4),?_⟩
       (conv=>whnf)
       have h5:=hm.1
       have hm:=hm.2
       have hm:r=(((decide (w_.Value≤(1:Int)))&&v4.1),o0x8_,o1_,o2_,o3_,v4.2,o6_,o4_):=hm
       subst hm
       refine ⟨[],[(7,some 4)],?_⟩
       (conv=>whnf)
       exact ⟨⟨rfl,trivial,⟨⟨sr,sr,r2,sr,sr,sr,sr,sr,⟨rfl,rfl,rfl,rfl,nofun⟩,⟨rfl,rfl,rfl,rfl,nofun⟩,⟨rfl,rfl,rfl,rfl,nofun⟩,⟨rfl,rfl,rfl,rfl,nofun⟩,⟨rfl,rfl,rfl,(by first | omega | (simp; omega)),nofun⟩,⟨rfl,rfl,rfl,rfl,nofun⟩,rfl,trivial⟩,⟨rfl,rfl,(fun _ _=>.refl _)⟩,⟨rfl,rfl,(fun _ _=>.refl _)⟩,⟨rfl,rfl,(fun _ _=>.refl _)⟩,⟨rfl,rfl,(fun _ _=>.refl _)⟩,⟨rfl,rfl,(fun _ _=>.refl _)⟩,⟨rfl,rfl,(fun _ _=>.refl _)⟩,trivial⟩⟩,rfl⟩
      ·(conv=>whnf)
       refine aT hm fun h6 hm=>?_
       (conv=>whnf)
       have hm:r=(false,o0x8_,o1_,o2_,o3_,o5_,o6_,o4_):=hm
       subst hm
       refine ⟨[],[(7,some 4)],?_⟩
       (conv=>whnf)
       exact ⟨⟨rfl,trivial,⟨⟨sr,sr,r2,sr,sr,sr,sr,sr,⟨rfl,rfl,rfl,rfl,nofun⟩,⟨rfl,rfl,rfl,rfl,nofun⟩,⟨rfl,rfl,rfl,rfl,nofun⟩,⟨rfl,rfl,rfl,rfl,nofun⟩,⟨rfl,rfl,rfl,rfl,nofun⟩,⟨rfl,rfl,rfl,rfl,nofun⟩,rfl,trivial⟩,⟨rfl,rfl,(fun _ _=>.refl _)⟩,⟨rfl,rfl,(fun _ _=>.refl _)⟩,⟨rfl,rfl,(fun _ _=>.refl _)⟩,⟨rfl,rfl,(fun _ _=>.refl _)⟩,⟨rfl,rfl,(fun _ _=>.refl _)⟩,⟨rfl,rfl,(fun _ _=>.refl _)⟩,trivial⟩⟩,rfl⟩
     ·(conv=>whnf)
      refine dK hm (fun c8 hm=>?_) (fun c8 hm=>?_)
      ·(conv=>whnf)
       refine dK hm (fun c9 hm=>?_) (fun c9 hm=>?_)
       ·(conv=>whnf)
        refine dz hm fun v5 hv5 hm=>?_
        refine ⟨_,_,(iq hv5),?_⟩
        (conv=>whnf)
        have h7:=hm.1
        have hm:=hm.2
        have hm:r=(((decide (w_.Value≤(1:Int)))&&v5.1),o0x8_,o1_,o2_,o3_,o5_,v5.2,o4_):=hm
        subst hm
        refine ⟨[],[(7,some 4)],?_⟩
        (conv=>whnf)
        exact ⟨⟨rfl,trivial,⟨⟨sr,sr,r2,sr,sr,sr,sr,sr,⟨rfl,rfl,rfl,rfl,nofun⟩,⟨rfl,rfl,rfl,rfl,nofun⟩,⟨rfl,rfl,rfl,rfl,nofun⟩,⟨rfl,rfl,rfl,rfl,nofun⟩,⟨rfl,rfl,rfl,rfl,nofun⟩,⟨rfl,rfl,rfl,(by first | omega | (simp; omega)),nofun⟩,rfl,trivial⟩,⟨rfl,rfl,(fun _ _=>.refl _)⟩,⟨rfl,rfl,(fun _ _=>.refl _)⟩,⟨rfl,rfl,(fun _ _=>.refl _)⟩,⟨rfl,rfl,(fun _ _=>.refl _)⟩,⟨rfl,rfl,(fun _ _=>.refl _)⟩,⟨rfl,rfl,(fun _ _=>.refl _)⟩,trivial⟩⟩,rfl⟩
       ·(conv=>whnf)
        refine aT hm fun h8 hm=>?_
        (conv=>whnf)
        have hm:r=(false,o0x8_,o1_,o2_,o3_,o5_,o6_,o4_):=hm
        subst hm
        refine ⟨[],[(7,some 4)],?_⟩
        (conv=>whnf)
        exact ⟨⟨rfl,trivial,⟨⟨sr,sr,r2,sr,sr,sr,sr,sr,⟨rfl,rfl,rfl,rfl,nofun⟩,⟨rfl,rfl,rfl,rfl,nofun⟩,⟨rfl,rfl,rfl,rfl,nofun⟩,⟨rfl,rfl,rfl,rfl,nofun⟩,⟨rfl,rfl,rfl,rfl,nofun⟩,⟨rfl,rfl,rfl,rfl,nofun⟩,rfl,trivial⟩,⟨rfl,rfl,(fun _ _=>.refl _)⟩,⟨rfl,rfl,(fun _ _=>.refl _)⟩,⟨rfl,rfl,(fun _ _=>.refl _)⟩,⟨rfl,rfl,(fun _ _=>.refl _)⟩,⟨rfl,rfl,(fun _ _=>.refl _)⟩,⟨rfl,rfl,(fun _ _=>.refl _)⟩,trivial⟩⟩,rfl⟩
      ·(conv=>whnf)
       refine dK hm (fun c10 hm=>?_) (fun c10 hm=>?_)
       ·(conv=>whnf)
        refine dz hm fun v6 hv6 hm=>?_
        refine ⟨_,_,(gI hv6),?_⟩
        (conv=>whnf)
        refine dK hm (fun c11 hm=>?_) (fun c11 hm=>?_)
        ·(conv=>whnf)
         have hm:r=(false,o0x8_,o1_,o2_,o3_,o5_,o6_,o4_):=hm
         subst hm
         refine ⟨[],[(7,some 4)],?_⟩
         (conv=>whnf)
         exact ⟨⟨rfl,trivial,⟨⟨sr,sr,r2,sr,sr,sr,sr,sr,⟨rfl,rfl,rfl,rfl,nofun⟩,⟨rfl,rfl,rfl,rfl,nofun⟩,⟨rfl,rfl,rfl,rfl,nofun⟩,⟨rfl,rfl,rfl,rfl,nofun⟩,⟨rfl,rfl,rfl,rfl,nofun⟩,⟨rfl,rfl,rfl,rfl,nofun⟩,rfl,trivial⟩,⟨rfl,rfl,(fun _ _=>.refl _)⟩,⟨rfl,rfl,(fun _ _=>.refl _)⟩,⟨rfl,rfl,(fun _ _=>.refl _)⟩,⟨rfl,rfl,(fun _ _=>.refl _)⟩,⟨rfl,rfl,(fun _ _=>.refl _)⟩,⟨rfl,rfl,(fun _ _=>.refl _)⟩,trivial⟩⟩,rfl⟩
        ·(conv=>whnf)
         refine Qk (ct:=[20]) iw dk dk (jJ w_ o1_ o2_ o3_ o5_ o6_) r (fun g1=>⟨[(0,.ptr 0 0 8),(3,.ptr 7 0 0)],[(0,some (.box [aS o0x0_,aM o0x1_,iV o0x2_,aO o0x3_,bL o0x4_,bC o0x5_,dB o0x6_,ak o0x7_,.dh 1 0 o1_.length false,.dh 2 0 o2_.length false,.dh 3 0 o3_.length false,.dh 4 0 g1.1 false,.dh 5 0 o5_.length false,.dh 6 0 o6_.length false,.bool o0x9_])),(1,some (.row 1 o1_.length (bE iV 0 o1_))),(2,some (.row 1 o2_.length (bE AV.bool false o2_))),(3,some (.row 1 o3_.length (bE iV 0 o3_))),(4,some (.row 3 g1.2.length (bE dX bq g1.2))),(5,some (.row 1 o5_.length (bE AV.bool false o5_))),(6,some (.row 1 o6_.length (bE AV.bool false o6_))),(7,some (.box [iV w_.Kind,iV w_.Unit,iV w_.Value]))],8⟩) ?_ (fun g1 hm=>?_)
         ·(conv=>whnf)
          refine dz hm fun v9 hv9 hm=>?_
          refine ⟨_,_,((kW hv9).le ⟨(.sl oz (fun _=>rfl) nofun (le_rtake (f:=dX) (d:=bq) (by first | omega | (simp; omega)))),.refl _,trivial⟩ trivial),?_⟩
          (conv=>whnf)
          refine dK hm (fun c14 hm=>?_) (fun c14 hm=>?_)
          ·(conv=>whnf)
           refine aT hm fun h14 hm=>?_
           (conv=>whnf)
           refine dz hm fun v10 hv10 hm=>?_
           refine ⟨_,_,(tL hv10),?_⟩
           (conv=>whnf)
           have h15:=hm.1
           have hm:=hm.2
           exact ⟨(v10.1,v10.2),[],[],hm,⟨rfl,⟨r4,r4,trivial⟩,⟨⟨sr,sr,r2,sr,sr,sr,sr,sr,⟨rfl,rfl,rfl,rfl,nofun⟩,⟨rfl,rfl,rfl,rfl,nofun⟩,⟨rfl,rfl,rfl,rfl,nofun⟩,⟨rfl,rfl,rfl,rfl,nofun⟩,⟨rfl,rfl,rfl,rfl,nofun⟩,⟨rfl,rfl,rfl,rfl,nofun⟩,rfl,trivial⟩,⟨rfl,rfl,(fun _ _=>.refl _)⟩,⟨rfl,rfl,(fun _ _=>.refl _)⟩,⟨rfl,rfl,(fun _ _=>.refl _)⟩,⟨rfl,rfl,(fun _ _=>.refl _)⟩,⟨rfl,rfl,(fun _ _=>.refl _)⟩,⟨rfl,rfl,(fun _ _=>.refl _)⟩,⟨r2,r2,r2,trivial⟩,trivial⟩⟩⟩
          ·(conv=>whnf)
           exact ⟨(o0x8_,o4_),[],[],hm,⟨rfl,⟨r4,r4,trivial⟩,⟨⟨sr,sr,r2,sr,sr,sr,sr,sr,⟨rfl,rfl,rfl,rfl,nofun⟩,⟨rfl,rfl,rfl,rfl,nofun⟩,⟨rfl,rfl,rfl,rfl,nofun⟩,⟨rfl,rfl,rfl,rfl,nofun⟩,⟨rfl,rfl,rfl,rfl,nofun⟩,⟨rfl,rfl,rfl,rfl,nofun⟩,rfl,trivial⟩,⟨rfl,rfl,(fun _ _=>.refl _)⟩,⟨rfl,rfl,(fun _ _=>.refl _)⟩,⟨rfl,rfl,(fun _ _=>.refl _)⟩,⟨rfl,rfl,(fun _ _=>.refl _)⟩,⟨rfl,rfl,(fun _ _=>.refl _)⟩,⟨rfl,rfl,(fun _ _=>.refl _)⟩,⟨r2,r2,r2,trivial⟩,trivial⟩⟩⟩
         ·(conv=>whnf)
          have h13:=hm.1
          have hm:=hm.2
          refine dK hm (fun c13 hm=>?_) (fun c13 hm=>?_)
          ·(conv=>whnf)
           refine aT hm fun h11 hm=>?_
           (conv=>whnf)
           refine aT hm fun h12 hm=>?_
           (conv=>whnf)
           have hm:r=(true,(g1.1+1),o1_,o2_,o3_,o5_,o6_,((g1.2.take (g1.1))++([(⟨(-1:Int),(⟨w_.Unit,(w_.Value - (1:Int))⟩:iC)⟩:aK)]:List aK))):=hm
           subst hm
           refine ⟨[],[(7,some 136)],?_⟩
           (conv=>whnf)
           exact ⟨⟨rfl,trivial,⟨⟨sr,sr,r2,sr,sr,sr,sr,sr,⟨rfl,rfl,rfl,rfl,nofun⟩,⟨rfl,rfl,rfl,rfl,nofun⟩,⟨rfl,rfl,rfl,rfl,nofun⟩,⟨rfl,rfl,rfl,rfl,nofun⟩,⟨rfl,rfl,rfl,rfl,nofun⟩,⟨rfl,rfl,rfl,rfl,nofun⟩,rfl,trivial⟩,⟨rfl,rfl,(fun _ _=>.refl _)⟩,⟨rfl,rfl,(fun _ _=>.refl _)⟩,⟨rfl,rfl,(fun _ _=>.refl _)⟩,⟨rfl,rfl,(fun _ _=>.refl _)⟩,⟨rfl,rfl,(fun _ _=>.refl _)⟩,⟨rfl,oz,(le_appG oz (le_rtake (f:=dX) (d:=bq) (by first | omega | (simp; omega))) rfl (le_litG dX bq [(⟨(-1:Int),(⟨w_.Unit,(w_.Value - (1:Int))⟩:iC)⟩:aK)]))⟩,trivial⟩⟩,rfl⟩
          ·(conv=>whnf)
           have hm:r=(true,g1.1,o1_,o2_,o3_,o5_,o6_,g1.2):=hm
           subst hm
           refine ⟨[],[(7,some 4)],?_⟩
           (conv=>whnf)
           exact ⟨⟨rfl,trivial,⟨⟨sr,sr,r2,sr,sr,sr,sr,sr,⟨rfl,rfl,rfl,rfl,nofun⟩,⟨rfl,rfl,rfl,rfl,nofun⟩,⟨rfl,rfl,rfl,rfl,nofun⟩,⟨rfl,rfl,rfl,rfl,nofun⟩,⟨rfl,rfl,rfl,rfl,nofun⟩,⟨rfl,rfl,rfl,rfl,nofun⟩,rfl,trivial⟩,⟨rfl,rfl,(fun _ _=>.refl _)⟩,⟨rfl,rfl,(fun _ _=>.refl _)⟩,⟨rfl,rfl,(fun _ _=>.refl _)⟩,⟨rfl,rfl,(fun _ _=>.refl _)⟩,⟨rfl,rfl,(fun _ _=>.refl _)⟩,⟨rfl,rfl,(fun _ _=>.refl _)⟩,trivial⟩⟩,rfl⟩
       ·(conv=>whnf)
        have hm:r=(false,o0x8_,o1_,o2_,o3_,o5_,o6_,o4_):=hm
        subst hm
        refine ⟨[],[(7,some 4)],?_⟩
        (conv=>whnf)
        exact ⟨⟨rfl,trivial,⟨⟨sr,sr,r2,sr,sr,sr,sr,sr,⟨rfl,rfl,rfl,rfl,nofun⟩,⟨rfl,rfl,rfl,rfl,nofun⟩,⟨rfl,rfl,rfl,rfl,nofun⟩,⟨rfl,rfl,rfl,rfl,nofun⟩,⟨rfl,rfl,rfl,rfl,nofun⟩,⟨rfl,rfl,rfl,rfl,nofun⟩,rfl,trivial⟩,⟨rfl,rfl,(fun _ _=>.refl _)⟩,⟨rfl,rfl,(fun _ _=>.refl _)⟩,⟨rfl,rfl,(fun _ _=>.refl _)⟩,⟨rfl,rfl,(fun _ _=>.refl _)⟩,⟨rfl,rfl,(fun _ _=>.refl _)⟩,⟨rfl,rfl,(fun _ _=>.refl _)⟩,trivial⟩⟩,rfl⟩
end Go.Proofs.YtfblhejmclcdmaaGreatDoor


namespace Go.Proofs.YtfblhejmclcdmaaGreatDoor
open Go.Ab
set_option maxRecDepth 100000
set_option maxHeartbeats 20000000
theorem Cn {b_:aU} {l_:(List aH)} {members_:(List Int)} {g_:aG} {w_:(List bU)} {r:(aG×Int×Int×Int)} (hm:uQ b_ l_ members_ g_ w_ r):S 14 [iY b_,dB l_,ak members_,iX g_,gV w_] [] (.jX [iX r.1,iV r.2.1,iV r.2.2.1,iV r.2.2.2]) [] :=sp Tryz.func14 rfl<|sb hm fun v1 hv1 hm=>cl (l9 hv1)<|si hm (fun _ hm=>by cases hm;exact re) fun _ hm=>sb hm fun v2 hv2 hm=>cl (vB hv2)<|si hm (fun _ hm=>by cases hm;exact re) fun _ hm=>sb hm fun v3 hv3 hm=>cl (y9 hv3)<|sb hm fun v4 hv4 hm=>cl (kV hv4)<|si hm (fun _ hm=>by cases hm;exact rt [160,161,162,163,164,165] [] (by (conv=>whnf);exact ⟨⟨rfl,trivial,trivial⟩,(by (conv=>whnf); exact ⟨(by (conv=>whnf); exact ⟨(by (conv=>whnf); exact sf),(by (conv=>whnf); exact ⟨(by (conv=>whnf); exact sf),(by (conv=>whnf); exact ⟨(by (conv=>whnf); exact sf),(by (conv=>whnf); exact ⟨(by (conv=>whnf); exact sf),(by (conv=>whnf); exact ⟨(by (conv=>whnf); exact sf),(by (conv=>whnf); exact ⟨(by (conv=>whnf); exact sf),trivial⟩)⟩)⟩)⟩)⟩)⟩),(by (conv=>whnf); exact ⟨(by first | ((conv=>whnf); exact r2) | exact r2),(by (conv=>whnf); exact ⟨(by first | ((conv=>whnf); exact r2) | exact r2),(by (conv=>whnf); exact ⟨(by first | ((conv=>whnf); exact r2) | exact r2),trivial⟩)⟩)⟩)⟩)⟩)) fun _ hm=>lf hm (fun g1=>⟨[(4,gV w_),(10,.ptr 0 0 0),(15,.ptr 1 0 0),(45,gV w_),(46,iV (w_.length:Int)),(47,iV g1.1)],[(0,some (.box [.sl 0 0 true dL,.sl 0 0 true dL,.sl 0 0 true dL,.sl 0 0 true dL,.sl 0 0 true dL,.sl 0 0 true dL])),(1,some (.box [aS b_.bD,aM b_.aV,iV b_.aN.bn,aO b_.aN.Groups,bL b_.Resets,bC b_.bI,dB l_,ak members_,.dh 2 0 g1.2.2.1.length false,.dh 3 0 g1.2.2.2.1.length false,.dh 4 0 g1.2.2.2.2.1.length false,.dh 5 0 g1.2.1 false,.dh 6 0 g1.2.2.2.2.2.2.1.length false,.dh 7 0 g1.2.2.2.2.2.2.2.length false,.bool true])),(2,some (.row 1 g1.2.2.1.length (bE iV 0 g1.2.2.1))),(3,some (.row 1 g1.2.2.2.1.length (bE AV.bool false g1.2.2.2.1))),(4,some (.row 1 g1.2.2.2.2.1.length (bE iV 0 g1.2.2.2.2.1))),(5,some (.row 3 g1.2.2.2.2.2.1.length (bE dX bq g1.2.2.2.2.2.1))),(6,some (.row 1 g1.2.2.2.2.2.2.1.length (bE AV.bool false g1.2.2.2.2.2.2.1))),(7,some (.row 1 g1.2.2.2.2.2.2.2.length (bE AV.bool false g1.2.2.2.2.2.2.2)))],8⟩) [(0,some 16),(1,some 176),(2,some 160),(3,some 161),(4,some 162),(5,some 163),(6,some 164),(7,some 165)] [] <|fun self1 g1 hm=>by
 have h10:=hm.1
 have hm:=hm.2
 refine dK hm (fun c10 hm=>?_) (fun c10 hm=>?_)
 ·(conv=>whnf)
  refine aT hm fun h7 hm=>?_
  (conv=>whnf)
  refine dz hm fun v9 hv9 hm=>?_
  refine ⟨_,_,(Jc hv9),?_⟩
  (conv=>whnf)
  have h8:=hm.1
  have hm:=hm.2
  refine dK hm (fun c11 hm=>?_) (fun c11 hm=>?_)
  ·(conv=>whnf)
   have hm:r=((⟨([]:List Int),(⟨([]:List Bool),([]:List Int)⟩:bf),([]:List aK),([]:List Bool),([]:List Bool)⟩:aG),(0:Int),(0:Int),(2:Int)):=hm
   subst hm
   refine ⟨[],[],?_⟩
   (conv=>whnf)
   exact ⟨⟨rfl,trivial,trivial⟩,⟨⟨⟨rfl,(fun h=>absurd rfl h),nofun,(fun _ h=>absurd h (Nat.not_lt_zero _))⟩,⟨rfl,(fun h=>absurd rfl h),nofun,(fun _ h=>absurd h (Nat.not_lt_zero _))⟩,⟨rfl,(fun h=>absurd rfl h),nofun,(fun _ h=>absurd h (Nat.not_lt_zero _))⟩,⟨rfl,(fun h=>absurd rfl h),nofun,(fun _ h=>absurd h (Nat.not_lt_zero _))⟩,⟨rfl,(fun h=>absurd rfl h),nofun,(fun _ h=>absurd h (Nat.not_lt_zero _))⟩,⟨rfl,(fun h=>absurd rfl h),nofun,(fun _ h=>absurd h (Nat.not_lt_zero _))⟩,trivial⟩,r2,r2,r2,trivial⟩⟩
  ·(conv=>whnf)
   refine dz hm fun v10 hv10 hm=>?_
   refine ⟨_,_,((kV hv10).le ⟨(Le.vG ⟨(.refl _),(.refl _),(.refl _),(.refl _),(.refl _),(.refl _),(.refl _),(.refl _),(.refl _),(.refl _),(.refl _),(.sl oz (fun _=>rfl) nofun (le_rtake (f:=dX) (d:=bq) (by first | omega | (simp; omega)))),(.refl _),(.refl _),(.refl _),trivial⟩),trivial⟩ trivial),?_⟩
   (conv=>whnf)
   refine dK hm (fun c12 hm=>?_) (fun c12 hm=>?_)
   ·(conv=>whnf)
    have hm:r=((⟨v9.2.2.1,(⟨v9.2.2.2.1,v9.2.2.2.2.1⟩:bf),(v9.2.2.2.2.2.2.2.take (v9.2.1)),v9.2.2.2.2.2.1,v9.2.2.2.2.2.2.1⟩:aG),g1.1,v10,(0:Int)):=hm
    subst hm
    refine ⟨[2,3,4,80,6,7],[],?_⟩
    (conv=>whnf)
    exact ⟨⟨rfl,trivial,trivial⟩,(by (conv=>whnf); exact ⟨(by (conv=>whnf); exact ⟨(by (conv=>whnf); exact sf),(by (conv=>whnf); exact ⟨(by (conv=>whnf); exact sf),(by (conv=>whnf); exact ⟨(by (conv=>whnf); exact sf),(by (conv=>whnf); exact ⟨(by (conv=>whnf); exact ⟨oz,(fun _=>rfl),nofun,(le_rtake (f:=dX) (d:=bq) (by first | omega | (simp; omega)))⟩),(by (conv=>whnf); exact ⟨(by (conv=>whnf); exact sf),(by (conv=>whnf); exact ⟨(by (conv=>whnf); exact sf),trivial⟩)⟩)⟩)⟩)⟩)⟩),(by (conv=>whnf); exact ⟨(by first | ((conv=>whnf); exact r2) | exact r2),(by (conv=>whnf); exact ⟨(by first | ((conv=>whnf); exact r2) | exact r2),(by (conv=>whnf); exact ⟨(by first | ((conv=>whnf); exact r2) | exact r2),trivial⟩)⟩)⟩)⟩)⟩
   ·(conv=>whnf)
    refine aT hm fun h9 hm=>?_
    (conv=>whnf)
    exact ⟨((g1.1+(1:Int)),v9.2.1,v9.2.2.1,v9.2.2.2.1,v9.2.2.2.2.1,v9.2.2.2.2.2.2.2,v9.2.2.2.2.2.1,v9.2.2.2.2.2.2.1),[(5,some 80)],[],hm,⟨rfl,⟨sr,r4,r4,sr,r2,r2,trivial⟩,⟨⟨sr,sr,sr,sr,sr,sr,trivial⟩,⟨sr,sr,r2,sr,sr,sr,sr,sr,⟨rfl,rfl,rfl,rfl,nofun⟩,⟨rfl,rfl,rfl,rfl,nofun⟩,⟨rfl,rfl,rfl,rfl,nofun⟩,⟨rfl,rfl,rfl,rfl,nofun⟩,⟨rfl,rfl,rfl,rfl,nofun⟩,⟨rfl,rfl,rfl,rfl,nofun⟩,rfl,trivial⟩,⟨rfl,rfl,(fun _ _=>.refl _)⟩,⟨rfl,rfl,(fun _ _=>.refl _)⟩,⟨rfl,rfl,(fun _ _=>.refl _)⟩,⟨rfl,rfl,(fun _ _=>.refl _)⟩,⟨rfl,rfl,(fun _ _=>.refl _)⟩,⟨rfl,rfl,(fun _ _=>.refl _)⟩,trivial⟩⟩⟩
 ·(conv=>whnf)
  have hm:r=((⟨g1.2.2.1,(⟨g1.2.2.2.1,g1.2.2.2.2.1⟩:bf),(g1.2.2.2.2.2.1.take (g1.2.1)),g1.2.2.2.2.2.2.1,g1.2.2.2.2.2.2.2⟩:aG),(w_.length:Int),(0:Int),(0:Int)):=hm
  subst hm
  refine ⟨[2,3,4,5,6,7],[],?_⟩
  (conv=>whnf)
  exact ⟨⟨rfl,trivial,trivial⟩,(by (conv=>whnf); exact ⟨(by (conv=>whnf); exact ⟨(by (conv=>whnf); exact sf),(by (conv=>whnf); exact ⟨(by (conv=>whnf); exact sf),(by (conv=>whnf); exact ⟨(by (conv=>whnf); exact sf),(by (conv=>whnf); exact ⟨(by (conv=>whnf); exact ⟨oz,(fun _=>rfl),nofun,(le_rtake (f:=dX) (d:=bq) (by first | omega | (simp; omega)))⟩),(by (conv=>whnf); exact ⟨(by (conv=>whnf); exact sf),(by (conv=>whnf); exact ⟨(by (conv=>whnf); exact sf),trivial⟩)⟩)⟩)⟩)⟩)⟩),(by (conv=>whnf); exact ⟨(by first | ((conv=>whnf); exact r2) | exact r2),(by (conv=>whnf); exact ⟨(by first | ((conv=>whnf); exact r2) | exact r2),(by (conv=>whnf); exact ⟨(by first | ((conv=>whnf); exact r2) | exact r2),trivial⟩)⟩)⟩)⟩)⟩
theorem eH {b_:aU} {l_:(List aH)} {members_:(List Int)} {g_:aG} {between_:Bool} {r:Int} (hm:fD b_ l_ members_ g_ between_ r):S 10 [iY b_,dB l_,ak members_,iX g_,.bool between_] [] (iV r) [] :=sp Tryz.func10 rfl<|sb hm fun v1 hv1 hm=>cl (l9 hv1)<|si hm (fun _ hm=>by cases hm;exact re) fun _ hm=>sb hm fun v2 hv2 hm=>cl (kV hv2)<|by cases hm;exact re
theorem EJ  {r:Bool} (hm:CX r):S 6 [] [] (.bool r) [] :=Sj [3,4,5] Tryz.func6 rfl<|ck [3,4,5] Js r (fun g1=>⟨[(1,.dh 0 0 g1.1.length false),(2,.ptr 1 0 0)],[(0,some (.row 6 g1.1.length (bE qg aP g1.1))),(1,some (.box [.sl 0 0 true dL,.sl 0 0 true dL,.sl 0 0 true dL,.dh 2 0 g1.2.2.length false,aJ g1.2.1,.sl 0 0 true dL])),(2,some (.row 3 g1.2.2.length (bE dX bq g1.2.2)))],3⟩) (lc [(0,some 24),(1,some 80),(2,some 56)] [64] hm) fun g1 hm=>ck [3,4,5] (Jr g1) r (fun g2=>⟨[(1,.dh 0 0 g1.1.length false),(2,.ptr 1 0 0),(3,.ptr 2 0 0)],[(0,some (.row 6 g1.1.length (bE qg aP g1.1))),(1,some (.box [.sl 0 0 true dL,.sl 0 0 true dL,.sl 0 0 true dL,bN g2.1,aJ g1.2.1,.sl 0 0 true dL])),(2,some (.box [.sl 0 0 true dL,.sl 0 0 true dL,.sl 0 0 true dL,bN g2.2,aJ g1.2.1,.sl 0 0 true dL]))],3⟩) (lc [(2,some 11)] [2] hm) fun g2 hm=>ck [3,4,5] (Jq g1 g2) r (fun g3=>⟨[(1,dB g3.1),(2,.ptr 0 0 0),(3,.ptr 1 0 0)],[(0,some (.box [.sl 0 0 true dL,.sl 0 0 true dL,.sl 0 0 true dL,bN g2.1,aJ g1.2.1,.sl 0 0 true dL])),(1,some (.box [.sl 0 0 true dL,.sl 0 0 true dL,.sl 0 0 true dL,bN g2.2,.dh 2 0 g3.2.length false,.sl 0 0 true dL])),(2,some (.row 1 g3.2.length (bE AV.bool false g3.2)))],3⟩) (lc [(0,some 1),(1,some 2),(2,some 3)] [0] hm) fun g3 hm=>sb hm fun v1 hv1 hm=>cl (eG hv1)<|sb hm fun v2 hv2 hm=>cl ((Cn hv2).le ⟨.refl _,.refl _,(.sl rfl (fun _=>rfl) nofun (le_litG iV 0 [(0:Int)])),(Le.vG ⟨(.sl rfl (fun h=>absurd rfl h) nofun (fun _ h=>absurd h (Nat.not_lt_zero _))),(.sl rfl (fun h=>absurd rfl h) nofun (fun _ h=>absurd h (Nat.not_lt_zero _))),(.sl rfl (fun h=>absurd rfl h) nofun (fun _ h=>absurd h (Nat.not_lt_zero _))),(.refl _),(.refl _),(.sl rfl (fun h=>absurd rfl h) nofun (fun _ h=>absurd h (Nat.not_lt_zero _))),trivial⟩),(.sl rfl (fun _=>rfl) nofun (le_litG vWrite dWrite [(⟨(11:Int),(1:Int),(1:Int)⟩:bU),(⟨(10:Int),(0:Int),(0:Int)⟩:bU)])),trivial⟩ trivial)<|sb hm fun v3 hv3 hm=>cl (eG hv3)<|sb hm fun v4 hv4 hm=>cl (nU hv4)<|si hm (fun _ hm=>sb hm fun v5 hv5 hm=>cl (eG hv5)<|sb hm fun v6 hv6 hm=>cl (fun q0=>(l9 (hv6 q0)))<|si hm (fun _ hm=>sb hm fun v7 hv7 hm=>cl (eG hv7)<|si hm (fun _ hm=>sb hm fun v8 hv8 hm=>cl (fun q0=>((eH (hv8 q0)).le ⟨.refl _,.refl _,(.sl rfl (fun _=>rfl) nofun (le_litG iV 0 [(0:Int)])),(Le.vG ⟨(.sl rfl (fun h=>absurd rfl h) nofun (fun _ h=>absurd h (Nat.not_lt_zero _))),(.sl rfl (fun h=>absurd rfl h) nofun (fun _ h=>absurd h (Nat.not_lt_zero _))),(.sl rfl (fun h=>absurd rfl h) nofun (fun _ h=>absurd h (Nat.not_lt_zero _))),(.refl _),(.refl _),(.sl rfl (fun h=>absurd rfl h) nofun (fun _ h=>absurd h (Nat.not_lt_zero _))),trivial⟩),.refl _,trivial⟩ trivial))<|si hm (fun _ hm=>sb hm fun v9 hv9 hm=>cl (eG hv9)<|sb hm fun v10 hv10 hm=>cl (fun q0=>((eH (hv10 q0)).le ⟨.refl _,.refl _,(.sl rfl (fun h=>absurd rfl h) nofun (fun _ h=>absurd h (Nat.not_lt_zero _))),(Le.vG ⟨(.sl rfl (fun h=>absurd rfl h) nofun (fun _ h=>absurd h (Nat.not_lt_zero _))),(.sl rfl (fun h=>absurd rfl h) nofun (fun _ h=>absurd h (Nat.not_lt_zero _))),(.sl rfl (fun h=>absurd rfl h) nofun (fun _ h=>absurd h (Nat.not_lt_zero _))),(.refl _),(.refl _),(.sl rfl (fun h=>absurd rfl h) nofun (fun _ h=>absurd h (Nat.not_lt_zero _))),trivial⟩),.refl _,trivial⟩ trivial))<|by cases hm;exact re) fun c4 hm=>by
 refine ⟨iV 0,[],(fun q0=>absurd q0 (NV c4)),?_⟩
 (conv=>whnf)
 have hm:r=(((((((v4==(0:Int))&&(v6==(0:Int)))&&(v8==(0:Int)))&&((0:Int)==(7:Int)))&&(v2.2.2.2==(0:Int)))&&(v2.2.1==(1:Int)))&&(v2.2.2.1==(6:Int))):=hm
 subst hm
 refine ⟨[],[],?_⟩
 (conv=>whnf)
 exact ⟨⟨rfl,trivial,trivial⟩,rfl⟩) fun c3 hm=>by
 refine ⟨iV 0,[],(fun q0=>absurd q0 (NV c3)),?_⟩
 (conv=>whnf)
 refine dK hm (fun c5 hm=>?_) (fun c5 hm=>?_)
 ·(conv=>whnf)
  refine dz hm fun v11 hv11 hm=>?_
  refine ⟨_,_,(eG hv11),?_⟩
  (conv=>whnf)
  refine dz hm fun v12 hv12 hm=>?_
  refine ⟨_,_,(fun q0=>((eH (hv12 q0)).le ⟨.refl _,.refl _,(.sl rfl (fun h=>absurd rfl h) nofun (fun _ h=>absurd h (Nat.not_lt_zero _))),(Le.vG ⟨(.sl rfl (fun h=>absurd rfl h) nofun (fun _ h=>absurd h (Nat.not_lt_zero _))),(.sl rfl (fun h=>absurd rfl h) nofun (fun _ h=>absurd h (Nat.not_lt_zero _))),(.sl rfl (fun h=>absurd rfl h) nofun (fun _ h=>absurd h (Nat.not_lt_zero _))),(.refl _),(.refl _),(.sl rfl (fun h=>absurd rfl h) nofun (fun _ h=>absurd h (Nat.not_lt_zero _))),trivial⟩),.refl _,trivial⟩ trivial)),?_⟩
  (conv=>whnf)
  have hm:r=(((((((v4==(0:Int))&&(v6==(0:Int)))&&((0:Int)==(0:Int)))&&(v12==(7:Int)))&&(v2.2.2.2==(0:Int)))&&(v2.2.1==(1:Int)))&&(v2.2.2.1==(6:Int))):=hm
  subst hm
  refine ⟨[],[],?_⟩
  (conv=>whnf)
  exact ⟨⟨rfl,trivial,trivial⟩,rfl⟩
 ·(conv=>whnf)
  refine ⟨iV 0,[],(fun q0=>absurd q0 (NV c5)),?_⟩
  (conv=>whnf)
  have hm:r=(((((((v4==(0:Int))&&(v6==(0:Int)))&&((0:Int)==(0:Int)))&&((0:Int)==(7:Int)))&&(v2.2.2.2==(0:Int)))&&(v2.2.1==(1:Int)))&&(v2.2.2.1==(6:Int))):=hm
  subst hm
  refine ⟨[],[],?_⟩
  (conv=>whnf)
  exact ⟨⟨rfl,trivial,trivial⟩,rfl⟩) fun c2 hm=>si hm (fun _ hm=>by
 refine ⟨iV 0,[],(fun q0=>absurd q0 (NV c2)),?_⟩
 (conv=>whnf)
 refine dK hm (fun c7 hm=>?_) (fun c7 hm=>?_)
 ·(conv=>whnf)
  refine dz hm fun v13 hv13 hm=>?_
  refine ⟨_,_,(eG hv13),?_⟩
  (conv=>whnf)
  refine dz hm fun v14 hv14 hm=>?_
  refine ⟨_,_,(fun q0=>((eH (hv14 q0)).le ⟨.refl _,.refl _,(.sl rfl (fun h=>absurd rfl h) nofun (fun _ h=>absurd h (Nat.not_lt_zero _))),(Le.vG ⟨(.sl rfl (fun h=>absurd rfl h) nofun (fun _ h=>absurd h (Nat.not_lt_zero _))),(.sl rfl (fun h=>absurd rfl h) nofun (fun _ h=>absurd h (Nat.not_lt_zero _))),(.sl rfl (fun h=>absurd rfl h) nofun (fun _ h=>absurd h (Nat.not_lt_zero _))),(.refl _),(.refl _),(.sl rfl (fun h=>absurd rfl h) nofun (fun _ h=>absurd h (Nat.not_lt_zero _))),trivial⟩),.refl _,trivial⟩ trivial)),?_⟩
  (conv=>whnf)
  have hm:r=(((((((v4==(0:Int))&&(v6==(0:Int)))&&((0:Int)==(0:Int)))&&(v14==(7:Int)))&&(v2.2.2.2==(0:Int)))&&(v2.2.1==(1:Int)))&&(v2.2.2.1==(6:Int))):=hm
  subst hm
  refine ⟨[],[],?_⟩
  (conv=>whnf)
  exact ⟨⟨rfl,trivial,trivial⟩,rfl⟩
 ·(conv=>whnf)
  refine ⟨iV 0,[],(fun q0=>absurd q0 (NV c7)),?_⟩
  (conv=>whnf)
  have hm:r=(((((((v4==(0:Int))&&(v6==(0:Int)))&&((0:Int)==(0:Int)))&&((0:Int)==(7:Int)))&&(v2.2.2.2==(0:Int)))&&(v2.2.1==(1:Int)))&&(v2.2.2.1==(6:Int))):=hm
  subst hm
  refine ⟨[],[],?_⟩
  (conv=>whnf)
  exact ⟨⟨rfl,trivial,trivial⟩,rfl⟩) fun _ hm=>by
 refine ⟨iV 0,[],(fun q0=>absurd q0 (NV c2)),?_⟩
 (conv=>whnf)
 refine dK hm (fun c8 hm=>?_) (fun c8 hm=>?_)
 ·(conv=>whnf)
  refine dz hm fun v15 hv15 hm=>?_
  refine ⟨_,_,(eG hv15),?_⟩
  (conv=>whnf)
  refine dz hm fun v16 hv16 hm=>?_
  refine ⟨_,_,(fun q0=>((eH (hv16 q0)).le ⟨.refl _,.refl _,(.sl rfl (fun h=>absurd rfl h) nofun (fun _ h=>absurd h (Nat.not_lt_zero _))),(Le.vG ⟨(.sl rfl (fun h=>absurd rfl h) nofun (fun _ h=>absurd h (Nat.not_lt_zero _))),(.sl rfl (fun h=>absurd rfl h) nofun (fun _ h=>absurd h (Nat.not_lt_zero _))),(.sl rfl (fun h=>absurd rfl h) nofun (fun _ h=>absurd h (Nat.not_lt_zero _))),(.refl _),(.refl _),(.sl rfl (fun h=>absurd rfl h) nofun (fun _ h=>absurd h (Nat.not_lt_zero _))),trivial⟩),.refl _,trivial⟩ trivial)),?_⟩
  (conv=>whnf)
  have hm:r=(((((((v4==(0:Int))&&(v6==(0:Int)))&&((0:Int)==(0:Int)))&&(v16==(7:Int)))&&(v2.2.2.2==(0:Int)))&&(v2.2.1==(1:Int)))&&(v2.2.2.1==(6:Int))):=hm
  subst hm
  refine ⟨[],[],?_⟩
  (conv=>whnf)
  exact ⟨⟨rfl,trivial,trivial⟩,rfl⟩
 ·(conv=>whnf)
  refine ⟨iV 0,[],(fun q0=>absurd q0 (NV c8)),?_⟩
  (conv=>whnf)
  have hm:r=(((((((v4==(0:Int))&&(v6==(0:Int)))&&((0:Int)==(0:Int)))&&((0:Int)==(7:Int)))&&(v2.2.2.2==(0:Int)))&&(v2.2.1==(1:Int)))&&(v2.2.2.1==(6:Int))):=hm
  subst hm
  refine ⟨[],[],?_⟩
  (conv=>whnf)
  exact ⟨⟨rfl,trivial,trivial⟩,rfl⟩) fun c1 hm=>by
 refine ⟨iV 0,[],(fun q0=>absurd q0 (NV c1)),?_⟩
 (conv=>whnf)
 refine dK hm (fun c9 hm=>?_) (fun c9 hm=>?_)
 ·(conv=>whnf)
  refine dz hm fun v17 hv17 hm=>?_
  refine ⟨_,_,(eG hv17),?_⟩
  (conv=>whnf)
  refine dK hm (fun c10 hm=>?_) (fun c10 hm=>?_)
  ·(conv=>whnf)
   refine dz hm fun v18 hv18 hm=>?_
   refine ⟨_,_,(fun q0=>((eH (hv18 q0)).le ⟨.refl _,.refl _,(.sl rfl (fun _=>rfl) nofun (le_litG iV 0 [(0:Int)])),(Le.vG ⟨(.sl rfl (fun h=>absurd rfl h) nofun (fun _ h=>absurd h (Nat.not_lt_zero _))),(.sl rfl (fun h=>absurd rfl h) nofun (fun _ h=>absurd h (Nat.not_lt_zero _))),(.sl rfl (fun h=>absurd rfl h) nofun (fun _ h=>absurd h (Nat.not_lt_zero _))),(.refl _),(.refl _),(.sl rfl (fun h=>absurd rfl h) nofun (fun _ h=>absurd h (Nat.not_lt_zero _))),trivial⟩),.refl _,trivial⟩ trivial)),?_⟩
   (conv=>whnf)
   refine dK hm (fun c11 hm=>?_) (fun c11 hm=>?_)
   ·(conv=>whnf)
    refine dz hm fun v19 hv19 hm=>?_
    refine ⟨_,_,(eG hv19),?_⟩
    (conv=>whnf)
    refine dz hm fun v20 hv20 hm=>?_
    refine ⟨_,_,(fun q0=>((eH (hv20 q0)).le ⟨.refl _,.refl _,(.sl rfl (fun h=>absurd rfl h) nofun (fun _ h=>absurd h (Nat.not_lt_zero _))),(Le.vG ⟨(.sl rfl (fun h=>absurd rfl h) nofun (fun _ h=>absurd h (Nat.not_lt_zero _))),(.sl rfl (fun h=>absurd rfl h) nofun (fun _ h=>absurd h (Nat.not_lt_zero _))),(.sl rfl (fun h=>absurd rfl h) nofun (fun _ h=>absurd h (Nat.not_lt_zero _))),(.refl _),(.refl _),(.sl rfl (fun h=>absurd rfl h) nofun (fun _ h=>absurd h (Nat.not_lt_zero _))),trivial⟩),.refl _,trivial⟩ trivial)),?_⟩
    (conv=>whnf)
    have hm:r=(((((((v4==(0:Int))&&((0:Int)==(0:Int)))&&(v18==(0:Int)))&&(v20==(7:Int)))&&(v2.2.2.2==(0:Int)))&&(v2.2.1==(1:Int)))&&(v2.2.2.1==(6:Int))):=hm
    subst hm
    refine ⟨[],[],?_⟩
    (conv=>whnf)
    exact ⟨⟨rfl,trivial,trivial⟩,rfl⟩
   ·(conv=>whnf)
    refine ⟨iV 0,[],(fun q0=>absurd q0 (NV c11)),?_⟩
    (conv=>whnf)
    have hm:r=(((((((v4==(0:Int))&&((0:Int)==(0:Int)))&&(v18==(0:Int)))&&((0:Int)==(7:Int)))&&(v2.2.2.2==(0:Int)))&&(v2.2.1==(1:Int)))&&(v2.2.2.1==(6:Int))):=hm
    subst hm
    refine ⟨[],[],?_⟩
    (conv=>whnf)
    exact ⟨⟨rfl,trivial,trivial⟩,rfl⟩
  ·(conv=>whnf)
   refine ⟨iV 0,[],(fun q0=>absurd q0 (NV c10)),?_⟩
   (conv=>whnf)
   refine dK hm (fun c12 hm=>?_) (fun c12 hm=>?_)
   ·(conv=>whnf)
    refine dz hm fun v21 hv21 hm=>?_
    refine ⟨_,_,(eG hv21),?_⟩
    (conv=>whnf)
    refine dz hm fun v22 hv22 hm=>?_
    refine ⟨_,_,(fun q0=>((eH (hv22 q0)).le ⟨.refl _,.refl _,(.sl rfl (fun h=>absurd rfl h) nofun (fun _ h=>absurd h (Nat.not_lt_zero _))),(Le.vG ⟨(.sl rfl (fun h=>absurd rfl h) nofun (fun _ h=>absurd h (Nat.not_lt_zero _))),(.sl rfl (fun h=>absurd rfl h) nofun (fun _ h=>absurd h (Nat.not_lt_zero _))),(.sl rfl (fun h=>absurd rfl h) nofun (fun _ h=>absurd h (Nat.not_lt_zero _))),(.refl _),(.refl _),(.sl rfl (fun h=>absurd rfl h) nofun (fun _ h=>absurd h (Nat.not_lt_zero _))),trivial⟩),.refl _,trivial⟩ trivial)),?_⟩
    (conv=>whnf)
    have hm:r=(((((((v4==(0:Int))&&((0:Int)==(0:Int)))&&((0:Int)==(0:Int)))&&(v22==(7:Int)))&&(v2.2.2.2==(0:Int)))&&(v2.2.1==(1:Int)))&&(v2.2.2.1==(6:Int))):=hm
    subst hm
    refine ⟨[],[],?_⟩
    (conv=>whnf)
    exact ⟨⟨rfl,trivial,trivial⟩,rfl⟩
   ·(conv=>whnf)
    refine ⟨iV 0,[],(fun q0=>absurd q0 (NV c12)),?_⟩
    (conv=>whnf)
    have hm:r=(((((((v4==(0:Int))&&((0:Int)==(0:Int)))&&((0:Int)==(0:Int)))&&((0:Int)==(7:Int)))&&(v2.2.2.2==(0:Int)))&&(v2.2.1==(1:Int)))&&(v2.2.2.1==(6:Int))):=hm
    subst hm
    refine ⟨[],[],?_⟩
    (conv=>whnf)
    exact ⟨⟨rfl,trivial,trivial⟩,rfl⟩
 ·(conv=>whnf)
  refine dK hm (fun c13 hm=>?_) (fun c13 hm=>?_)
  ·(conv=>whnf)
   refine ⟨iV 0,[],(fun q0=>absurd q0 (NV c9)),?_⟩
   (conv=>whnf)
   refine dK hm (fun c14 hm=>?_) (fun c14 hm=>?_)
   ·(conv=>whnf)
    refine dz hm fun v23 hv23 hm=>?_
    refine ⟨_,_,(eG hv23),?_⟩
    (conv=>whnf)
    refine dz hm fun v24 hv24 hm=>?_
    refine ⟨_,_,(fun q0=>((eH (hv24 q0)).le ⟨.refl _,.refl _,(.sl rfl (fun h=>absurd rfl h) nofun (fun _ h=>absurd h (Nat.not_lt_zero _))),(Le.vG ⟨(.sl rfl (fun h=>absurd rfl h) nofun (fun _ h=>absurd h (Nat.not_lt_zero _))),(.sl rfl (fun h=>absurd rfl h) nofun (fun _ h=>absurd h (Nat.not_lt_zero _))),(.sl rfl (fun h=>absurd rfl h) nofun (fun _ h=>absurd h (Nat.not_lt_zero _))),(.refl _),(.refl _),(.sl rfl (fun h=>absurd rfl h) nofun (fun _ h=>absurd h (Nat.not_lt_zero _))),trivial⟩),.refl _,trivial⟩ trivial)),?_⟩
    (conv=>whnf)
    have hm:r=(((((((v4==(0:Int))&&((0:Int)==(0:Int)))&&((0:Int)==(0:Int)))&&(v24==(7:Int)))&&(v2.2.2.2==(0:Int)))&&(v2.2.1==(1:Int)))&&(v2.2.2.1==(6:Int))):=hm
    subst hm
    refine ⟨[],[],?_⟩
    (conv=>whnf)
    exact ⟨⟨rfl,trivial,trivial⟩,rfl⟩
   ·(conv=>whnf)
    refine ⟨iV 0,[],(fun q0=>absurd q0 (NV c14)),?_⟩
    (conv=>whnf)
    have hm:r=(((((((v4==(0:Int))&&((0:Int)==(0:Int)))&&((0:Int)==(0:Int)))&&((0:Int)==(7:Int)))&&(v2.2.2.2==(0:Int)))&&(v2.2.1==(1:Int)))&&(v2.2.2.1==(6:Int))):=hm
    subst hm
    refine ⟨[],[],?_⟩
    (conv=>whnf)
    exact ⟨⟨rfl,trivial,trivial⟩,rfl⟩
  ·(conv=>whnf)
   refine ⟨iV 0,[],(fun q0=>absurd q0 (NV c9)),?_⟩
   (conv=>whnf)
   refine dK hm (fun c15 hm=>?_) (fun c15 hm=>?_)
   ·(conv=>whnf)
    refine dz hm fun v25 hv25 hm=>?_
    refine ⟨_,_,(eG hv25),?_⟩
    (conv=>whnf)
    refine dz hm fun v26 hv26 hm=>?_
    refine ⟨_,_,(fun q0=>((eH (hv26 q0)).le ⟨.refl _,.refl _,(.sl rfl (fun h=>absurd rfl h) nofun (fun _ h=>absurd h (Nat.not_lt_zero _))),(Le.vG ⟨(.sl rfl (fun h=>absurd rfl h) nofun (fun _ h=>absurd h (Nat.not_lt_zero _))),(.sl rfl (fun h=>absurd rfl h) nofun (fun _ h=>absurd h (Nat.not_lt_zero _))),(.sl rfl (fun h=>absurd rfl h) nofun (fun _ h=>absurd h (Nat.not_lt_zero _))),(.refl _),(.refl _),(.sl rfl (fun h=>absurd rfl h) nofun (fun _ h=>absurd h (Nat.not_lt_zero _))),trivial⟩),.refl _,trivial⟩ trivial)),?_⟩
    (conv=>whnf)
    have hm:r=(((((((v4==(0:Int))&&((0:Int)==(0:Int)))&&((0:Int)==(0:Int)))&&(v26==(7:Int)))&&(v2.2.2.2==(0:Int)))&&(v2.2.1==(1:Int)))&&(v2.2.2.1==(6:Int))):=hm
    subst hm
    refine ⟨[],[],?_⟩
    (conv=>whnf)
    exact ⟨⟨rfl,trivial,trivial⟩,rfl⟩
   ·(conv=>whnf)
    refine ⟨iV 0,[],(fun q0=>absurd q0 (NV c15)),?_⟩
    (conv=>whnf)
    have hm:r=(((((((v4==(0:Int))&&((0:Int)==(0:Int)))&&((0:Int)==(0:Int)))&&((0:Int)==(7:Int)))&&(v2.2.2.2==(0:Int)))&&(v2.2.1==(1:Int)))&&(v2.2.2.1==(6:Int))):=hm
    subst hm
    refine ⟨[],[],?_⟩
    (conv=>whnf)
    exact ⟨⟨rfl,trivial,trivial⟩,rfl⟩
theorem Rh {l_:(List Int)} {r:((List Int)×Int)} (hm:Io l_ r):S 7 [ak l_] [] (.ptr 0 0 0) [.box [ak r.1,iV r.2]] :=sp Tryz.func7 rfl<|sn hm fun _ hm=>by cases hm;exact rt [] [(0,some 56)]
theorem Ri {x_:Int} {n_:Int} {r:Int} (hm:Ip x_ n_ r):S 34 [iV x_,iV n_] [] (iV r) [] :=sp Tryz.func34 rfl<|si hm (fun _ hm=>by cases hm;exact re) fun _ hm=>s2 hm fun _ _ hm=>sn hm fun _ hm=>by cases hm;exact re
theorem aX {n_:Int} {o0_:bH} {r:(Int×bH)} (hm:bS n_ o0_ r):S 11 [.ptr 0 0 0,iV n_] [.box [ak o0_.L,iV o0_.At]] (iV r.1) [.box [ak r.2.L,iV r.2.At]] :=sp Tryz.func11 rfl<|si hm (fun _ hm=>by cases hm;exact re) fun _ hm=>s2 hm fun _ _ hm=>sn hm fun _ hm=>sb hm fun v1 hv1 hm=>cl (Ri hv1)<|by cases hm;exact re
theorem dG {l_:(List Int)} {o0_:bH} {r:(Int×bH)} (hm:dP l_ o0_ r):S 35 [.ptr 0 0 0,ak l_] [.box [ak o0_.L,iV o0_.At]] (iV r.1) [.box [ak r.2.L,iV r.2.At]] :=sp Tryz.func35 rfl<|sb hm fun v1 hv1 hm=>cl (aX hv1)<|sn hm fun _ hm=>by cases hm;exact re
theorem E9 {o0_:bH} {r:((List aC)×bH)} (hm:nP o0_ r):S 63 [.ptr 0 0 0] [.box [ak o0_.L,iV o0_.At]] (aS r.1) [.box [ak r.2.L,iV r.2.At]] :=Sj [20,22] Tryz.func63 rfl<|sb hm fun v1 hv1 hm=>cl (aX hv1)<|Lx [20,22] hm (fun g1=>⟨[(0,.ptr 0 0 0),(3,.dh 1 0 g1.2.2.2.length false),(4,iV g1.1)],[(0,some (.box [ak g1.2.1,iV g1.2.2.1])),(1,some (.row 5 g1.2.2.2.length (bE yu aF g1.2.2.2)))],2⟩) [(1,none)] [] <|fun self1 g1 hm=>si hm (fun _ hm=>sb hm fun v28 hv28 hm=>cl ((dG hv28).le ⟨.refl _,(.sl rfl (fun _=>rfl) nofun (le_litG iV 0 [(12:Int),(24:Int),(48:Int),(100:Int)])),trivial⟩ ⟨iW _,trivial⟩)<|ck [20,22] (cO g1 self1) r (fun g7=>⟨[(0,.ptr 0 0 0),(3,.dh 1 0 g1.2.2.2.length false),(4,iV g1.1),(5,.ptr 2 0 0)],[(0,some (.box [ak g7.1,iV g7.2.1])),(1,some (.row 5 g1.2.2.2.length (bE yu aF g1.2.2.2))),(2,some (.box [iV g7.2.2.1,.dh 3 0 g7.2.2.2.2.1.length false,.dh 4 0 g7.2.2.2.2.2.length false,iV (0:Int),iV g7.2.2.2.1])),(3,some (.row 1 g7.2.2.2.2.1.length (bE iV 0 g7.2.2.2.2.1))),(4,some (.row 1 g7.2.2.2.2.2.length (bE iV 0 g7.2.2.2.2.2)))],5⟩) (si hm (fun _ hm=>sb hm fun v41 hv41 hm=>cl (aX hv41)<|si hm (fun _ hm=>sb hm fun v42 hv42 hm=>cl (aX hv42)<|ck [20,22] (dV g1 self1) r (fun g8=>⟨[(0,.ptr 0 0 0),(3,.dh 1 0 g1.2.2.2.length false),(4,iV g1.1),(5,.ptr 2 0 0),(25,iV v41.1)],[(0,some (.box [ak g8.1,iV g8.2.1])),(1,some (.row 5 g1.2.2.2.length (bE yu aF g1.2.2.2))),(2,some (.box [iV g8.2.2.1,.dh 3 0 g8.2.2.2.1.length false,.dh 4 0 g8.2.2.2.2.length false,iV (0:Int),iV (0:Int)])),(3,some (.row 1 g8.2.2.2.1.length (bE iV 0 g8.2.2.2.1))),(4,some (.row 1 g8.2.2.2.2.length (bE iV 0 g8.2.2.2.2)))],5⟩) (sb hm fun v49 hv49 hm=>cl (aX hv49)<|si hm (fun _ hm=>sb hm fun v50 hv50 hm=>cl ((dG hv50).le ⟨.refl _,(.sl rfl (fun _=>rfl) nofun (le_litG iV 0 [(3:Int),(4:Int),(8:Int)])),trivial⟩ ⟨iW _,trivial⟩)<|lc [(2,some 58),(3,some 178),(4,some 258)] [] hm) fun _ hm=>si hm (fun _ hm=>sb hm fun v51 hv51 hm=>cl ((dG hv51).le ⟨.refl _,(.sl rfl (fun _=>rfl) nofun (le_litG iV 0 [(2:Int),(3:Int)])),trivial⟩ ⟨iW _,trivial⟩)<|lc [(2,some 58),(3,some 178),(4,some 274)] [] hm) fun _ hm=>si hm (fun _ hm=>lc [(2,some 58),(3,some 178),(4,some 266)] [] hm) fun _ hm=>si hm (fun _ hm=>sn hm fun _ hm=>sb hm fun v52 hv52 hm=>cl (aX hv52)<|sn hm fun _ hm=>lc [(2,some 58),(3,some 346),(4,some 354)] [] hm) fun _ hm=>lc [(2,some 58),(3,some 178),(4,some 282)] [] hm) fun g8 hm=>sb hm fun v47 hv47 hm=>cl (aX hv47)<|si hm (fun _ hm=>sb hm fun v48 hv48 hm=>cl ((dG hv48).le ⟨.refl _,(.sl rfl (fun _=>rfl) nofun (le_litG iV 0 [(24:Int),(48:Int),(96:Int)])),trivial⟩ ⟨iW _,trivial⟩)<|le hm) fun _ hm=>le hm) fun _ hm=>lc [(2,some 58),(3,none),(4,some 42)] [] hm) fun c37 hm=>by
 refine ⟨(fun q0=>absurd q0 (NV c37)),?_⟩
 (conv=>whnf)
 refine aT hm fun h28 hm=>?_
 (conv=>whnf)
 exact ⟨(v28.2.L,v28.2.At,(1:Int),(0:Int),([]:List Int),([v28.1]:List Int)),[(2,some 58),(3,none),(4,some 42)],[],hm,⟨rfl,⟨r4,⟨rfl,rfl,rfl,rfl,nofun⟩,r2,r4,trivial⟩,⟨⟨sf,r2,trivial⟩,⟨rfl,rfl,(fun _ _=>.refl _)⟩,⟨r2,⟨rfl,rfl,rfl,rfl,rfl,rfl⟩,⟨rfl,rfl,rfl,rfl,nofun⟩,r2,r2,trivial⟩,rfl,⟨rfl,rfl,(le_litG iV 0 [v28.1])⟩,trivial⟩⟩⟩) fun g7 hm=>s2 hm fun _ _ hm=>lc [(1,some 29)] [] hm) fun _ hm=>by cases hm;exact rt [1] []
theorem cu {lo_:Int} {hi_:Int} {o0_:bH} {r:(Int×bH)} (hm:dH lo_ hi_ o0_ r):S 36 [.ptr 0 0 0,iV lo_,iV hi_] [.box [ak o0_.L,iV o0_.At]] (iV r.1) [.box [ak r.2.L,iV r.2.At]] :=sp Tryz.func36 rfl<|s2 hm fun _ _ hm=>sb hm fun v1 hv1 hm=>cl (aX hv1)<|sn hm fun _ hm=>by cases hm;exact re
theorem Co {o0_:bH} {r:((List au)×bH)} (hm:lM o0_ r):S 64 [.ptr 0 0 0] [.box [ak o0_.L,iV o0_.At]] (aM r.1) [.box [ak r.2.L,iV r.2.At]] :=Sj [8] Tryz.func64 rfl<|sb hm fun v1 hv1 hm=>cl (aX hv1)<|Lx [8] hm (fun g1=>⟨[(0,.ptr 0 0 0),(3,.dh 1 0 g1.2.2.2.length false),(4,iV g1.1)],[(0,some (.box [ak g1.2.1,iV g1.2.2.1])),(1,some (.row 5 g1.2.2.2.length (bE qJ aj g1.2.2.2)))],2⟩) [(1,none)] [] <|fun self1 g1 hm=>si hm (fun _ hm=>sn hm fun _ hm=>sb hm fun v12 hv12 hm=>cl (cu hv12)<|sb hm fun v13 hv13 hm=>cl ((dG hv13).le ⟨.refl _,(.sl rfl (fun _=>rfl) nofun (le_litG iV 0 [(0:Int),(0:Int),(100:Int),(300:Int)])),trivial⟩ ⟨iW _,trivial⟩)<|sb hm fun v14 hv14 hm=>cl ((dG hv14).le ⟨.refl _,(.sl rfl (fun _=>rfl) nofun (le_litG iV 0 [(100:Int),(300:Int),(1000:Int)])),trivial⟩ ⟨iW _,trivial⟩)<|sb hm fun v15 hv15 hm=>cl (aX hv15)<|ck [8] (iE g1 self1 v12 v14 v15) r (fun g4=>⟨[(0,.ptr 0 0 0),(3,.dh 1 0 g1.2.2.2.length false),(4,iV g1.1),(5,.ptr 2 0 0)],[(0,some (.box [ak v15.2.L,iV v15.2.At])),(1,some (.row 5 g1.2.2.2.length (bE qJ aj g1.2.2.2))),(2,some (.box [iV v12.1,.sl 0 0 true dL,iV g4,iV v14.1,.bool (v15.1==(7:Int))]))],3⟩) (si hm (fun _ hm=>lc [(2,some 138)] [] hm) fun _ hm=>lc [(2,some 138)] [] hm) fun g4 hm=>sb hm fun v16 hv16 hm=>cl (aX hv16)<|sn hm fun _ hm=>by
 rcases (by omega:v16.1=0∨v16.1=1∨v16.1=2∨v16.1=3∨v16.1=4) with e1 | e1 | e1 | e1 | e1
 ·rw [e1] at hm ⊢
  (conv=>whnf)
  refine aT hm fun h27 hm=>?_
  (conv=>whnf)
  refine aT hm fun h28 hm=>?_
  (conv=>whnf)
  exact ⟨((g1.1 - (1:Int)),v16.2.L,v16.2.At,(g1.2.2.2++([(⟨v12.1,([(1000:Int),(1200:Int)]:List Int),g4,v14.1,(v15.1==(7:Int))⟩:au)]:List au))),[(1,some 123)],[],hm,⟨rfl,⟨r4,⟨rfl,rfl,rfl,oz,nofun⟩,r2,trivial⟩,⟨⟨sf,r2,trivial⟩,⟨rfl,oz,(le_appG rfl (fun _ _=>.refl _) rfl (yt (Le.vG ⟨(.refl _),(.sl rfl (fun _=>rfl) nofun (le_litG iV 0 [(1000:Int),(1200:Int)])),(.refl _),(.refl _),(.refl _),trivial⟩) (fun _ h=>absurd h (Nat.not_lt_zero _))))⟩,trivial⟩⟩⟩
 ·rw [e1] at hm ⊢
  (conv=>whnf)
  refine aT hm fun h29 hm=>?_
  (conv=>whnf)
  refine aT hm fun h30 hm=>?_
  (conv=>whnf)
  exact ⟨((g1.1 - (1:Int)),v16.2.L,v16.2.At,(g1.2.2.2++([(⟨v12.1,([(1800:Int),(3300:Int)]:List Int),g4,v14.1,(v15.1==(7:Int))⟩:au)]:List au))),[(1,some 123)],[],hm,⟨rfl,⟨r4,⟨rfl,rfl,rfl,oz,nofun⟩,r2,trivial⟩,⟨⟨sf,r2,trivial⟩,⟨rfl,oz,(le_appG rfl (fun _ _=>.refl _) rfl (yt (Le.vG ⟨(.refl _),(.sl rfl (fun _=>rfl) nofun (le_litG iV 0 [(1800:Int),(3300:Int)])),(.refl _),(.refl _),(.refl _),trivial⟩) (fun _ h=>absurd h (Nat.not_lt_zero _))))⟩,trivial⟩⟩⟩
 ·rw [e1] at hm ⊢
  (conv=>whnf)
  refine aT hm fun h31 hm=>?_
  (conv=>whnf)
  refine aT hm fun h32 hm=>?_
  (conv=>whnf)
  exact ⟨((g1.1 - (1:Int)),v16.2.L,v16.2.At,(g1.2.2.2++([(⟨v12.1,([(1000:Int),(1800:Int),(3300:Int)]:List Int),g4,v14.1,(v15.1==(7:Int))⟩:au)]:List au))),[(1,some 123)],[],hm,⟨rfl,⟨r4,⟨rfl,rfl,rfl,oz,nofun⟩,r2,trivial⟩,⟨⟨sf,r2,trivial⟩,⟨rfl,oz,(le_appG rfl (fun _ _=>.refl _) rfl (yt (Le.vG ⟨(.refl _),(.sl rfl (fun _=>rfl) nofun (le_litG iV 0 [(1000:Int),(1800:Int),(3300:Int)])),(.refl _),(.refl _),(.refl _),trivial⟩) (fun _ h=>absurd h (Nat.not_lt_zero _))))⟩,trivial⟩⟩⟩
 ·rw [e1] at hm ⊢
  (conv=>whnf)
  refine aT hm fun h33 hm=>?_
  (conv=>whnf)
  refine aT hm fun h34 hm=>?_
  (conv=>whnf)
  exact ⟨((g1.1 - (1:Int)),v16.2.L,v16.2.At,(g1.2.2.2++([(⟨v12.1,([(3300:Int),(5000:Int)]:List Int),g4,v14.1,(v15.1==(7:Int))⟩:au)]:List au))),[(1,some 123)],[],hm,⟨rfl,⟨r4,⟨rfl,rfl,rfl,oz,nofun⟩,r2,trivial⟩,⟨⟨sf,r2,trivial⟩,⟨rfl,oz,(le_appG rfl (fun _ _=>.refl _) rfl (yt (Le.vG ⟨(.refl _),(.sl rfl (fun _=>rfl) nofun (le_litG iV 0 [(3300:Int),(5000:Int)])),(.refl _),(.refl _),(.refl _),trivial⟩) (fun _ h=>absurd h (Nat.not_lt_zero _))))⟩,trivial⟩⟩⟩
 ·rw [e1] at hm ⊢
  (conv=>whnf)
  refine aT hm fun h35 hm=>?_
  (conv=>whnf)
  refine aT hm fun h36 hm=>?_
  (conv=>whnf)
  exact ⟨((g1.1 - (1:Int)),v16.2.L,v16.2.At,(g1.2.2.2++([(⟨v12.1,([(900:Int)]:List Int),g4,v14.1,(v15.1==(7:Int))⟩:au)]:List au))),[(1,some 123)],[],hm,⟨rfl,⟨r4,⟨rfl,rfl,rfl,oz,nofun⟩,r2,trivial⟩,⟨⟨sf,r2,trivial⟩,⟨rfl,oz,(le_appG rfl (fun _ _=>.refl _) rfl (yt (Le.vG ⟨(.refl _),(.sl rfl (fun _=>rfl) nofun (le_litG iV 0 [(900:Int)])),(.refl _),(.refl _),(.refl _),trivial⟩) (fun _ h=>absurd h (Nat.not_lt_zero _))))⟩,trivial⟩⟩⟩) fun _ hm=>by cases hm;exact rt [1] []
theorem kX  {r:(List ByteArray)} (hm:kZ r):S 118 [] [] (eX r) [] :=sp Tryz.func118 rfl<|by cases hm;exact rt [8] []
theorem Fa {o0_:bH} {r:(bg×bH)} (hm:nQ o0_ r):S 65 [.ptr 0 0 0] [.box [ak o0_.L,iV o0_.At]] (jZ r.1) [.box [ak r.2.L,iV r.2.At]] :=Sj [13,17] Tryz.func65 rfl<|sb hm fun v1 hv1 hm=>cl (cu hv1)<|sb hm fun v2 hv2 hm=>cl (aX hv2)<|Lx [13,17] hm (fun g1=>⟨[(0,.ptr 0 0 0),(2,.ptr 1 0 0),(3,.ptr 2 0 0),(4,iV g1.1)],[(0,some (.box [ak g1.2.1,iV g1.2.2.1])),(1,some (.box [iV (0:Int),.sl 0 0 true dL])),(2,some (.box [iV v1.1,.dh 3 0 g1.2.2.2.length false])),(3,some (.row 3 g1.2.2.2.length (bE ji ay g1.2.2.2)))],4⟩) [(2,some 33),(3,none)] [] <|fun self1 g1 hm=>si hm (fun _ hm=>sn hm fun _ hm=>by
 refine ⟨(aa0 (es:=[.int .u8 (IntKind.u8.wrap ((97:Int)+(g1.2.2.2.length:Int)))]) rfl),?_⟩
 (conv=>whnf)
 refine aT hm fun h74 hm=>?_
 (conv=>whnf)
 refine dz hm fun v35 hv35 hm=>?_
 refine ⟨_,_,(aX hv35),?_⟩
 (conv=>whnf)
 refine xQ (ct:=[13,17]) iw dk hm (fun g12=>⟨[(0,.ptr 0 0 0),(2,.ptr 1 0 0),(3,.ptr 2 0 0),(4,iV g1.1),(5,.ptr 3 0 0),(6,iV v35.1),(7,iV g12.1)],[(0,some (.box [ak g12.2.1,iV g12.2.2.1])),(1,some (.box [iV (0:Int),.sl 0 0 true dL])),(2,some (.box [iV v1.1,.dh 4 0 g1.2.2.2.length false])),(3,some (.box [.str (({ data:=#[103] }:ByteArray)++(strOf ([(IntKind.u8.wrap ((97:Int)+(g1.2.2.2.length:Int)))]:List Int))),.dh 5 0 g12.2.2.2.length false,.sl 0 0 true dL])),(4,some (.row 3 g1.2.2.2.length (bE ji ay g1.2.2.2))),(5,some (.row 1 g12.2.2.2.length (bE iV 0 g12.2.2.2)))],6⟩) [(3,some 92),(4,some 3),(5,none)] [] ⟨rfl,⟨r4,r4,r4,r2,r4,r2,r2,trivial⟩,⟨⟨sf,r2,trivial⟩,⟨r2,sr,trivial⟩,⟨r2,⟨rfl,rfl,rfl,rfl,nofun⟩,trivial⟩,⟨rfl,⟨rfl,rfl,rfl,rfl,rfl,rfl⟩,sr,trivial⟩,⟨rfl,rfl,(fun _ _=>.refl _)⟩,rfl,trivial⟩⟩ ?_
 intro self12 g12 hm
 (conv=>whnf)
 refine dK hm (fun c36 hm=>?_) (fun c36 hm=>?_)
 ·(conv=>whnf)
  refine dz hm fun v38 hv38 hm=>?_
  refine ⟨_,_,(cu hv38),?_⟩
  (conv=>whnf)
  refine aT hm fun h83 hm=>?_
  (conv=>whnf)
  refine dK hm (fun c37 hm=>?_) (fun c37 hm=>?_)
  ·(conv=>whnf)
   refine aT hm fun h84 hm=>?_
   (conv=>whnf)
   refine aT hm fun h85 hm=>?_
   (conv=>whnf)
   exact ⟨((g12.1+(1:Int)),v38.2.L,v38.2.At,(g12.2.2.2++([g12.1]:List Int))),[(5,some 134)],[],hm,⟨rfl,⟨r4,r4,r4,r2,r4,r2,r2,trivial⟩,⟨⟨sf,r2,trivial⟩,⟨r2,sr,trivial⟩,⟨r2,⟨rfl,rfl,rfl,rfl,nofun⟩,trivial⟩,⟨rfl,⟨rfl,rfl,rfl,oz,nofun⟩,sr,trivial⟩,⟨rfl,rfl,(fun _ _=>.refl _)⟩,⟨rfl,oz,(le_appG rfl (fun _ _=>.refl _) rfl (le_litG iV 0 [g12.1]))⟩,trivial⟩⟩⟩
  ·(conv=>whnf)
   refine Qk (ct:=[13,17]) iw dk dk (jd g1 self1 v38) r (fun g13=>⟨[(0,.ptr 0 0 0),(2,.ptr 1 0 0),(3,.ptr 2 0 0),(4,iV g1.1),(5,.ptr 3 0 0),(40,iV v38.1)],[(0,some (.box [ak v38.2.L,iV v38.2.At])),(1,some (.box [iV (0:Int),.sl 0 0 true dL])),(2,some (.box [iV v1.1,.dh 4 0 g1.2.2.2.length false])),(3,some (.box [.str (({ data:=#[103] }:ByteArray)++(strOf ([(IntKind.u8.wrap ((97:Int)+(g1.2.2.2.length:Int)))]:List Int))),.dh 5 0 g13.length false,.sl 0 0 true dL])),(4,some (.row 3 g1.2.2.2.length (bE ji ay g1.2.2.2))),(5,some (.row 1 g13.length (bE iV 0 g13)))],6⟩) ?_ (fun g13 hm=>?_)
   ·(conv=>whnf)
    refine dK hm (fun c41 hm=>?_) (fun c41 hm=>?_)
    ·(conv=>whnf)
     exact ⟨([v35.1]:List Int),[(5,some 142)],[],hm,⟨rfl,⟨r4,r4,r4,r2,r4,r2,trivial⟩,⟨⟨sr,r2,trivial⟩,⟨r2,sr,trivial⟩,⟨r2,⟨rfl,rfl,rfl,rfl,nofun⟩,trivial⟩,⟨rfl,⟨rfl,rfl,rfl,rfl,nofun⟩,sr,trivial⟩,⟨rfl,rfl,(fun _ _=>.refl _)⟩,⟨rfl,rfl,(le_litG iV 0 [v35.1])⟩,trivial⟩⟩⟩
    ·(conv=>whnf)
     exact ⟨g12.2.2.2,[],[],hm,⟨rfl,⟨r4,r4,r4,r2,r4,r2,trivial⟩,⟨⟨sr,r2,trivial⟩,⟨r2,sr,trivial⟩,⟨r2,⟨rfl,rfl,rfl,rfl,nofun⟩,trivial⟩,⟨rfl,⟨rfl,rfl,rfl,rfl,nofun⟩,sr,trivial⟩,⟨rfl,rfl,(fun _ _=>.refl _)⟩,⟨rfl,rfl,(fun _ _=>.refl _)⟩,trivial⟩⟩⟩
   ·(conv=>whnf)
    refine dz hm fun v39 hv39 hm=>?_
    refine ⟨_,_,(aX hv39),?_⟩
    (conv=>whnf)
    refine dz hm fun v40 hv40 hm=>?_
    refine ⟨_,_,(kX hv40),?_⟩
    (conv=>whnf)
    refine aT hm fun h86 hm=>?_
    (conv=>whnf)
    refine Qk (ct:=[13,17]) iw dk dk (fQ g1 self1 g13) r (fun g14=>⟨[(0,.ptr 0 0 0),(2,.ptr 1 0 0),(3,.ptr 2 0 0),(4,iV g1.1),(5,.ptr 3 0 0),(40,iV v38.1)],[(0,some (.box [ak g14.1,iV g14.2.1])),(1,some (.box [iV (0:Int),.sl 0 0 true dL])),(2,some (.box [iV v1.1,.dh 4 0 g1.2.2.2.length false])),(3,some (.box [.str (({ data:=#[103] }:ByteArray)++(strOf ([(IntKind.u8.wrap ((97:Int)+(g1.2.2.2.length:Int)))]:List Int))),.dh 5 0 g13.length false,.dh 6 0 g14.2.2.length false])),(4,some (.row 3 g1.2.2.2.length (bE ji ay g1.2.2.2))),(5,some (.row 1 g13.length (bE iV 0 g13))),(6,some (.row 1 g14.2.2.length (bE AV.str ByteArray.empty g14.2.2)))],7⟩) ?_ (fun g14 hm=>?_)
    ·(conv=>whnf)
     refine dz hm fun v43 hv43 hm=>?_
     refine ⟨_,_,(aX hv43),?_⟩
     (conv=>whnf)
     refine dK hm (fun c40 hm=>?_) (fun c40 hm=>?_)
     ·(conv=>whnf)
      refine dz hm fun v44 hv44 hm=>?_
      refine ⟨_,_,(kX hv44),?_⟩
      (conv=>whnf)
      refine aT hm fun h93 hm=>?_
      (conv=>whnf)
      refine ⟨by decide,?_⟩
      have hm:=hm.2
      (conv=>whnf)
      refine aT hm fun h95 hm=>?_
      (conv=>whnf)
      refine aT hm fun h96 hm=>?_
      (conv=>whnf)
      exact ⟨(v43.2.L,v43.2.At,(([(v40.getD v39.1.toNat ByteArray.empty)]:List ByteArray)++([(v44.getD (((v39.1+(1:Int)).tmod (4:Int)).toNat) ByteArray.empty)]:List ByteArray))),[(6,some 182)],[],hm,⟨rfl,⟨r4,r4,r4,r2,r4,r2,trivial⟩,⟨⟨sf,r2,trivial⟩,⟨r2,sr,trivial⟩,⟨r2,⟨rfl,rfl,rfl,rfl,nofun⟩,trivial⟩,⟨rfl,⟨rfl,rfl,rfl,rfl,nofun⟩,⟨rfl,rfl,rfl,oz,nofun⟩,trivial⟩,⟨rfl,rfl,(fun _ _=>.refl _)⟩,⟨rfl,rfl,(fun _ _=>.refl _)⟩,⟨rfl,oz,(le_appG rfl (le_litG AV.str ByteArray.empty [(v40.getD v39.1.toNat ByteArray.empty)]) rfl (le_litG AV.str ByteArray.empty [(v44.getD (((v39.1+(1:Int)).tmod (4:Int)).toNat) ByteArray.empty)]))⟩,trivial⟩⟩⟩
     ·(conv=>whnf)
      exact ⟨(v43.2.L,v43.2.At,([(v40.getD v39.1.toNat ByteArray.empty)]:List ByteArray)),[(6,some 62)],[],hm,⟨rfl,⟨r4,r4,r4,r2,r4,r2,trivial⟩,⟨⟨sf,r2,trivial⟩,⟨r2,sr,trivial⟩,⟨r2,⟨rfl,rfl,rfl,rfl,nofun⟩,trivial⟩,⟨rfl,⟨rfl,rfl,rfl,rfl,nofun⟩,⟨rfl,rfl,rfl,rfl,nofun⟩,trivial⟩,⟨rfl,rfl,(fun _ _=>.refl _)⟩,⟨rfl,rfl,(fun _ _=>.refl _)⟩,⟨rfl,rfl,(le_litG AV.str ByteArray.empty [(v40.getD v39.1.toNat ByteArray.empty)])⟩,trivial⟩⟩⟩
    ·(conv=>whnf)
     refine aT hm fun h91 hm=>?_
     (conv=>whnf)
     refine aT hm fun h92 hm=>?_
     (conv=>whnf)
     exact ⟨((g1.1 - (1:Int)),g14.1,g14.2.1,(g1.2.2.2++([(⟨(({ data:=#[103] }:ByteArray)++(strOf ([(IntKind.u8.wrap ((97:Int)+(g1.2.2.2.length:Int)))]:List Int))),g13,g14.2.2⟩:bG)]:List bG))),[(3,some 39)],[],hm,⟨rfl,⟨r4,r4,r4,r2,trivial⟩,⟨⟨sf,r2,trivial⟩,⟨r2,sr,trivial⟩,⟨r2,⟨rfl,rfl,rfl,oz,nofun⟩,trivial⟩,⟨rfl,oz,(le_appG rfl (fun _ _=>.refl _) rfl (le_litG ji ay [(⟨(({ data:=#[103] }:ByteArray)++(strOf ([(IntKind.u8.wrap ((97:Int)+(g1.2.2.2.length:Int)))]:List Int))),g13,g14.2.2⟩:bG)]))⟩,trivial⟩⟩⟩
 ·(conv=>whnf)
  refine ⟨(fun q0=>absurd q0 (NV c36)),?_⟩
  (conv=>whnf)
  refine ⟨(fun q0=>absurd q0 (NV c36)),?_⟩
  (conv=>whnf)
  refine aT hm fun h97 hm=>?_
  (conv=>whnf)
  refine Qk (ct:=[13,17]) iw dk dk (gY g1 self1 g12) r (fun g15=>⟨[(0,.ptr 0 0 0),(2,.ptr 1 0 0),(3,.ptr 2 0 0),(4,iV g1.1),(5,.ptr 3 0 0)],[(0,some (.box [ak g12.2.1,iV g12.2.2.1])),(1,some (.box [iV (0:Int),.sl 0 0 true dL])),(2,some (.box [iV v1.1,.dh 4 0 g1.2.2.2.length false])),(3,some (.box [.str (({ data:=#[103] }:ByteArray)++(strOf ([(IntKind.u8.wrap ((97:Int)+(g1.2.2.2.length:Int)))]:List Int))),.dh 5 0 g15.length false,.sl 0 0 true dL])),(4,some (.row 3 g1.2.2.2.length (bE ji ay g1.2.2.2))),(5,some (.row 1 g15.length (bE iV 0 g15)))],6⟩) ?_ (fun g15 hm=>?_)
  ·(conv=>whnf)
   refine dK hm (fun c45 hm=>?_) (fun c45 hm=>?_)
   ·(conv=>whnf)
    exact ⟨([v35.1]:List Int),[(5,some 142)],[],hm,⟨rfl,⟨r4,r4,r4,r2,r4,trivial⟩,⟨⟨sr,r2,trivial⟩,⟨r2,sr,trivial⟩,⟨r2,⟨rfl,rfl,rfl,rfl,nofun⟩,trivial⟩,⟨rfl,⟨rfl,rfl,rfl,rfl,nofun⟩,sr,trivial⟩,⟨rfl,rfl,(fun _ _=>.refl _)⟩,⟨rfl,rfl,(le_litG iV 0 [v35.1])⟩,trivial⟩⟩⟩
   ·(conv=>whnf)
    exact ⟨g12.2.2.2,[],[],hm,⟨rfl,⟨r4,r4,r4,r2,r4,trivial⟩,⟨⟨sr,r2,trivial⟩,⟨r2,sr,trivial⟩,⟨r2,⟨rfl,rfl,rfl,rfl,nofun⟩,trivial⟩,⟨rfl,⟨rfl,rfl,rfl,rfl,nofun⟩,sr,trivial⟩,⟨rfl,rfl,(fun _ _=>.refl _)⟩,⟨rfl,rfl,(fun _ _=>.refl _)⟩,trivial⟩⟩⟩
  ·(conv=>whnf)
   refine dz hm fun v45 hv45 hm=>?_
   refine ⟨_,_,(aX hv45),?_⟩
   (conv=>whnf)
   refine dz hm fun v46 hv46 hm=>?_
   refine ⟨_,_,(kX hv46),?_⟩
   (conv=>whnf)
   refine aT hm fun h98 hm=>?_
   (conv=>whnf)
   refine Qk (ct:=[13,17]) iw dk dk (fE g1 self1 g15) r (fun g16=>⟨[(0,.ptr 0 0 0),(2,.ptr 1 0 0),(3,.ptr 2 0 0),(4,iV g1.1),(5,.ptr 3 0 0)],[(0,some (.box [ak g16.1,iV g16.2.1])),(1,some (.box [iV (0:Int),.sl 0 0 true dL])),(2,some (.box [iV v1.1,.dh 4 0 g1.2.2.2.length false])),(3,some (.box [.str (({ data:=#[103] }:ByteArray)++(strOf ([(IntKind.u8.wrap ((97:Int)+(g1.2.2.2.length:Int)))]:List Int))),.dh 5 0 g15.length false,.dh 6 0 g16.2.2.length false])),(4,some (.row 3 g1.2.2.2.length (bE ji ay g1.2.2.2))),(5,some (.row 1 g15.length (bE iV 0 g15))),(6,some (.row 1 g16.2.2.length (bE AV.str ByteArray.empty g16.2.2)))],7⟩) ?_ (fun g16 hm=>?_)
   ·(conv=>whnf)
    refine dz hm fun v49 hv49 hm=>?_
    refine ⟨_,_,(aX hv49),?_⟩
    (conv=>whnf)
    refine dK hm (fun c44 hm=>?_) (fun c44 hm=>?_)
    ·(conv=>whnf)
     refine dz hm fun v50 hv50 hm=>?_
     refine ⟨_,_,(kX hv50),?_⟩
     (conv=>whnf)
     refine aT hm fun h105 hm=>?_
     (conv=>whnf)
     refine ⟨by decide,?_⟩
     have hm:=hm.2
     (conv=>whnf)
     refine aT hm fun h107 hm=>?_
     (conv=>whnf)
     refine aT hm fun h108 hm=>?_
     (conv=>whnf)
     exact ⟨(v49.2.L,v49.2.At,(([(v46.getD v45.1.toNat ByteArray.empty)]:List ByteArray)++([(v50.getD (((v45.1+(1:Int)).tmod (4:Int)).toNat) ByteArray.empty)]:List ByteArray))),[(6,some 182)],[],hm,⟨rfl,⟨r4,r4,r4,r2,r4,trivial⟩,⟨⟨sf,r2,trivial⟩,⟨r2,sr,trivial⟩,⟨r2,⟨rfl,rfl,rfl,rfl,nofun⟩,trivial⟩,⟨rfl,⟨rfl,rfl,rfl,rfl,nofun⟩,⟨rfl,rfl,rfl,oz,nofun⟩,trivial⟩,⟨rfl,rfl,(fun _ _=>.refl _)⟩,⟨rfl,rfl,(fun _ _=>.refl _)⟩,⟨rfl,oz,(le_appG rfl (le_litG AV.str ByteArray.empty [(v46.getD v45.1.toNat ByteArray.empty)]) rfl (le_litG AV.str ByteArray.empty [(v50.getD (((v45.1+(1:Int)).tmod (4:Int)).toNat) ByteArray.empty)]))⟩,trivial⟩⟩⟩
    ·(conv=>whnf)
     exact ⟨(v49.2.L,v49.2.At,([(v46.getD v45.1.toNat ByteArray.empty)]:List ByteArray)),[(6,some 62)],[],hm,⟨rfl,⟨r4,r4,r4,r2,r4,trivial⟩,⟨⟨sf,r2,trivial⟩,⟨r2,sr,trivial⟩,⟨r2,⟨rfl,rfl,rfl,rfl,nofun⟩,trivial⟩,⟨rfl,⟨rfl,rfl,rfl,rfl,nofun⟩,⟨rfl,rfl,rfl,rfl,nofun⟩,trivial⟩,⟨rfl,rfl,(fun _ _=>.refl _)⟩,⟨rfl,rfl,(fun _ _=>.refl _)⟩,⟨rfl,rfl,(le_litG AV.str ByteArray.empty [(v46.getD v45.1.toNat ByteArray.empty)])⟩,trivial⟩⟩⟩
   ·(conv=>whnf)
    refine aT hm fun h103 hm=>?_
    (conv=>whnf)
    refine aT hm fun h104 hm=>?_
    (conv=>whnf)
    exact ⟨((g1.1 - (1:Int)),g16.1,g16.2.1,(g1.2.2.2++([(⟨(({ data:=#[103] }:ByteArray)++(strOf ([(IntKind.u8.wrap ((97:Int)+(g1.2.2.2.length:Int)))]:List Int))),g15,g16.2.2⟩:bG)]:List bG))),[(3,some 39)],[],hm,⟨rfl,⟨r4,r4,r4,r2,trivial⟩,⟨⟨sf,r2,trivial⟩,⟨r2,sr,trivial⟩,⟨r2,⟨rfl,rfl,rfl,oz,nofun⟩,trivial⟩,⟨rfl,oz,(le_appG rfl (fun _ _=>.refl _) rfl (le_litG ji ay [(⟨(({ data:=#[103] }:ByteArray)++(strOf ([(IntKind.u8.wrap ((97:Int)+(g1.2.2.2.length:Int)))]:List Int))),g15,g16.2.2⟩:bG)]))⟩,trivial⟩⟩⟩) fun _ hm=>by cases hm;exact rt [3] []
end Go.Proofs.YtfblhejmclcdmaaGreatDoor


namespace Go.Proofs.YtfblhejmclcdmaaGreatDoor
open Go.Ab
set_option maxRecDepth 100000
set_option maxHeartbeats 20000000
theorem oI {n_:Int} {k_:Int} {o0_:bH} {r:((List Int)×bH)} (hm:kQ n_ k_ o0_ r):S 71 [.ptr 0 0 0,iV n_,iV k_] [.box [ak o0_.L,iV o0_.At]] (ak r.1) [.box [ak r.2.L,iV r.2.At]] :=sp Tryz.func71 rfl<|lf hm (fun g1=>⟨[(0,.ptr 0 0 0),(1,iV n_),(2,iV k_),(7,.dh 1 0 g1.2.2.2.length false),(8,iV g1.1)],[(0,some (.box [ak g1.2.1,iV g1.2.2.1])),(1,some (.row 1 g1.2.2.2.length (bE iV 0 g1.2.2.2)))],2⟩) [(1,none)] [] <|fun self1 g1 hm=>si hm (fun _ hm=>sb hm fun v3 hv3 hm=>cl (aX hv3)<|sn hm fun _ hm=>si hm (fun _ hm=>s2 hm fun _ _ hm=>lc [(1,some 98)] [] hm) fun _ hm=>sn hm fun _ hm=>le hm) fun _ hm=>by cases hm;exact rt [1] []
theorem Fb {most_:Int} {o0_:bH} {r:((List cK)×bH)} (hm:nR most_ o0_ r):S 66 [.ptr 0 0 0,iV most_] [.box [ak o0_.L,iV o0_.At]] (bL r.1) [.box [ak r.2.L,iV r.2.At]] :=sp Tryz.func66 rfl<|sn hm fun _ hm=>sb hm fun v1 hv1 hm=>cl (aX hv1)<|lf hm (fun g1=>⟨[(0,.ptr 0 0 0),(5,.dh 1 0 g1.2.2.2.length false),(6,iV g1.1)],[(0,some (.box [ak g1.2.1,iV g1.2.2.1])),(1,some (.row 1 g1.2.2.2.length (bE Qo dReset g1.2.2.2)))],2⟩) [(1,none)] [] <|fun self1 g1 hm=>si hm (fun _ hm=>sb hm fun v4 hv4 hm=>cl (oI hv4)<|s2 hm fun _ _ hm=>lc [(1,some 74)] [] hm) fun _ hm=>by cases hm;exact rt [1] []
theorem Dw {most_:Int} {o0_:bH} {r:((List bT)×bH)} (hm:mI most_ o0_ r):S 67 [.ptr 0 0 0,iV most_] [.box [ak o0_.L,iV o0_.At]] (bC r.1) [.box [ak r.2.L,iV r.2.At]] :=sp Tryz.func67 rfl<|sn hm fun _ hm=>sb hm fun v1 hv1 hm=>cl (aX hv1)<|lf hm (fun g1=>⟨[(0,.ptr 0 0 0),(5,.dh 1 0 g1.2.2.2.length false),(6,iV g1.1)],[(0,some (.box [ak g1.2.1,iV g1.2.2.1])),(1,some (.row 2 g1.2.2.2.length (bE KS dI g1.2.2.2)))],2⟩) [(1,none)] [] <|fun self1 g1 hm=>si hm (fun _ hm=>sn hm fun _ hm=>sb hm fun v6 hv6 hm=>cl (cu hv6)<|sb hm fun v7 hv7 hm=>cl (aX hv7)<|s2 hm fun _ _ hm=>lc [(1,some 106)] [] hm) fun _ hm=>by cases hm;exact rt [1] []
theorem Hw {o0_:bH} {r:(aU×bH)} (hm:o9 o0_ r):S 25 [.ptr 0 0 0] [.box [ak o0_.L,iV o0_.At]] (iY r.1) [.box [ak r.2.L,iV r.2.At]] :=sp Tryz.func25 rfl<|sb hm fun v1 hv1 hm=>cl (E9 hv1)<|sb hm fun v2 hv2 hm=>cl (Co hv2)<|sb hm fun v3 hv3 hm=>cl (Fa hv3)<|sb hm fun v4 hv4 hm=>cl (Fb hv4)<|sb hm fun v5 hv5 hm=>cl (Dw hv5)<|by cases hm;exact re
theorem Hy {b_:aU} {o0_:bH} {r:(bJ×bH)} (hm:pq b_ o0_ r):S 68 [.ptr 0 0 0,iY b_] [.box [ak o0_.L,iV o0_.At]] (vLimit r.1) [.box [ak r.2.L,iV r.2.At]] :=sp Tryz.func68 rfl<|sb hm fun v1 hv1 hm=>cl (aX hv1)<|sb hm fun v2 hv2 hm=>cl ((dG hv2).le ⟨.refl _,(.sl rfl (fun _=>rfl) nofun (le_litG iV 0 [(0:Int),(0:Int),(6:Int),(12:Int),(24:Int)])),trivial⟩ ⟨iW _,trivial⟩)<|sb hm fun v3 hv3 hm=>cl ((dG hv3).le ⟨.refl _,(.sl rfl (fun _=>rfl) nofun (le_litG iV 0 [(24:Int),(48:Int),(100:Int),(300:Int)])),trivial⟩ ⟨iW _,trivial⟩)<|by cases hm;exact re
theorem Jd {b_:aU} {o0_:bH} {r:(bB×bH)} (hm:qP b_ o0_ r):S 69 [.ptr 0 0 0,iY b_] [.box [ak o0_.L,iV o0_.At]] (uJ r.1) [.box [ak r.2.L,iV r.2.At]] :=sp Tryz.func69 rfl<|sb hm fun v1 hv1 hm=>cl (aX hv1)<|sb hm fun v2 hv2 hm=>cl ((dG hv2).le ⟨.refl _,(.sl rfl (fun _=>rfl) nofun (le_litG iV 0 [(0:Int),(900:Int),(1000:Int),(1800:Int)])),trivial⟩ ⟨iW _,trivial⟩)<|sb hm fun v3 hv3 hm=>cl ((dG hv3).le ⟨.refl _,(.sl rfl (fun _=>rfl) nofun (le_litG iV 0 [(1800:Int),(3300:Int),(5000:Int)])),trivial⟩ ⟨iW _,trivial⟩)<|sb hm fun v4 hv4 hm=>cl ((dG hv4).le ⟨.refl _,(.sl rfl (fun _=>rfl) nofun (le_litG iV 0 [(0:Int),(10:Int),(50:Int),(200:Int)])),trivial⟩ ⟨iW _,trivial⟩)<|by cases hm;exact re
theorem wJ {l_:(List ByteArray)} {o0_:bH} {r:(ByteArray×bH)} (hm:nu l_ o0_ r):S 50 [.ptr 0 0 0,eX l_] [.box [ak o0_.L,iV o0_.At]] (.str r.1) [.box [ak r.2.L,iV r.2.At]] :=sp Tryz.func50 rfl<|sb hm fun v1 hv1 hm=>cl (aX hv1)<|sn hm fun _ hm=>by cases hm;exact re
theorem Dx {most_:Int} {o0_:bH} {r:((List ByteArray)×bH)} (hm:mJ most_ o0_ r):S 70 [.ptr 0 0 0,iV most_] [.box [ak o0_.L,iV o0_.At]] (eX r.1) [.box [ak r.2.L,iV r.2.At]] :=sp Tryz.func70 rfl<|sn hm fun _ hm=>sb hm fun v1 hv1 hm=>cl (aX hv1)<|lf hm (fun g1=>⟨[(0,.ptr 0 0 0),(5,.dh 1 0 g1.2.2.2.length false),(6,iV g1.1)],[(0,some (.box [ak g1.2.1,iV g1.2.2.1])),(1,some (.row 1 g1.2.2.2.length (bE AV.str ByteArray.empty g1.2.2.2)))],2⟩) [(1,none)] [] <|fun self1 g1 hm=>si hm (fun _ hm=>sb hm fun v6 hv6 hm=>cl (kX hv6)<|sb hm fun v7 hv7 hm=>cl (wJ hv7)<|s2 hm fun _ _ hm=>lc [(1,some 58)] [] hm) fun _ hm=>by cases hm;exact rt [1] []
theorem Dy {b_:aU} {most_:Int} {o0_:bH} {r:((List aH)×bH)} (hm:mK b_ most_ o0_ r):S 26 [.ptr 0 0 0,iY b_,iV most_] [.box [ak o0_.L,iV o0_.At]] (dB r.1) [.box [ak r.2.L,iV r.2.At]] :=Sj [9,11,13,18,19] Tryz.func26 rfl<|sn hm fun _ hm=>sb hm fun v1 hv1 hm=>cl (aX hv1)<|Lx [9,11,13,18,19] hm (fun g1=>⟨[(0,.ptr 0 0 0),(4,.ptr 1 0 0),(7,.dh 2 0 g1.2.2.2.length false),(8,iV v1.1),(9,iV g1.1)],[(0,some (.box [ak g1.2.1,iV g1.2.2.1])),(1,some (.box [aS b_.bD,aM b_.aV,iV b_.aN.bn,aO b_.aN.Groups,bL b_.Resets,bC b_.bI])),(2,some (.row 6 g1.2.2.2.length (bE qg aP g1.2.2.2)))],3⟩) [(2,none)] [] <|fun self1 g1 hm=>si hm (fun _ hm=>sn hm fun _ hm=>sb hm fun v46 hv46 hm=>cl (cu hv46)<|ck [9,11,13,18,19] (gP b_ v1 g1 self1 v46) r (fun g14=>⟨[(0,.ptr 0 0 0),(4,.ptr 1 0 0),(7,.dh 2 0 g1.2.2.2.length false),(8,iV v1.1),(9,iV g1.1),(10,.ptr 3 0 0)],[(0,some (.box [ak g14.1,iV g14.2.1])),(1,some (.box [aS b_.bD,aM b_.aV,iV b_.aN.bn,aO b_.aN.Groups,bL b_.Resets,bC b_.bI])),(2,some (.row 6 g1.2.2.2.length (bE qg aP g1.2.2.2))),(3,some (.box [.dh 4 0 g14.2.2.length false,.sl 0 0 true dL,.sl 0 0 true dL,.sl 0 0 true dL,iV v46.1,.sl 0 0 true dL])),(4,some (.row 3 g14.2.2.length (bE vLimit dLimit g14.2.2)))],5⟩) (si hm (fun _ hm=>sb hm fun v66 hv66 hm=>cl (aX hv66)<|si hm (fun _ hm=>sb hm fun v67 hv67 hm=>cl (Hy hv67)<|sn hm fun _ hm=>lc [(3,some 83),(4,some 219)] [] hm) fun _ hm=>lc [(3,some 83),(4,none)] [] hm) fun c50 hm=>by
 refine ⟨(fun q0=>absurd q0 (NV c50)),?_⟩
 (conv=>whnf)
 refine aT hm fun h34 hm=>?_
 (conv=>whnf)
 exact ⟨(v46.2.L,v46.2.At,([]:List bJ)),[(3,some 83),(4,none)],[],hm,⟨rfl,⟨r4,r4,⟨rfl,rfl,rfl,rfl,nofun⟩,r2,r2,r4,trivial⟩,⟨⟨sf,r2,trivial⟩,⟨sr,sr,r2,sr,sr,sr,trivial⟩,⟨rfl,rfl,(fun _ _=>.refl _)⟩,⟨⟨rfl,rfl,rfl,rfl,rfl,rfl⟩,sr,sr,sr,r2,sr,trivial⟩,rfl,trivial⟩⟩⟩) fun g14 hm=>ck [9,11,13,18,19] (gB b_ v1 g1 self1 v46 g14) r (fun g15=>⟨[(0,.ptr 0 0 0),(4,.ptr 1 0 0),(7,.dh 2 0 g1.2.2.2.length false),(8,iV v1.1),(9,iV g1.1),(10,.ptr 3 0 0)],[(0,some (.box [ak g15.1,iV g15.2.1])),(1,some (.box [aS b_.bD,aM b_.aV,iV b_.aN.bn,aO b_.aN.Groups,bL b_.Resets,bC b_.bI])),(2,some (.row 6 g1.2.2.2.length (bE qg aP g1.2.2.2))),(3,some (.box [.dh 4 0 g14.2.2.length false,.dh 5 0 g15.2.2.length false,.sl 0 0 true dL,.sl 0 0 true dL,iV v46.1,.sl 0 0 true dL])),(4,some (.row 3 g14.2.2.length (bE vLimit dLimit g14.2.2))),(5,some (.row 4 g15.2.2.length (bE uJ bX g15.2.2)))],6⟩) (si hm (fun _ hm=>sb hm fun v64 hv64 hm=>cl (aX hv64)<|si hm (fun _ hm=>sb hm fun v65 hv65 hm=>cl (Jd hv65)<|sn hm fun _ hm=>lc [(5,some 125)] [] hm) fun _ hm=>lc [(5,none)] [] hm) fun c48 hm=>by
 refine ⟨(fun q0=>absurd q0 (NV c48)),?_⟩
 (conv=>whnf)
 refine aT hm fun h32 hm=>?_
 (conv=>whnf)
 exact ⟨(g14.1,g14.2.1,([]:List bB)),[(5,none)],[],hm,⟨rfl,⟨r4,r4,⟨rfl,rfl,rfl,rfl,nofun⟩,r2,r2,r4,trivial⟩,⟨⟨sf,r2,trivial⟩,⟨sr,sr,r2,sr,sr,sr,trivial⟩,⟨rfl,rfl,(fun _ _=>.refl _)⟩,⟨⟨rfl,rfl,rfl,rfl,nofun⟩,⟨rfl,rfl,rfl,rfl,rfl,rfl⟩,sr,sr,r2,sr,trivial⟩,⟨rfl,rfl,(fun _ _=>.refl _)⟩,rfl,trivial⟩⟩⟩) fun g15 hm=>ck [9,11,13,18,19] (iH b_ v1 g1 self1 v46 g14 g15) r (fun g16=>⟨[(0,.ptr 0 0 0),(4,.ptr 1 0 0),(7,.dh 2 0 g1.2.2.2.length false),(8,iV v1.1),(9,iV g1.1),(10,.ptr 3 0 0)],[(0,some (.box [ak g16.1,iV g16.2.1])),(1,some (.box [aS b_.bD,aM b_.aV,iV b_.aN.bn,aO b_.aN.Groups,bL b_.Resets,bC b_.bI])),(2,some (.row 6 g1.2.2.2.length (bE qg aP g1.2.2.2))),(3,some (.box [.dh 4 0 g14.2.2.length false,.dh 5 0 g15.2.2.length false,eX g16.2.2,.sl 0 0 true dL,iV v46.1,.sl 0 0 true dL])),(4,some (.row 3 g14.2.2.length (bE vLimit dLimit g14.2.2))),(5,some (.row 4 g15.2.2.length (bE uJ bX g15.2.2)))],6⟩) (sb hm fun v62 hv62 hm=>cl (aX hv62)<|si hm (fun _ hm=>sb hm fun v63 hv63 hm=>cl (Dx hv63)<|le hm) fun _ hm=>le hm) fun g16 hm=>sb hm fun v53 hv53 hm=>cl (oI hv53)<|ck [9,11,13,18,19] (iF g1 self1 v46 g14 g15 g16 v53) r (fun g18=>⟨[(0,.ptr 0 0 0),(4,.ptr 1 0 0),(7,.dh 2 0 g1.2.2.2.length false),(8,iV v1.1),(9,iV g1.1),(10,.ptr 3 0 0)],[(0,some (.box [ak g18.1,iV g18.2.1])),(1,some (.box [aS b_.bD,aM b_.aV,iV b_.aN.bn,aO b_.aN.Groups,bL b_.Resets,bC b_.bI])),(2,some (.row 6 g1.2.2.2.length (bE qg aP g1.2.2.2))),(3,some (.box [.dh 4 0 g14.2.2.length false,.dh 5 0 g15.2.2.length false,eX g16.2.2,ak v53.1,iV v46.1,ak g18.2.2])),(4,some (.row 3 g14.2.2.length (bE vLimit dLimit g14.2.2))),(5,some (.row 4 g15.2.2.length (bE uJ bX g15.2.2)))],6⟩) (sb hm fun v58 hv58 hm=>cl (aX hv58)<|si hm (fun _ hm=>ck [9,11,13,18,19] (iG g1 self1 v46 g14 g15 g16 v53) r (fun g19=>⟨[(0,.ptr 0 0 0),(4,.ptr 1 0 0),(7,.dh 2 0 g1.2.2.2.length false),(8,iV v1.1),(9,iV g1.1),(10,.ptr 3 0 0),(11,iV g19.1)],[(0,some (.box [ak g19.2.1,iV g19.2.2])),(1,some (.box [aS b_.bD,aM b_.aV,iV b_.aN.bn,aO b_.aN.Groups,bL b_.Resets,bC b_.bI])),(2,some (.row 6 g1.2.2.2.length (bE qg aP g1.2.2.2))),(3,some (.box [.dh 4 0 g14.2.2.length false,.dh 5 0 g15.2.2.length false,eX g16.2.2,ak v53.1,iV v46.1,.sl 0 0 true dL])),(4,some (.row 3 g14.2.2.length (bE vLimit dLimit g14.2.2))),(5,some (.row 4 g15.2.2.length (bE uJ bX g15.2.2)))],6⟩) (sb hm fun v61 hv61 hm=>cl (aX hv61)<|si hm (fun _ hm=>le hm) fun _ hm=>le hm) fun g19 hm=>sb hm fun v60 hv60 hm=>cl (oI hv60)<|le hm) fun _ hm=>le hm) fun g18 hm=>s2 hm fun _ _ hm=>lc [(2,some 30)] [] hm) fun _ hm=>si hm (fun _ hm=>sb hm fun v68 hv68 hm=>cl (aX hv68)<|si hm (fun _ hm=>sn hm fun _ hm=>Lx [9,11,13,18,19] hm (fun g20=>⟨[(7,.dh 1 0 g20.2.2.length false),(8,iV v1.1),(12,iV g20.1),(13,iV g20.2.1)],[(0,some (.box [ak v68.2.L,iV v68.2.At])),(1,some (.row 6 g20.2.2.length (bE qg aP g20.2.2)))],2⟩) [(1,some 2)] [] <|fun self20 g20 hm=>si hm (fun _ hm=>s2 hm fun _ _ hm=>s2 hm fun _ _ hm=>s2 hm fun _ _ hm=>le hm) fun _ hm=>Lx [9,11,13,18,19] hm (fun g21=>⟨[(7,.dh 1 0 g21.2.length false),(8,iV v1.1),(126,iV (g20.2.2.length:Int)),(127,iV g21.1)],[(0,some (.box [ak v68.2.L,iV v68.2.At])),(1,some (.row 6 g21.2.length (bE qg aP g21.2)))],2⟩) [] [] <|fun self21 g21 hm=>si hm (fun _ hm=>s2 hm fun _ _ hm=>Lx [9,11,13,18,19] hm (fun g24=>⟨[(7,.dh 1 0 g21.2.length false),(8,iV v1.1),(14,iV g21.1),(15,.dh 2 0 g24.2.length false),(16,iV g24.1),(126,iV (g20.2.2.length:Int)),(127,iV g21.1)],[(0,some (.box [ak v68.2.L,iV v68.2.At])),(1,some (.row 6 g21.2.length (bE qg aP g21.2))),(2,some (.row 1 g24.2.length (bE iV 0 g24.2)))],3⟩) [(2,none)] [] <|fun self24 g24 hm=>si hm (fun _ hm=>s2 hm fun _ _ hm=>s2 hm fun _ _ hm=>s2 hm fun _ _ hm=>lc [(2,some 123)] [] hm) fun _ hm=>s2 hm fun _ _ hm=>le hm) fun _ hm=>by cases hm;exact rt [1] []) fun _ hm=>by cases hm;exact rt [2] []) fun c52 hm=>by
 refine ⟨(fun q0=>absurd q0 (NV c52)),?_⟩
 (conv=>whnf)
 refine aT hm fun h120 hm=>?_
 (conv=>whnf)
 have hm:r=(g1.2.2.2,(⟨g1.2.1,g1.2.2.1⟩:bH)):=hm
 subst hm
 refine ⟨[2],[],?_⟩
 (conv=>whnf)
 exact ⟨⟨rfl,trivial,⟨⟨sf,r2,trivial⟩,trivial⟩⟩,sf⟩
theorem UA {l_:(List Int)} {x_:Int} {r:Bool} (hm:O9 l_ x_ r):S 159 [ak l_,iV x_] [] (.bool r) [] :=sp Tryz.func159 rfl<|l0 hm (fun g1=>⟨[(0,ak l_),(1,iV x_),(5,iV g1)],[],0⟩) <|fun self1 g1 hm=>si hm (fun _ hm=>sn hm fun _ hm=>si hm (fun _ hm=>by cases hm;exact re) fun _ hm=>sn hm fun _ hm=>le hm) fun _ hm=>by cases hm;exact re
theorem kr {l_:(List Int)} {lo_:Int} {hi_:Int} {r:Bool} (hm:jv l_ lo_ hi_ r):S 128 [ak l_,iV lo_,iV hi_] [] (.bool r) [] :=sp Tryz.func128 rfl<|l0 hm (fun g1=>⟨[(0,ak l_),(1,iV lo_),(2,iV hi_),(9,ak l_),(10,iV (l_.length:Int)),(11,iV g1)],[],0⟩) <|fun self1 g1 hm=>si hm (fun _ hm=>s2 hm fun _ _ hm=>sb hm fun v3 hv3 hm=>cl (fun q0=>((UA (hv3 q0)).le ⟨(.sl oz (fun _=>rfl) nofun (le_rtake (f:=iV) (d:=0) (by first | omega | (simp; omega)))),.refl _,trivial⟩ trivial))<|si hm (fun _ hm=>by cases hm;exact re) fun _ hm=>sn hm fun _ hm=>le hm) fun _ hm=>by cases hm;exact re
theorem Hz {a_:(List Int)} {b_:(List Int)} {r:Bool} (hm:Bt a_ b_ r):S 129 [ak a_,ak b_] [] (.bool r) [] :=sp Tryz.func129 rfl<|si hm (fun _ hm=>by cases hm;exact re) fun _ hm=>l0 hm (fun g1=>⟨[(0,ak a_),(1,ak b_),(5,iV g1)],[],0⟩) <|fun self1 g1 hm=>si hm (fun _ hm=>s2 hm fun _ _ hm=>si hm (fun _ hm=>by cases hm;exact re) fun _ hm=>sn hm fun _ hm=>le hm) fun _ hm=>by cases hm;exact re
theorem Ku {c_:aC} {r:Bool} (hm:tY c_ r):S 78 [yu c_] [] (.bool r) [] :=sp Tryz.func78 rfl<|si hm (fun _ hm=>s2 hm fun _ _ hm=>by cases hm;exact re) fun _ hm=>si hm (fun _ hm=>si hm (fun _ hm=>sb hm fun v1 hv1 hm=>cl (fun q0=>(kr (hv1 q0)))<|by cases hm;exact re) fun _ hm=>si hm (fun _ hm=>sn hm fun _ hm=>sb hm fun v2 hv2 hm=>cl (fun q0=>(kr (hv2 q0)))<|by cases hm;exact re) fun _ hm=>si hm (fun _ hm=>si hm (fun _ hm=>sb hm fun v3 hv3 hm=>cl (fun q0=>((Hz (hv3 q0)).le ⟨.refl _,(.sl rfl (fun _=>rfl) nofun (le_litG iV 0 [(0:Int),(1:Int)])),trivial⟩ trivial))<|by cases hm;exact re) fun c6 hm=>by
 refine ⟨.bool false,[],(fun q0=>absurd q0 (NV c6)),?_⟩
 (conv=>whnf)
 have hm:r=(((c_.Parents.length:Int)==(1:Int))&&false):=hm
 subst hm
 refine ⟨[],[],?_⟩
 (conv=>whnf)
 exact ⟨⟨rfl,trivial,trivial⟩,rfl⟩) fun _ hm=>by cases hm;exact re) fun _ hm=>si hm (fun _ hm=>sb hm fun v4 hv4 hm=>cl (fun q0=>(kr (hv4 q0)))<|by cases hm;exact re) fun _ hm=>si hm (fun _ hm=>sn hm fun _ hm=>sb hm fun v5 hv5 hm=>cl (fun q0=>(kr (hv5 q0)))<|by cases hm;exact re) fun _ hm=>si hm (fun _ hm=>si hm (fun _ hm=>sb hm fun v6 hv6 hm=>cl (fun q0=>((Hz (hv6 q0)).le ⟨.refl _,(.sl rfl (fun _=>rfl) nofun (le_litG iV 0 [(0:Int),(1:Int)])),trivial⟩ trivial))<|by cases hm;exact re) fun c10 hm=>by
 refine ⟨.bool false,[],(fun q0=>absurd q0 (NV c10)),?_⟩
 (conv=>whnf)
 have hm:r=(((c_.Parents.length:Int)==(1:Int))&&false):=hm
 subst hm
 refine ⟨[],[],?_⟩
 (conv=>whnf)
 exact ⟨⟨rfl,trivial,trivial⟩,rfl⟩) fun _ hm=>by cases hm;exact re
theorem Kv {l_:(List aC)} {r:(List Int)} (hm:tZ l_ r):S 79 [aS l_] [] (ak r) [] :=Sj [13] Tryz.func79 rfl<|Lx [13] hm (fun g1=>⟨[(3,.dh 0 0 g1.2.length false),(9,aS l_),(10,iV (l_.length:Int)),(11,iV g1.1)],[(0,some (.row 1 g1.2.length (bE iV 0 g1.2)))],1⟩) [(0,none)] [] <|fun self1 g1 hm=>si hm (fun _ hm=>sn hm fun _ hm=>Lx [13] hm (fun g6=>⟨[(3,.dh 0 0 g1.2.length false),(5,.ptr 1 0 0),(6,iV g6.1),(9,aS l_),(10,iV (l_.length:Int)),(11,iV g1.1),(16,ak ((l_.getD g1.1.toNat aF).Parents)),(17,iV ((((l_.getD g1.1.toNat aF).Parents).length:Nat):Int)),(18,iV g6.2)],[(0,some (.row 1 g1.2.length (bE iV 0 g1.2))),(1,some (.box [iV ((l_.getD g1.1.toNat aF).Kind),ak ((l_.getD g1.1.toNat aF).Parents),ak ((l_.getD g1.1.toNat aF).Choices),iV ((l_.getD g1.1.toNat aF).Low),iV ((l_.getD g1.1.toNat aF).High)]))],2⟩) [(1,some 25)] [] <|fun self6 g6 hm=>si hm (fun _ hm=>s2 hm fun _ _ hm=>sn hm fun _ hm=>le hm) fun _ hm=>ck [13] (j5 g1 self1) r (fun g7=>⟨[(3,.dh 0 0 g1.2.length false),(6,iV g7),(9,aS l_),(10,iV (l_.length:Int)),(11,iV g1.1)],[(0,some (.row 1 g1.2.length (bE iV 0 g1.2)))],1⟩) (si hm (fun _ hm=>sn hm fun _ hm=>le hm) fun _ hm=>le hm) fun g7 hm=>s2 hm fun _ _ hm=>lc [(0,some 25)] [] hm) fun _ hm=>by cases hm;exact rt [0] []
theorem nW {l_:(List aC)} {r:Int} (hm:ny l_ r):S 28 [aS l_] [] (iV r) [] :=sp Tryz.func28 rfl<|si hm (fun _ hm=>by cases hm;exact re) fun _ hm=>l0 hm (fun g1=>⟨[(0,aS l_),(15,aS l_),(16,iV (l_.length:Int)),(17,iV g1)],[],0⟩) <|fun self1 g1 hm=>si hm (fun _ hm=>sn hm fun _ hm=>si hm (fun _ hm=>by cases hm;exact re) fun _ hm=>sn hm fun _ hm=>le hm) fun _ hm=>l0 hm (fun g2=>⟨[(0,aS l_),(5,iV g2.1),(32,aS l_),(33,iV (l_.length:Int)),(34,iV g2.2)],[],0⟩) <|fun self2 g2 hm=>si hm (fun _ hm=>sn hm fun _ hm=>lf hm (fun g5=>⟨[(0,aS l_),(5,iV g2.1),(6,iV g2.2),(7,.ptr 0 0 0),(32,aS l_),(33,iV (l_.length:Int)),(34,iV g2.2),(40,ak ((l_.getD g2.2.toNat aF).Parents)),(41,iV ((((l_.getD g2.2.toNat aF).Parents).length:Nat):Int)),(42,iV g5)],[(0,some (.box [iV ((l_.getD g2.2.toNat aF).Kind),ak ((l_.getD g2.2.toNat aF).Parents),ak ((l_.getD g2.2.toNat aF).Choices),iV ((l_.getD g2.2.toNat aF).Low),iV ((l_.getD g2.2.toNat aF).High)]))],1⟩) [(0,some 32)] [] <|fun self5 g5 hm=>si hm (fun _ hm=>sn hm fun _ hm=>si hm (fun _ hm=>by cases hm;exact re) fun _ hm=>sn hm fun _ hm=>le hm) fun _ hm=>sb hm fun v3 hv3 hm=>cl (Ku hv3)<|si hm (fun _ hm=>by cases hm;exact re) fun _ hm=>s2 hm fun _ _ hm=>le hm) fun _ hm=>si hm (fun _ hm=>by cases hm;exact re) fun _ hm=>sb hm fun v4 hv4 hm=>cl (Kv hv4)<|l0 hm (fun g6=>⟨[(84,ak v4),(85,iV (v4.length:Int)),(86,iV g6)],[],0⟩) <|fun self6 g6 hm=>si hm (fun _ hm=>sn hm fun _ hm=>si hm (fun _ hm=>by cases hm;exact re) fun _ hm=>sn hm fun _ hm=>le hm) fun _ hm=>by cases hm;exact re
end Go.Proofs.YtfblhejmclcdmaaGreatDoor


namespace Go.Proofs.YtfblhejmclcdmaaGreatDoor
open Go.Ab
set_option maxRecDepth 100000
set_option maxHeartbeats 20000000
theorem Af {l_:(List aC)} {m_:(List bJ)} {r:Bool} (hm:qQ l_ m_ r):S 111 [aS l_,dU m_] [] (.bool r) [] :=sp Tryz.func111 rfl<|sb hm fun v1 hv1 hm=>cl (nW hv1)<|si hm (fun _ hm=>by cases hm;exact re) fun _ hm=>l0 hm (fun g1=>⟨[(0,aS l_),(15,dU m_),(16,iV (m_.length:Int)),(17,iV g1)],[],0⟩) <|fun self1 g1 hm=>si hm (fun _ hm=>sn hm fun _ hm=>si hm (fun _ hm=>by cases hm;exact re) fun _ hm=>sn hm fun _ hm=>le hm) fun _ hm=>by cases hm;exact re
theorem Nc {l_:(List aC)} {m_:(List bJ)} {r:Int} (hm:zM l_ m_ r):S 119 [aS l_,dU m_] [] (iV r) [] :=sp Tryz.func119 rfl<|sb hm fun v1 hv1 hm=>cl (nW hv1)<|si hm (fun _ hm=>by cases hm;exact re) fun _ hm=>sb hm fun v2 hv2 hm=>cl (Af hv2)<|si hm (fun _ hm=>by cases hm;exact re) fun _ hm=>by cases hm;exact re
theorem LV {c_:aC} {choice_:Int} {r:Int} (hm:xg c_ choice_ r):S 148 [yu c_,iV choice_] [] (iV r) [] :=sp Tryz.func148 rfl<|si hm (fun _ hm=>by cases hm;exact re) fun _ hm=>si hm (fun _ hm=>s2 hm fun _ _ hm=>by cases hm;exact re) fun _ hm=>sn hm fun _ hm=>by cases hm;exact re
theorem p8 {a_:Int} {b_:Int} {r:Int} (hm:mg a_ b_ r):S 179 [iV a_,iV b_] [] (iV r) [] :=sp Tryz.func179 rfl<|l0 hm (fun g1=>⟨[(0,iV g1.1),(1,iV g1.2)],[],0⟩) <|fun self1 g1 hm=>si hm (fun _ hm=>sn hm fun _ hm=>le hm) fun _ hm=>by cases hm;exact re
theorem nX {r_:bF} {r:Bool} (hm:nA r_ r):S 151 [mW r_] [] (.bool r) [] :=sp Tryz.func151 rfl<|sb hm fun v1 hv1 hm=>cl (fun q0=>(p8 (hv1 q0)))<|by cases hm;exact re
theorem Ag {k_:Int} {r:Bool} (hm:qR k_ r):S 177 [iV k_] [] (.bool r) [] :=sp Tryz.func177 rfl<|by cases hm;exact re
theorem HV {num_:Int} {den_:Int} {r:(bF×Int)} (hm:Bz num_ den_ r):S 178 [iV num_,iV den_] [] (.jX [mW r.1,iV r.2]) [] :=sp Tryz.func178 rfl<|si hm (fun _ hm=>by cases hm;exact re) fun _ hm=>sb hm fun v1 hv1 hm=>cl (p8 hv1)<|s2 hm fun _ _ hm=>sb hm fun v2 hv2 hm=>cl (nX hv2)<|si hm (fun _ hm=>by cases hm;exact re) fun _ hm=>by cases hm;exact re
theorem OI {r_:bF} {k_:Int} {r:(bF×Int)} (hm:CY r_ k_ r):S 149 [mW r_,iV k_] [] (.jX [mW r.1,iV r.2]) [] :=sp Tryz.func149 rfl<|sb hm fun v1 hv1 hm=>cl (nX hv1)<|si hm (fun _ hm=>by cases hm;exact re) fun _ hm=>sb hm fun v2 hv2 hm=>cl (Ag hv2)<|si hm (fun _ hm=>by cases hm;exact re) fun _ hm=>sn hm fun _ hm=>sb hm fun v3 hv3 hm=>cl (HV hv3)<|by cases hm;exact re
theorem Nf {r_:bF} {k_:Int} {r:(bF×Int)} (hm:zN r_ k_ r):S 150 [mW r_,iV k_] [] (.jX [mW r.1,iV r.2]) [] :=sp Tryz.func150 rfl<|sb hm fun v1 hv1 hm=>cl (nX hv1)<|si hm (fun _ hm=>by cases hm;exact re) fun _ hm=>sb hm fun v2 hv2 hm=>cl (Ag hv2)<|si hm (fun _ hm=>by cases hm;exact re) fun _ hm=>sb hm fun v3 hv3 hm=>cl (p8 hv3)<|s2 hm fun _ _ hm=>si hm (fun _ hm=>by cases hm;exact re) fun _ hm=>s2 hm fun _ _ hm=>sn hm fun _ hm=>sb hm fun v4 hv4 hm=>cl (HV hv4)<|by cases hm;exact re
theorem Ah {l_:(List aC)} {s_:(List Int)} {r:((List bF)×(List Bool))} (hm:qU l_ s_ r):S 112 [aS l_,ak s_] [] (.jX [qK r.1,aJ r.2]) [] :=Sj [10,21] Tryz.func112 rfl<|Lx [10,21] hm (fun g1=>⟨[(1,ak s_),(6,.dh 0 0 g1.2.1.length false),(7,.dh 1 0 g1.2.2.length false),(14,aS l_),(15,iV (l_.length:Int)),(16,iV g1.1)],[(0,some (.row 2 g1.2.1.length (bE mW dA g1.2.1))),(1,some (.row 1 g1.2.2.length (bE AV.bool false g1.2.2)))],2⟩) [(0,none),(1,none)] [] <|fun self1 g1 hm=>si hm (fun _ hm=>sn hm fun _ hm=>ck [10,21] (kR l_ s_ g1 self1) r (fun g6=>⟨[(1,ak s_),(6,.dh 0 0 g1.2.1.length false),(7,.dh 1 0 g1.2.2.length false),(8,iV g1.1),(9,.ptr 2 0 0),(10,.ptr 3 0 0),(11,.bool g6.1),(14,aS l_),(15,iV (l_.length:Int)),(16,iV g1.1)],[(0,some (.row 2 g1.2.1.length (bE mW dA g1.2.1))),(1,some (.row 1 g1.2.2.length (bE AV.bool false g1.2.2))),(2,some (.box [iV ((l_.getD g1.1.toNat aF).Kind),ak ((l_.getD g1.1.toNat aF).Parents),ak ((l_.getD g1.1.toNat aF).Choices),iV ((l_.getD g1.1.toNat aF).Low),iV ((l_.getD g1.1.toNat aF).High)])),(3,some (.box [iV g6.2.1,iV g6.2.2]))],4⟩) (sn hm fun _ hm=>sb hm fun v18 hv18 hm=>cl (LV hv18)<|si hm (fun _ hm=>s2 hm fun _ _ hm=>lc [(2,some 34),(3,some 66)] [] hm) fun _ hm=>lc [(2,some 34),(3,some 66)] [] hm) fun g6 hm=>s2 hm fun _ _ hm=>ck [10,21] (fU g1 self1) r (fun g7=>⟨[(1,ak s_),(6,.dh 0 0 g1.2.1.length false),(7,.dh 1 0 g1.2.2.length false),(10,.ptr 2 0 0),(11,.bool g7.1),(14,aS l_),(15,iV (l_.length:Int)),(16,iV g1.1)],[(0,some (.row 2 g1.2.1.length (bE mW dA g1.2.1))),(1,some (.row 1 g1.2.2.length (bE AV.bool false g1.2.2))),(2,some (.box [iV g7.2.1,iV g7.2.2]))],3⟩) (si hm (fun _ hm=>lc [(2,some 3)] [] hm) fun _ hm=>si hm (fun _ hm=>sb hm fun v16 hv16 hm=>cl (OI hv16)<|lc [(2,some 3)] [] hm) fun _ hm=>si hm (fun _ hm=>sb hm fun v17 hv17 hm=>cl (Nf hv17)<|lc [(2,some 3)] [] hm) fun _ hm=>si hm (fun _ hm=>si hm (fun _ hm=>lc [(2,some 3)] [] hm) fun _ hm=>lc [(2,some 3)] [] hm) fun _ hm=>lc [(2,some 3)] [] hm) fun g7 hm=>s2 hm fun _ _ hm=>sn hm fun _ hm=>lc [(0,some 27),(1,some 59)] [] hm) fun _ hm=>by cases hm;exact rt [0,1] []
theorem rO {r_:bF} {low_:Int} {high_:Int} {r:Bool} (hm:nS r_ low_ high_ r):S 113 [mW r_,iV low_,iV high_] [] (.bool r) [] :=sp Tryz.func113 rfl<|sb hm fun v1 hv1 hm=>cl (nX hv1)<|si hm (fun _ hm=>by cases hm;exact re) fun _ hm=>s2 hm fun _ _ hm=>by cases hm;exact re
theorem HY {l_:(List aC)} {r_:(List bF)} {on_:(List Bool)} {r:Bool} (hm:BA l_ r_ on_ r):S 114 [aS l_,qK r_,aJ on_] [] (.bool r) [] :=sp Tryz.func114 rfl<|l0 hm (fun g1=>⟨[(1,qK r_),(2,aJ on_),(9,aS l_),(10,iV (l_.length:Int)),(11,iV g1)],[],0⟩) <|fun self1 g1 hm=>si hm (fun _ hm=>s2 hm fun _ _ hm=>sn hm fun _ hm=>sb hm fun v3 hv3 hm=>cl (fun q0=>(rO (hv3 q0)))<|si hm (fun _ hm=>by cases hm;exact re) fun _ hm=>sn hm fun _ hm=>le hm) fun _ hm=>by cases hm;exact re
theorem OJ {l_:(List aC)} {s_:(List Int)} {m_:(List bJ)} {r:Bool} (hm:CZ l_ s_ m_ r):S 153 [aS l_,ak s_,dU m_] [] (.bool r) [] :=sp Tryz.func153 rfl<|sb hm fun v1 hv1 hm=>cl (Ah hv1)<|l0 hm (fun g1=>⟨[(0,aS l_),(7,qK v1.1),(8,aJ v1.2),(17,dU m_),(18,iV (m_.length:Int)),(19,iV g1)],[],0⟩) <|fun self1 g1 hm=>si hm (fun _ hm=>s2 hm fun _ _ hm=>sn hm fun _ hm=>sb hm fun v4 hv4 hm=>cl (fun q0=>(rO (hv4 q0)))<|si hm (fun _ hm=>by cases hm;exact re) fun _ hm=>sn hm fun _ hm=>le hm) fun _ hm=>sb hm fun v5 hv5 hm=>cl (HY hv5)<|by cases hm;exact re
theorem OL {l_:(List aC)} {s_:(List Int)} {r:((List Int)×Bool)} (hm:C8 l_ s_ r):S 154 [aS l_,ak s_] [] (.jX [ak r.1,.bool r.2]) [] :=Sj [6] Tryz.func154 rfl<|s2 hm fun _ _ hm=>Lx [6] hm (fun g1=>⟨[(0,aS l_),(6,.dh 0 0 g1.2.length false),(7,iV g1.1)],[(0,some (.row 1 g1.2.length (bE iV 0 g1.2)))],1⟩) [(0,some 32)] [] <|fun self1 g1 hm=>si hm (fun _ hm=>ck [6] (Ao l_ g1 self1) r (fun g4=>⟨[(0,aS l_),(6,.dh 0 0 g4.length false),(7,iV g1.1)],[(0,some (.row 1 g4.length (bE iV 0 g4)))],1⟩) (s2 hm fun _ _ hm=>sn hm fun _ hm=>le hm) fun g4 hm=>s2 hm fun _ _ hm=>si hm (fun _ hm=>by cases hm;exact rt [0] []) fun _ hm=>s2 hm fun _ _ hm=>le hm) fun _ hm=>by cases hm;exact re
theorem Rj {l_:(List aC)} {m_:(List bJ)} {r:(List (List Int))} (hm:Iq l_ m_ r):S 120 [aS l_,dU m_] [] (adZ r) [] :=Sj [4,6] Tryz.func120 rfl<|sn hm fun _ hm=>Lx [4,6] hm (fun g1=>⟨[(0,aS l_),(1,dU m_),(5,.dh 0 0 g1.2.2.length false),(6,ak g1.1),(7,.bool g1.2.1)],[(0,some (.row 1 g1.2.2.length (bE ak [] g1.2.2)))],1⟩) [(0,none)] [32] <|fun self1 g1 hm=>ck [4,6] (C9 l_ m_ g1 self1) r (fun g6=>⟨[(0,aS l_),(1,dU m_),(5,.dh 0 0 g1.2.2.length false),(6,ak g1.1)],[(0,some (.row 1 g1.2.2.length (bE ak [] g1.2.2)))],1⟩) (si hm (fun _ hm=>le hm) fun _ hm=>by cases hm;exact rt [0] []) fun g6 hm=>ck [4,6] (qV l_ g1 self1) r (fun g7=>⟨[(0,aS l_),(1,dU m_),(5,.dh 0 0 g7.length false),(6,ak g1.1)],[(0,some (.row 1 g7.length (bE ak [] g7)))],1⟩) (sb hm fun v9 hv9 hm=>cl (OJ hv9)<|si hm (fun _ hm=>sn hm fun _ hm=>lc [(0,some 57)] [] hm) fun _ hm=>le hm) fun g7 hm=>sb hm fun v8 hv8 hm=>cl (OL hv8)<|le hm
theorem Ng {l_:(List aC)} {m_:(List bJ)} {r:((List Int)×Int)} (hm:zO l_ m_ r):S 72 [aS l_,dU m_] [] (.jX [ak r.1,iV r.2]) [] :=sp Tryz.func72 rfl<|sb hm fun v1 hv1 hm=>cl (Nc hv1)<|si hm (fun _ hm=>by cases hm;exact re) fun _ hm=>sb hm fun v2 hv2 hm=>cl (Rj hv2)<|si hm (fun _ hm=>by cases hm;exact re) fun _ hm=>sn hm fun _ hm=>by cases hm;exact re
theorem iR {x_:Int} {lo_:Int} {hi_:Int} {r:Bool} (hm:l7 x_ lo_ hi_ r):S 80 [iV x_,iV lo_,iV hi_] [] (.bool r) [] :=sp Tryz.func80 rfl<|by cases hm;exact re
theorem nY {l_:(List au)} {r:Int} (hm:nC l_ r):S 29 [aM l_] [] (iV r) [] :=sp Tryz.func29 rfl<|si hm (fun _ hm=>by cases hm;exact re) fun _ hm=>l0 hm (fun g1=>⟨[(0,aM l_),(12,aM l_),(13,iV (l_.length:Int)),(14,iV g1)],[],0⟩) <|fun self1 g1 hm=>si hm (fun _ hm=>sn hm fun _ hm=>si hm (fun _ hm=>by cases hm;exact re) fun _ hm=>sn hm fun _ hm=>le hm) fun _ hm=>l0 hm (fun g2=>⟨[(23,aM l_),(24,iV (l_.length:Int)),(25,iV g2)],[],0⟩) <|fun self2 g2 hm=>si hm (fun _ hm=>s2 hm fun _ _ hm=>sb hm fun v13 hv13 hm=>cl (iR hv13)<|sb hm fun v14 hv14 hm=>cl (fun q0=>(iR (hv14 q0)))<|sb hm fun v15 hv15 hm=>cl (fun q0=>(iR (hv15 q0)))<|si hm (fun _ hm=>by cases hm;exact re) fun _ hm=>lf hm (fun g5=>⟨[(6,.ptr 0 0 0),(23,aM l_),(24,iV (l_.length:Int)),(25,iV g2),(65,ak ((l_.getD g2.toNat aj).bK)),(66,iV ((((l_.getD g2.toNat aj).bK).length:Nat):Int)),(67,iV g5)],[(0,some (.box [iV ((l_.getD g2.toNat aj).Parent),ak ((l_.getD g2.toNat aj).bK),iV ((l_.getD g2.toNat aj).eU),iV ((l_.getD g2.toNat aj).fG),.bool ((l_.getD g2.toNat aj).Always)]))],1⟩) [(0,some 32)] [] <|fun self5 g5 hm=>si hm (fun _ hm=>sn hm fun _ hm=>sb hm fun v18 hv18 hm=>cl (iR hv18)<|s2 hm fun _ _ hm=>si hm (fun _ hm=>by cases hm;exact re) fun _ hm=>sn hm fun _ hm=>le hm) fun _ hm=>sn hm fun _ hm=>le hm) fun _ hm=>by cases hm;exact re
theorem Cq {l_:(List au)} {d_:(List bB)} {r:Bool} (hm:uU l_ d_ r):S 115 [aM l_,dW d_] [] (.bool r) [] :=sp Tryz.func115 rfl<|sb hm fun v1 hv1 hm=>cl (nY hv1)<|si hm (fun _ hm=>by cases hm;exact re) fun _ hm=>l0 hm (fun g1=>⟨[(0,aM l_),(15,dW d_),(16,iV (d_.length:Int)),(17,iV g1)],[],0⟩) <|fun self1 g1 hm=>si hm (fun _ hm=>s2 hm fun _ _ hm=>sb hm fun v8 hv8 hm=>cl (iR hv8)<|sb hm fun v9 hv9 hm=>cl (fun q0=>(iR (hv9 q0)))<|sb hm fun v10 hv10 hm=>cl (fun q0=>(iR (hv10 q0)))<|si hm (fun _ hm=>by cases hm;exact re) fun _ hm=>sn hm fun _ hm=>le hm) fun _ hm=>by cases hm;exact re
theorem Nh {l_:(List au)} {d_:(List bB)} {r:Int} (hm:zP l_ d_ r):S 121 [aM l_,dW d_] [] (iV r) [] :=sp Tryz.func121 rfl<|sb hm fun v1 hv1 hm=>cl (nY hv1)<|si hm (fun _ hm=>by cases hm;exact re) fun _ hm=>sb hm fun v2 hv2 hm=>cl (Cq hv2)<|si hm (fun _ hm=>by cases hm;exact re) fun _ hm=>by cases hm;exact re
theorem EK {l_:(List au)} {d_:(List bB)} {r:(List Bool)} (hm:yE l_ d_ r):S 122 [aM l_,dW d_] [] (aJ r) [] :=sp Tryz.func122 rfl<|s2 hm fun _ _ hm=>lf hm (fun g1=>⟨[(0,aM l_),(1,dW d_),(5,.dh 0 0 g1.2.length false),(6,iV g1.1)],[(0,some (.row 1 g1.2.length (bE AV.bool false g1.2)))],1⟩) [(0,some 24)] [] <|fun self1 g1 hm=>si hm (fun _ hm=>s2 hm fun _ _ hm=>sn hm fun _ hm=>l0 hm (fun g4=>⟨[(0,aM l_),(1,dW d_),(5,.dh 0 0 g4.2.length false),(6,iV g1.1),(34,dW d_),(35,iV (d_.length:Int)),(36,iV g4.1)],[(0,some (.row 1 g4.2.length (bE AV.bool false g4.2)))],1⟩) <|fun self4 g4 hm=>si hm (fun _ hm=>s2 hm fun _ _ hm=>s2 hm fun _ _ hm=>le hm) fun _ hm=>s2 hm fun _ _ hm=>si hm (fun _ hm=>s2 hm fun _ _ hm=>le hm) fun _ hm=>sn hm fun _ hm=>le hm) fun _ hm=>by cases hm;exact rt [0] []
theorem Ni {s_:au} {v_:Int} {r:Int} (hm:zQ s_ v_ r):S 123 [qJ s_,iV v_] [] (iV r) [] :=sp Tryz.func123 rfl<|l0 hm (fun g1=>⟨[(1,iV v_),(8,ak s_.bK),(9,iV (s_.bK.length:Int)),(10,iV g1)],[],0⟩) <|fun self1 g1 hm=>si hm (fun _ hm=>sn hm fun _ hm=>si hm (fun _ hm=>by cases hm;exact re) fun _ hm=>sn hm fun _ hm=>le hm) fun _ hm=>by cases hm;exact re
theorem nZ {l_:(List au)} {r_:bf} {k_:Int} {r:Int} (hm:nD l_ r_ k_ r):S 124 [aM l_,vH r_,iV k_] [] (iV r) [] :=sp Tryz.func124 rfl<|s2 hm fun _ _ hm=>sn hm fun _ hm=>by cases hm;exact re
theorem Nj {l_:(List au)} {d_:(List bB)} {r:(List Int)} (hm:zR l_ d_ r):S 152 [aM l_,dW d_] [] (ak r) [] :=sp Tryz.func152 rfl<|s2 hm fun _ _ hm=>lf hm (fun g1=>⟨[(0,aM l_),(1,dW d_),(5,.dh 0 0 g1.2.length false),(6,iV g1.1)],[(0,some (.row 1 g1.2.length (bE iV 0 g1.2)))],1⟩) [(0,some 24)] [] <|fun self1 g1 hm=>si hm (fun _ hm=>l0 hm (fun g4=>⟨[(0,aM l_),(1,dW d_),(5,.dh 0 0 g4.2.length false),(6,iV g1.1),(20,dW d_),(21,iV (d_.length:Int)),(22,iV g4.1)],[(0,some (.row 1 g4.2.length (bE iV 0 g4.2)))],1⟩) <|fun self4 g4 hm=>si hm (fun _ hm=>sn hm fun _ hm=>si hm (fun _ hm=>s2 hm fun _ _ hm=>s2 hm fun _ _ hm=>le hm) fun _ hm=>sn hm fun _ hm=>le hm) fun _ hm=>sn hm fun _ hm=>si hm (fun _ hm=>s2 hm fun _ _ hm=>s2 hm fun _ _ hm=>sn hm fun _ hm=>le hm) fun _ hm=>sn hm fun _ hm=>le hm) fun _ hm=>by cases hm;exact rt [0] []
theorem Cr {l_:(List au)} {r_:bf} {d_:(List bB)} {r:Bool} (hm:uV l_ r_ d_ r):S 117 [aM l_,vH r_,dW d_] [] (.bool r) [] :=sp Tryz.func117 rfl<|sb hm fun v1 hv1 hm=>cl (EK hv1)<|sb hm fun v2 hv2 hm=>cl (Nj hv2)<|l0 hm (fun g1=>⟨[(0,aM l_),(2,dW d_),(4,.ptr 0 0 0),(7,aJ v1),(8,ak v2),(19,aM l_),(20,iV (l_.length:Int)),(21,iV g1)],[(0,some (.box [aJ r_.On,ak r_.Level]))],1⟩) <|fun self1 g1 hm=>si hm (fun _ hm=>s2 hm fun _ _ hm=>sn hm fun _ hm=>si hm (fun _ hm=>by cases hm;exact re) fun _ hm=>sn hm fun _ hm=>si hm (fun _ hm=>sn hm fun _ hm=>le hm) fun _ hm=>s2 hm fun _ _ hm=>sb hm fun v7 hv7 hm=>cl (fun q0 q1 q2=>(nZ (hv7 q0 q1 q2)))<|sb hm fun v8 hv8 hm=>cl (fun q0 q1 q2=>(nZ (hv8 q0 q1 q2)))<|sn hm fun _ hm=>si hm (fun _ hm=>by cases hm;exact re) fun _ hm=>sn hm fun _ hm=>le hm) fun _ hm=>l0 hm (fun g2=>⟨[(0,aM l_),(4,.ptr 0 0 0),(81,dW d_),(82,iV (d_.length:Int)),(83,iV g2)],[(0,some (.box [aJ r_.On,ak r_.Level]))],1⟩) <|fun self2 g2 hm=>si hm (fun _ hm=>sn hm fun _ hm=>sb hm fun v13 hv13 hm=>cl (nZ hv13)<|sb hm fun v14 hv14 hm=>cl (iR hv14)<|si hm (fun _ hm=>by cases hm;exact re) fun _ hm=>sn hm fun _ hm=>le hm) fun _ hm=>by cases hm;exact re
theorem Nk {l_:(List au)} {d_:(List bB)} {r:(bf×Int)} (hm:zS l_ d_ r):S 73 [aM l_,dW d_] [] (.jX [vH r.1,iV r.2]) [] :=Sj [17] Tryz.func73 rfl<|sb hm fun v1 hv1 hm=>cl (Nh hv1)<|si hm (fun _ hm=>by cases hm;exact re) fun _ hm=>sb hm fun v2 hv2 hm=>cl (EK hv2)<|s2 hm fun _ _ hm=>Lx [17] hm (fun g1=>⟨[(0,aM l_),(1,dW d_),(4,.ptr 0 0 0),(7,aJ v2),(8,.ptr 1 0 0),(9,.dh 2 0 g1.2.1.length false),(32,dW d_),(33,iV (d_.length:Int)),(34,iV g1.1)],[(0,some (.box [.sl 0 0 true dL,.sl 0 0 true dL])),(1,some (.box [aJ v2,.dh 3 0 g1.2.2.length false])),(2,some (.row 1 g1.2.1.length (bE iV 0 g1.2.1))),(3,some (.row 1 g1.2.2.length (bE iV 0 g1.2.2)))],4⟩) [(1,some 136),(2,some 168),(3,some 120)] [] <|fun self1 g1 hm=>si hm (fun _ hm=>s2 hm fun _ _ hm=>s2 hm fun _ _ hm=>le hm) fun _ hm=>sn hm fun _ hm=>Lx [17] hm (fun g2=>⟨[(0,aM l_),(1,dW d_),(4,.ptr 0 0 0),(7,aJ v2),(8,.ptr 1 0 0),(9,.dh 2 0 g2.2.1.length false),(12,iV g2.1)],[(0,some (.box [.sl 0 0 true dL,.sl 0 0 true dL])),(1,some (.box [aJ v2,.dh 3 0 g2.2.2.length false])),(2,some (.row 1 g2.2.1.length (bE iV 0 g2.2.1))),(3,some (.row 1 g2.2.2.length (bE iV 0 g2.2.2)))],4⟩) [] [] <|fun self2 g2 hm=>si hm (fun _ hm=>sn hm fun _ hm=>si hm (fun _ hm=>sn hm fun _ hm=>le hm) fun _ hm=>ck [17] (vN l_ v2 g2 self2) r (fun g5=>⟨[(0,aM l_),(1,dW d_),(4,.ptr 0 0 0),(7,aJ v2),(8,.ptr 1 0 0),(9,.dh 2 0 g2.2.1.length false),(12,iV g2.1)],[(0,some (.box [.sl 0 0 true dL,.sl 0 0 true dL])),(1,some (.box [aJ v2,.dh 3 0 g5.length false])),(2,some (.row 1 g2.2.1.length (bE iV 0 g2.2.1))),(3,some (.row 1 g5.length (bE iV 0 g5)))],4⟩) (s2 hm fun _ _ hm=>sb hm fun v11 hv11 hm=>cl (Ni hv11)<|sn hm fun _ hm=>le hm) fun g5 hm=>sn hm fun _ hm=>si hm (fun _ hm=>by cases hm;exact re) fun _ hm=>sn hm fun _ hm=>si hm (fun _ hm=>sn hm fun _ hm=>sb hm fun v10 hv10 hm=>cl (nZ hv10)<|s2 hm fun _ _ hm=>s2 hm fun _ _ hm=>le hm) fun _ hm=>sn hm fun _ hm=>le hm) fun _ hm=>sb hm fun v12 hv12 hm=>cl (Cr hv12)<|si hm (fun _ hm=>by cases hm;exact re) fun _ hm=>by cases hm;exact rt [3] []
end Go.Proofs.YtfblhejmclcdmaaGreatDoor


namespace Go.Proofs.YtfblhejmclcdmaaGreatDoor
open Go.Ab
set_option maxRecDepth 100000
set_option maxHeartbeats 20000000
theorem pK {s_:ByteArray} {r:Bool} (hm:lN s_ r):S 109 [.str s_] [] (.bool r) [] :=sp Tryz.func109 rfl<|s2 hm fun _ _ hm=>si hm (fun _ hm=>by cases hm;exact re) fun _ hm=>l0 hm (fun g1=>⟨[(0,.str s_),(3,iV g1)],[],0⟩) <|fun self1 g1 hm=>si hm (fun _ hm=>s2 hm fun _ _ hm=>s2 hm fun _ _ hm=>sn hm fun _ hm=>si hm (fun _ hm=>by cases hm;exact re) fun _ hm=>sn hm fun _ hm=>le hm) fun _ hm=>by cases hm;exact re
theorem Nl {p_:bg} {i_:Int} {r:Int} (hm:qm p_ i_ r):S 81 [jZ p_,iV i_] [] (iV r) [] :=sp Tryz.func81 rfl<|sn hm fun _ hm=>sb hm fun v1 hv1 hm=>cl (pK hv1)<|si hm (fun _ hm=>by cases hm;exact re) fun _ hm=>lf hm (fun g1=>⟨[(1,iV i_),(2,.ptr 0 0 0),(5,.ptr 1 0 0),(6,iV g1)],[(0,some (.box [iV p_.bn,aO p_.Groups])),(1,some (.box [.str ((p_.Groups.getD i_.toNat ay).Name),ak ((p_.Groups.getD i_.toNat ay).bn),eX ((p_.Groups.getD i_.toNat ay).Functions)]))],2⟩) [(1,some 56)] [] <|fun self1 g1 hm=>si hm (fun _ hm=>sn hm fun _ hm=>si hm (fun _ hm=>by cases hm;exact re) fun _ hm=>sn hm fun _ hm=>le hm) fun _ hm=>si hm (fun _ hm=>by cases hm;exact re) fun _ hm=>si hm (fun _ hm=>by cases hm;exact re) fun _ hm=>l0 hm (fun g2=>⟨[(2,.ptr 0 0 0),(5,.ptr 1 0 0),(7,iV g2)],[(0,some (.box [iV p_.bn,aO p_.Groups])),(1,some (.box [.str ((p_.Groups.getD i_.toNat ay).Name),ak ((p_.Groups.getD i_.toNat ay).bn),eX ((p_.Groups.getD i_.toNat ay).Functions)]))],2⟩) <|fun self2 g2 hm=>si hm (fun _ hm=>s2 hm fun _ _ hm=>si hm (fun _ hm=>by cases hm;exact re) fun _ hm=>sn hm fun _ hm=>le hm) fun _ hm=>lf hm (fun g3=>⟨[(5,.ptr 0 0 0),(8,iV g3)],[(0,some (.box [.str ((p_.Groups.getD i_.toNat ay).Name),ak ((p_.Groups.getD i_.toNat ay).bn),eX ((p_.Groups.getD i_.toNat ay).Functions)]))],1⟩) [(0,some 1)] [] <|fun self3 g3 hm=>si hm (fun _ hm=>s2 hm fun _ _ hm=>sn hm fun _ hm=>si hm (fun _ hm=>by cases hm;exact re) fun _ hm=>sn hm fun _ hm=>le hm) fun _ hm=>l0 hm (fun g4=>⟨[(5,.ptr 0 0 0),(9,iV g4)],[(0,some (.box [.str ((p_.Groups.getD i_.toNat ay).Name),ak ((p_.Groups.getD i_.toNat ay).bn),eX ((p_.Groups.getD i_.toNat ay).Functions)]))],1⟩) <|fun self4 g4 hm=>si hm (fun _ hm=>sn hm fun _ hm=>sb hm fun v4 hv4 hm=>cl (pK hv4)<|si hm (fun _ hm=>by cases hm;exact re) fun _ hm=>sn hm fun _ hm=>le hm) fun _ hm=>l0 hm (fun g5=>⟨[(5,.ptr 0 0 0),(10,iV g5)],[(0,some (.box [.str ((p_.Groups.getD i_.toNat ay).Name),ak ((p_.Groups.getD i_.toNat ay).bn),eX ((p_.Groups.getD i_.toNat ay).Functions)]))],1⟩) <|fun self5 g5 hm=>si hm (fun _ hm=>l0 hm (fun g8=>⟨[(5,.ptr 0 0 0),(10,iV g5),(11,iV g8)],[(0,some (.box [.str ((p_.Groups.getD i_.toNat ay).Name),ak ((p_.Groups.getD i_.toNat ay).bn),eX ((p_.Groups.getD i_.toNat ay).Functions)]))],1⟩) <|fun self8 g8 hm=>si hm (fun _ hm=>s2 hm fun _ _ hm=>si hm (fun _ hm=>by cases hm;exact re) fun _ hm=>sn hm fun _ hm=>le hm) fun _ hm=>sn hm fun _ hm=>le hm) fun _ hm=>by cases hm;exact re
theorem tN {p_:bg} {r:Int} (hm:lg p_ r):S 30 [jZ p_] [] (iV r) [] :=sp Tryz.func30 rfl<|si hm (fun _ hm=>by cases hm;exact re) fun _ hm=>si hm (fun _ hm=>by cases hm;exact re) fun _ hm=>l0 hm (fun g1=>⟨[(1,.ptr 0 0 0),(3,iV g1)],[(0,some (.box [iV p_.bn,aO p_.Groups]))],1⟩) <|fun self1 g1 hm=>si hm (fun _ hm=>sb hm fun v3 hv3 hm=>cl (Nl hv3)<|si hm (fun _ hm=>by cases hm;exact re) fun _ hm=>sn hm fun _ hm=>le hm) fun _ hm=>by cases hm;exact re
theorem Nn {p_:bg} {l_:(List ByteArray)} {r:Bool} (hm:zT p_ l_ r):S 155 [jZ p_,eX l_] [] (.bool r) [] :=sp Tryz.func155 rfl<|sb hm fun v1 hv1 hm=>cl (tN hv1)<|si hm (fun _ hm=>by cases hm;exact re) fun _ hm=>l0 hm (fun g1=>⟨[(1,eX l_),(5,iV g1)],[],0⟩) <|fun self1 g1 hm=>si hm (fun _ hm=>sn hm fun _ hm=>sb hm fun v4 hv4 hm=>cl (pK hv4)<|si hm (fun _ hm=>by cases hm;exact re) fun _ hm=>sn hm fun _ hm=>le hm) fun _ hm=>by cases hm;exact re
theorem AQ {g_:bG} {function_:ByteArray} {r:Int} (hm:BD g_ function_ r):S 77 [ji g_,.str function_] [] (iV r) [] :=sp Tryz.func77 rfl<|l0 hm (fun g1=>⟨[(1,.str function_),(2,.ptr 0 0 0),(5,iV g1)],[(0,some (.box [.str g_.Name,ak g_.bn,eX g_.Functions]))],1⟩) <|fun self1 g1 hm=>si hm (fun _ hm=>sn hm fun _ hm=>si hm (fun _ hm=>by cases hm;exact re) fun _ hm=>sn hm fun _ hm=>le hm) fun _ hm=>by cases hm;exact re
theorem Np {a_:(List Int)} {b_:(List Int)} {r:Bool} (hm:zU a_ b_ r):S 180 [ak a_,ak b_] [] (.bool r) [] :=sp Tryz.func180 rfl<|l0 hm (fun g1=>⟨[(0,ak a_),(1,ak b_),(5,iV g1.1),(6,iV g1.2)],[],0⟩) <|fun self1 g1 hm=>si hm (fun _ hm=>s2 hm fun _ _ hm=>si hm (fun _ hm=>by cases hm;exact re) fun _ hm=>s2 hm fun _ _ hm=>si hm (fun _ hm=>sn hm fun _ hm=>le hm) fun _ hm=>sn hm fun _ hm=>le hm) fun _ hm=>by cases hm;exact re
theorem EL {p_:bg} {groups_:(List Int)} {g_:Int} {r:Bool} (hm:yH p_ groups_ g_ r):S 158 [jZ p_,ak groups_,iV g_] [] (.bool r) [] :=sp Tryz.func158 rfl<|l0 hm (fun g1=>⟨[(1,ak groups_),(2,iV g_),(3,.ptr 0 0 0),(7,iV g1)],[(0,some (.box [iV p_.bn,aO p_.Groups]))],1⟩) <|fun self1 g1 hm=>si hm (fun _ hm=>s2 hm fun _ _ hm=>s2 hm fun _ _ hm=>sb hm fun v3 hv3 hm=>cl (fun q0=>(Np (hv3 q0)))<|si hm (fun _ hm=>by cases hm;exact re) fun _ hm=>sn hm fun _ hm=>le hm) fun _ hm=>by cases hm;exact re
theorem OO {p_:bg} {l_:(List ByteArray)} {groups_:(List Int)} {r:Bool} (hm:Da p_ l_ groups_ r):S 156 [jZ p_,eX l_,ak groups_] [] (.bool r) [] :=sp Tryz.func156 rfl<|si hm (fun _ hm=>by cases hm;exact re) fun _ hm=>l0 hm (fun g1=>⟨[(1,eX l_),(2,ak groups_),(3,.ptr 0 0 0),(7,iV g1)],[(0,some (.box [iV p_.bn,aO p_.Groups]))],1⟩) <|fun self1 g1 hm=>si hm (fun _ hm=>s2 hm fun _ _ hm=>sn hm fun _ hm=>sb hm fun v5 hv5 hm=>cl (fun q0=>(AQ (hv5 q0)))<|sn hm fun _ hm=>sb hm fun v6 hv6 hm=>cl (fun q0=>((EL (hv6 q0)).le ⟨.refl _,(.sl oz (fun _=>rfl) nofun (le_rtake (f:=iV) (d:=0) (by first | omega | (simp; omega)))),.refl _,trivial⟩ trivial))<|si hm (fun _ hm=>by cases hm;exact re) fun _ hm=>sn hm fun _ hm=>le hm) fun _ hm=>by cases hm;exact re
theorem Rk {p_:bg} {l_:(List ByteArray)} {given_:(List Int)} {r:Int} (hm:Ir p_ l_ given_ r):S 125 [jZ p_,eX l_,ak given_] [] (iV r) [] :=sp Tryz.func125 rfl<|sb hm fun v1 hv1 hm=>cl (Nn hv1)<|si hm (fun _ hm=>by cases hm;exact re) fun _ hm=>sb hm fun v2 hv2 hm=>cl (OO hv2)<|si hm (fun _ hm=>by cases hm;exact re) fun _ hm=>by cases hm;exact re
theorem LW {p_:bg} {function_:ByteArray} {r:(List Int)} (hm:xk p_ function_ r):S 157 [jZ p_,.str function_] [] (ak r) [] :=sp Tryz.func157 rfl<|lf hm (fun g1=>⟨[(1,.str function_),(2,.ptr 0 0 0),(5,.dh 1 0 g1.2.length false),(9,iV (p_.Groups.length:Int)),(10,iV g1.1)],[(0,some (.box [iV p_.bn,aO p_.Groups])),(1,some (.row 1 g1.2.length (bE iV 0 g1.2)))],2⟩) [(1,none)] [] <|fun self1 g1 hm=>si hm (fun _ hm=>sn hm fun _ hm=>sb hm fun v3 hv3 hm=>cl (AQ hv3)<|si hm (fun _ hm=>s2 hm fun _ _ hm=>lc [(1,some 114)] [] hm) fun _ hm=>sn hm fun _ hm=>le hm) fun _ hm=>by cases hm;exact rt [1] []
theorem OP:∀(n:Nat) (a0_:(bg×(List ByteArray)×(List Int))) (r:((List Int)×Bool)),itM kS n a0_ r→S 126 [jZ a0_.1,eX a0_.2.1,ak a0_.2.2] [] (.jX [ak r.1,.bool r.2]) [] :=by
 intro n
 induction n with
 | zero=>intro a0_ r hm; exact hm.elim
 | succ n ih=>
   intro a0_ r hm
   have hm:kS (itM kS n) a0_ r:=hm
   generalize itM kS n=self0_ at hm ih
   refine sQ (ct:=[]) iw Tryz.func126 rfl rfl (Nat.le_of_ble_eq_true rfl) dk (Nat.le_of_ble_eq_true rfl) ?_
   (conv=>whnf)
   refine dK hm (fun c1 hm=>?_) (fun c1 hm=>?_)
   · (conv=>whnf)
     refine aT hm fun h1 hm=>?_
     (conv=>whnf)
     have hm:r=(a0_.2.2,true):=hm
     subst hm
     refine ⟨[72],[],?_⟩
     (conv=>whnf)
     exact ⟨⟨rfl,trivial,trivial⟩,(by (conv=>whnf); exact ⟨(by (conv=>whnf); exact sf),(by (conv=>whnf); exact ⟨(by first | ((conv=>whnf); exact rfl) | exact rfl),trivial⟩)⟩)⟩
   · (conv=>whnf)
     refine aT hm fun h2 hm=>?_
     (conv=>whnf)
     refine dz hm fun v1 hv1 hm=>?_
     refine ⟨_,_,(LW hv1),?_⟩
     (conv=>whnf)
     refine xQ (ct:=[]) iw dk hm (fun g1=>⟨[(1,eX a0_.2.1),(2,ak a0_.2.2),(3,.ptr 0 0 0),(8,ak v1),(9,iV g1)],[(0,some (.box [iV a0_.1.bn,aO a0_.1.Groups]))],1⟩) [] [] ⟨rfl,⟨sr,sr,r4,sr,r2,trivial⟩,⟨⟨r2,sr,trivial⟩,trivial⟩⟩ ?_
     intro self1 g1 hm
     (conv=>whnf)
     refine dK hm (fun c8 hm=>?_) (fun c8 hm=>?_)
     · (conv=>whnf)
       refine aT hm fun h15 hm=>?_
       (conv=>whnf)
       refine dz hm fun v6 hv6 hm=>?_
       refine ⟨_,_,(EL hv6),?_⟩
       (conv=>whnf)
       refine dK hm (fun c9 hm=>?_) (fun c9 hm=>?_)
       · (conv=>whnf)
         refine aT hm fun h16 hm=>?_
         (conv=>whnf)
         exact ⟨(g1+(1:Int)),[],[],hm,⟨rfl,⟨sr,sr,r4,sr,r2,trivial⟩,⟨⟨r2,sr,trivial⟩,trivial⟩⟩⟩
       · (conv=>whnf)
         refine aT hm fun h17 hm=>?_
         (conv=>whnf)
         refine aT hm fun h18 hm=>?_
         (conv=>whnf)
         refine aT hm fun h19 hm=>?_
         (conv=>whnf)
         refine dz hm fun v7 hv7 hm=>?_
         refine ⟨_,_,((ih _ _ hv7).le ⟨.refl _,.refl _,(.sl oz (fun _=>rfl) nofun (le_appG rfl (fun _ _=>.refl _) rfl (le_litG iV 0 [(v1.getD g1.toNat 0)]))),trivial⟩ trivial),?_⟩
         (conv=>whnf)
         refine dK hm (fun c10 hm=>?_) (fun c10 hm=>?_)
         · (conv=>whnf)
           have hm:r=(v7.1,true):=hm
           subst hm
           refine ⟨[],[],?_⟩
           (conv=>whnf)
           exact ⟨⟨rfl,trivial,trivial⟩,⟨sf,rfl,trivial⟩⟩
         · (conv=>whnf)
           refine aT hm fun h20 hm=>?_
           (conv=>whnf)
           exact ⟨(g1+(1:Int)),[],[],hm,⟨rfl,⟨sr,sr,r4,sr,r2,trivial⟩,⟨⟨r2,sr,trivial⟩,trivial⟩⟩⟩
     · (conv=>whnf)
       have hm:r=(([]:List Int),false):=hm
       subst hm
       refine ⟨[],[],?_⟩
       (conv=>whnf)
       exact ⟨⟨rfl,trivial,trivial⟩,⟨⟨rfl,(fun h=>absurd rfl h),nofun,(fun _ h=>absurd h (Nat.not_lt_zero _))⟩,rfl,trivial⟩⟩
theorem LX {p_:bg} {l_:(List ByteArray)} {groups_:(List Int)} {r:((List Int)×Bool)} (hm:xq p_ l_ groups_ r):S 126 [jZ p_,eX l_,ak groups_] [] (.jX [ak r.1,.bool r.2]) [] :=by
 obtain ⟨n,hm⟩:=hm
 exact OP n (p_,l_,groups_) r hm
theorem LY {p_:bg} {l_:(List ByteArray)} {given_:(List Int)} {r:((List Int)×Int)} (hm:xu p_ l_ given_ r):S 74 [jZ p_,eX l_,ak given_] [] (.jX [ak r.1,iV r.2]) [] :=sp Tryz.func74 rfl<|sb hm fun v1 hv1 hm=>cl (Rk hv1)<|si hm (fun _ hm=>by cases hm;exact re) fun _ hm=>sb hm fun v2 hv2 hm=>cl (LX hv2)<|si hm (fun _ hm=>by cases hm;exact re) fun _ hm=>by cases hm;exact re
theorem tO {l_:(List cK)} {r:Int} (hm:lq l_ r):S 31 [bL l_] [] (iV r) [] :=sp Tryz.func31 rfl<|si hm (fun _ hm=>by cases hm;exact re) fun _ hm=>l0 hm (fun g1=>⟨[(0,bL l_),(3,iV g1)],[],0⟩) <|fun self1 g1 hm=>si hm (fun _ hm=>l0 hm (fun g6=>⟨[(0,bL l_),(3,iV g1),(4,iV g6)],[],0⟩) <|fun self6 g6 hm=>sn hm fun _ hm=>si hm (fun _ hm=>s2 hm fun _ _ hm=>s2 hm fun _ _ hm=>si hm (fun _ hm=>by cases hm;exact re) fun _ hm=>sn hm fun _ hm=>le hm) fun _ hm=>l0 hm (fun g7=>⟨[(0,bL l_),(3,iV g1),(5,iV g7)],[],0⟩) <|fun self7 g7 hm=>sn hm fun _ hm=>si hm (fun _ hm=>s2 hm fun _ _ hm=>s2 hm fun _ _ hm=>sn hm fun _ hm=>si hm (fun _ hm=>by cases hm;exact re) fun _ hm=>sn hm fun _ hm=>le hm) fun _ hm=>sn hm fun _ hm=>le hm) fun _ hm=>by cases hm;exact re
theorem LZ {l_:(List cK)} {lines_:(List Int)} {r:((List Bool)×Int)} (hm:xw l_ lines_ r):S 75 [bL l_,ak lines_] [] (.jX [aJ r.1,iV r.2]) [] :=sp Tryz.func75 rfl<|sb hm fun v1 hv1 hm=>cl (tO hv1)<|si hm (fun _ hm=>by cases hm;exact re) fun _ hm=>sn hm fun _ hm=>lf hm (fun g1=>⟨[(0,bL l_),(1,ak lines_),(6,.dh 0 0 g1.2.length false),(7,iV g1.1)],[(0,some (.row 1 g1.2.length (bE AV.bool false g1.2)))],1⟩) [(0,some 56)] [] <|fun self1 g1 hm=>si hm (fun _ hm=>s2 hm fun _ _ hm=>si hm (fun _ hm=>by cases hm;exact re) fun _ hm=>s2 hm fun _ _ hm=>sn hm fun _ hm=>le hm) fun _ hm=>sn hm fun _ hm=>l0 hm (fun g2=>⟨[(0,bL l_),(6,.dh 0 0 g2.2.length false),(8,iV g2.1)],[(0,some (.row 1 g2.2.length (bE AV.bool false g2.2)))],1⟩) <|fun self2 g2 hm=>si hm (fun _ hm=>l0 hm (fun g5=>⟨[(0,bL l_),(6,.dh 0 0 g5.2.length false),(8,iV g2.1),(9,iV g5.1)],[(0,some (.row 1 g5.2.length (bE AV.bool false g5.2)))],1⟩) <|fun self5 g5 hm=>s2 hm fun _ _ hm=>si hm (fun _ hm=>s2 hm fun _ _ hm=>s2 hm fun _ _ hm=>le hm) fun _ hm=>sn hm fun _ hm=>le hm) fun _ hm=>by cases hm;exact rt [0] []
theorem tQ {l_:(List bT)} {r:Int} (hm:lu l_ r):S 32 [bC l_] [] (iV r) [] :=sp Tryz.func32 rfl<|si hm (fun _ hm=>by cases hm;exact re) fun _ hm=>l0 hm (fun g1=>⟨[(0,bC l_),(3,iV g1)],[],0⟩) <|fun self1 g1 hm=>si hm (fun _ hm=>s2 hm fun _ _ hm=>si hm (fun _ hm=>by cases hm;exact re) fun _ hm=>sn hm fun _ hm=>le hm) fun _ hm=>by cases hm;exact re
theorem Rl {l_:(List bT)} {users_:(List Int)} {r:Int} (hm:Iu l_ users_ r):S 127 [bC l_,ak users_] [] (iV r) [] :=sp Tryz.func127 rfl<|sb hm fun v1 hv1 hm=>cl (tQ hv1)<|si hm (fun _ hm=>by cases hm;exact re) fun _ hm=>l0 hm (fun g1=>⟨[(0,bC l_),(1,ak users_),(5,iV g1)],[],0⟩) <|fun self1 g1 hm=>si hm (fun _ hm=>s2 hm fun _ _ hm=>si hm (fun _ hm=>by cases hm;exact re) fun _ hm=>sn hm fun _ hm=>le hm) fun _ hm=>by cases hm;exact re
theorem Sk {l_:(List bT)} {users_:(List Int)} {r:((List Bool)×Int)} (hm:KZ l_ users_ r):S 76 [bC l_,ak users_] [] (.jX [aJ r.1,iV r.2]) [] :=Sj [13] Tryz.func76 rfl<|sb hm fun v1 hv1 hm=>cl (Rl hv1)<|si hm (fun _ hm=>by cases hm;exact re) fun _ hm=>sn hm fun _ hm=>Lx [13] hm (fun g1=>⟨[(0,bC l_),(1,ak users_),(7,.dh 0 0 g1.2.length false),(8,iV g1.1)],[(0,some (.row 1 g1.2.length (bE AV.bool false g1.2)))],1⟩) [(0,some 80)] [] <|fun self1 g1 hm=>si hm (fun _ hm=>s2 hm fun _ _ hm=>sn hm fun _ hm=>le hm) fun _ hm=>sn hm fun _ hm=>Lx [13] hm (fun g2=>⟨[(0,bC l_),(7,.dh 0 0 g2.2.length false),(9,iV g2.1)],[(0,some (.row 1 g2.2.length (bE AV.bool false g2.2)))],1⟩) [] [] <|fun self2 g2 hm=>si hm (fun _ hm=>ck [13] (Db l_ g2 self2) r (fun g5=>⟨[(0,bC l_),(7,.dh 0 0 g5.length false),(9,iV g2.1)],[(0,some (.row 1 g5.length (bE AV.bool false g5)))],1⟩) (s2 hm fun _ _ hm=>sn hm fun _ hm=>le hm) fun g5 hm=>s2 hm fun _ _ hm=>si hm (fun _ hm=>s2 hm fun _ _ hm=>sn hm fun _ hm=>le hm) fun _ hm=>sn hm fun _ hm=>le hm) fun _ hm=>by cases hm;exact rt [0] []
theorem zi {b_:aU} {l_:(List aH)} {m_:(List Int)} {r:(aG×Bool)} (hm:oU b_ l_ m_ r):S 27 [iY b_,dB l_,ak m_] [] (.jX [iX r.1,.bool r.2]) [] :=Sj [11,18] Tryz.func27 rfl<|Lx [11,18] hm (fun g1=>⟨[(1,dB l_),(3,.ptr 0 0 0),(6,.ptr 1 0 0),(8,.dh 2 0 g1.2.1.length false),(9,.dh 3 0 g1.2.2.1.length false),(10,.dh 4 0 g1.2.2.2.1.length false),(11,.dh 5 0 g1.2.2.2.2.1.length false),(12,.dh 6 0 g1.2.2.2.2.2.1.length false),(13,.dh 7 0 g1.2.2.2.2.2.2.length false),(28,ak m_),(29,iV (m_.length:Int)),(30,iV g1.1)],[(0,some (.box [aS b_.bD,aM b_.aV,iV b_.aN.bn,aO b_.aN.Groups,bL b_.Resets,bC b_.bI])),(1,some (.box [.sl 0 0 true dL,.sl 0 0 true dL,.sl 0 0 true dL,.sl 0 0 true dL,.sl 0 0 true dL,.sl 0 0 true dL])),(2,some (.row 3 g1.2.1.length (bE vLimit dLimit g1.2.1))),(3,some (.row 4 g1.2.2.1.length (bE uJ bX g1.2.2.1))),(4,some (.row 1 g1.2.2.2.1.length (bE AV.str ByteArray.empty g1.2.2.2.1))),(5,some (.row 1 g1.2.2.2.2.1.length (bE iV 0 g1.2.2.2.2.1))),(6,some (.row 1 g1.2.2.2.2.2.1.length (bE iV 0 g1.2.2.2.2.2.1))),(7,some (.row 1 g1.2.2.2.2.2.2.length (bE iV 0 g1.2.2.2.2.2.2)))],8⟩) [(1,some 8),(2,none),(3,none),(4,none),(5,none),(6,none),(7,none)] [] <|fun self1 g1 hm=>si hm (fun _ hm=>s2 hm fun _ _ hm=>s2 hm fun _ _ hm=>s2 hm fun _ _ hm=>s2 hm fun _ _ hm=>sn hm fun _ hm=>ck [11,18] (j6 l_ m_ g1 self1) r (fun g6=>⟨[(1,dB l_),(3,.ptr 0 0 0),(6,.ptr 1 0 0),(8,.dh 2 0 g6.1.length false),(9,.dh 3 0 g6.2.1.length false),(10,.dh 4 0 g6.2.2.1.length false),(11,.dh 5 0 g6.2.2.2.1.length false),(12,.dh 6 0 g6.2.2.2.2.length false),(13,.dh 7 0 g1.2.2.2.2.2.2.length false),(15,iV (m_.getD g1.1.toNat 0)),(28,ak m_),(29,iV (m_.length:Int)),(30,iV g1.1)],[(0,some (.box [aS b_.bD,aM b_.aV,iV b_.aN.bn,aO b_.aN.Groups,bL b_.Resets,bC b_.bI])),(1,some (.box [.sl 0 0 true dL,.sl 0 0 true dL,.sl 0 0 true dL,.sl 0 0 true dL,.sl 0 0 true dL,.sl 0 0 true dL])),(2,some (.row 3 g6.1.length (bE vLimit dLimit g6.1))),(3,some (.row 4 g6.2.1.length (bE uJ bX g6.2.1))),(4,some (.row 1 g6.2.2.1.length (bE AV.str ByteArray.empty g6.2.2.1))),(5,some (.row 1 g6.2.2.2.1.length (bE iV 0 g6.2.2.2.1))),(6,some (.row 1 g6.2.2.2.2.length (bE iV 0 g6.2.2.2.2))),(7,some (.row 1 g1.2.2.2.2.2.2.length (bE iV 0 g1.2.2.2.2.2.2)))],8⟩) (sn hm fun _ hm=>si hm (fun _ hm=>s2 hm fun _ _ hm=>lc [(2,some 88),(3,some 144),(4,some 200),(5,some 256),(6,some 400)] [] hm) fun _ hm=>lc [(2,some 88),(3,some 144),(4,some 200),(5,some 256)] [] hm) fun g6 hm=>sn hm fun _ hm=>Lx [11,18] hm (fun g7=>⟨[(1,dB l_),(3,.ptr 0 0 0),(6,.ptr 1 0 0),(8,.dh 2 0 g6.1.length false),(9,.dh 3 0 g6.2.1.length false),(10,.dh 4 0 g6.2.2.1.length false),(11,.dh 5 0 g6.2.2.2.1.length false),(12,.dh 6 0 g6.2.2.2.2.length false),(13,.dh 7 0 g7.2.length false),(15,iV (m_.getD g1.1.toNat 0)),(28,ak m_),(29,iV (m_.length:Int)),(30,iV g1.1),(81,iV ((((l_.getD ((m_.getD g1.1.toNat 0).toNat) aP).Functions).length:Nat):Int)),(82,iV g7.1)],[(0,some (.box [aS b_.bD,aM b_.aV,iV b_.aN.bn,aO b_.aN.Groups,bL b_.Resets,bC b_.bI])),(1,some (.box [.sl 0 0 true dL,.sl 0 0 true dL,.sl 0 0 true dL,.sl 0 0 true dL,.sl 0 0 true dL,.sl 0 0 true dL])),(2,some (.row 3 g6.1.length (bE vLimit dLimit g6.1))),(3,some (.row 4 g6.2.1.length (bE uJ bX g6.2.1))),(4,some (.row 1 g6.2.2.1.length (bE AV.str ByteArray.empty g6.2.2.1))),(5,some (.row 1 g6.2.2.2.1.length (bE iV 0 g6.2.2.2.1))),(6,some (.row 1 g6.2.2.2.2.length (bE iV 0 g6.2.2.2.2))),(7,some (.row 1 g7.2.length (bE iV 0 g7.2)))],8⟩) [] [] <|fun self7 g7 hm=>si hm (fun _ hm=>s2 hm fun _ _ hm=>lc [(7,some 40)] [] hm) fun _ hm=>sn hm fun _ hm=>le hm) fun _ hm=>sb hm fun v1 hv1 hm=>cl (Ng hv1)<|ck [11,18] (qX b_ g1 v1) r (fun g8=>⟨[(3,.ptr 0 0 0),(6,.ptr 1 0 0),(10,eX g8.1),(11,.dh 2 0 g1.2.2.2.2.1.length false),(12,.dh 3 0 g1.2.2.2.2.2.1.length false),(13,.dh 4 0 g1.2.2.2.2.2.2.length false),(16,ak v1.1),(17,iV v1.2),(18,.ptr 5 0 0),(19,iV g8.2.1)],[(0,some (.box [aS b_.bD,aM b_.aV,iV b_.aN.bn,aO b_.aN.Groups,bL b_.Resets,bC b_.bI])),(1,some (.box [.sl 0 0 true dL,.sl 0 0 true dL,.sl 0 0 true dL,.sl 0 0 true dL,.sl 0 0 true dL,.sl 0 0 true dL])),(2,some (.row 1 g1.2.2.2.2.1.length (bE iV 0 g1.2.2.2.2.1))),(3,some (.row 1 g1.2.2.2.2.2.1.length (bE iV 0 g1.2.2.2.2.2.1))),(4,some (.row 1 g1.2.2.2.2.2.2.length (bE iV 0 g1.2.2.2.2.2.2))),(5,some (.box [aJ g8.2.2.1,ak g8.2.2.2]))],6⟩) (sb hm fun v9 hv9 hm=>cl (Nk hv9)<|lc [(2,some 5),(3,some 6),(4,some 7),(5,some 144)] [4] hm) fun g8 hm=>sb hm fun v3 hv3 hm=>cl ((LY hv3).le ⟨.refl _,.refl _,(.sl rfl (fun h=>absurd rfl h) nofun (fun _ h=>absurd h (Nat.not_lt_zero _))),trivial⟩ trivial)<|sb hm fun v4 hv4 hm=>cl (LZ hv4)<|sb hm fun v5 hv5 hm=>cl (Sk hv5)<|si hm (fun _ hm=>by cases hm;exact re) fun _ hm=>Lx [11,18] hm (fun g9=>⟨[(3,.ptr 0 0 0),(6,.ptr 1 0 0),(10,eX g8.1),(13,.dh 2 0 g1.2.2.2.2.2.2.length false),(20,ak v3.1),(26,.ptr 3 0 0),(150,iV (v3.1.length:Int)),(151,iV g9.1)],[(0,some (.box [aS b_.bD,aM b_.aV,iV b_.aN.bn,aO b_.aN.Groups,bL b_.Resets,bC b_.bI])),(1,some (.box [.sl 0 0 true dL,.sl 0 0 true dL,.sl 0 0 true dL,.sl 0 0 true dL,.sl 0 0 true dL,.sl 0 0 true dL])),(2,some (.row 1 g1.2.2.2.2.2.2.length (bE iV 0 g1.2.2.2.2.2.2))),(3,some (.box [ak v1.1,aJ g8.2.2.1,ak g8.2.2.2,.dh 4 0 g9.2.length false,aJ v4.1,aJ v5.1])),(4,some (.row 3 g9.2.length (bE dX bq g9.2)))],5⟩) [(2,some 4),(3,some 406),(4,none)] [] <|fun self9 g9 hm=>si hm (fun _ hm=>s2 hm fun _ _ hm=>s2 hm fun _ _ hm=>sn hm fun _ hm=>sb hm fun v8 hv8 hm=>cl (AQ hv8)<|s2 hm fun _ _ hm=>lc [(4,some 245)] [] hm) fun _ hm=>by cases hm;exact rt [4] []
end Go.Proofs.YtfblhejmclcdmaaGreatDoor


namespace Go.Proofs.YtfblhejmclcdmaaGreatDoor
open Go.Ab
set_option maxRecDepth 100000
set_option maxHeartbeats 20000000
theorem Nq {o0_:bH} {r:(aU×(List aH)×(List Int)×aG×Bool×bH)} (hm:zW o0_ r):S 8 [.ptr 0 0 0] [.box [ak o0_.L,iV o0_.At]] (.jX [iY r.1,dB r.2.1,ak r.2.2.1,iX r.2.2.2.1,.bool r.2.2.2.2.1]) [.box [ak r.2.2.2.2.2.L,iV r.2.2.2.2.2.At]] :=sp Tryz.func8 rfl<|sb hm fun v1 hv1 hm=>cl (Hw hv1)<|sb hm fun v2 hv2 hm=>cl (Dy hv2)<|sb hm fun v3 hv3 hm=>cl ((zi hv3).le ⟨.refl _,.refl _,(.sl rfl (fun h=>absurd rfl h) nofun (fun _ h=>absurd h (Nat.not_lt_zero _))),trivial⟩ trivial)<|lf hm (fun g1=>⟨[(0,.ptr 0 0 0),(2,.ptr 1 0 0),(5,.ptr 2 0 0),(7,.ptr 3 0 0),(8,dB v2.1),(9,.ptr 4 0 0),(10,.bool v3.2),(11,.dh 5 0 g1.2.2.2.2.2.2.2.2.2.length false),(27,iV (v2.1.length:Int)),(28,iV g1.1)],[(0,some (.box [ak g1.2.1,iV g1.2.2.1])),(1,some (.box [.sl 0 0 true dL,.sl 0 0 true dL,iV (0:Int),.sl 0 0 true dL,.sl 0 0 true dL,.sl 0 0 true dL])),(2,some (.box [.sl 0 0 true dL,.sl 0 0 true dL,.sl 0 0 true dL,.sl 0 0 true dL,.sl 0 0 true dL,.sl 0 0 true dL])),(3,some (.box [aS v1.1.bD,aM v1.1.aV,iV v1.1.aN.bn,aO v1.1.aN.Groups,bL v1.1.Resets,bC v1.1.bI])),(4,some (.box [ak g1.2.2.2.1,aJ g1.2.2.2.2.1,ak g1.2.2.2.2.2.1,bN g1.2.2.2.2.2.2.1,aJ g1.2.2.2.2.2.2.2.1,aJ g1.2.2.2.2.2.2.2.2.1])),(5,some (.row 1 g1.2.2.2.2.2.2.2.2.2.length (bE iV 0 g1.2.2.2.2.2.2.2.2.2)))],6⟩) [(2,some 25),(3,some 57),(4,some 153),(5,none)] [] <|fun self1 g1 hm=>si hm (fun _ hm=>s2 hm fun _ _ hm=>sb hm fun v8 hv8 hm=>cl ((zi hv8).le ⟨.refl _,.refl _,(.sl oz (fun _=>rfl) nofun (le_appG rfl (fun _ _=>.refl _) rfl (le_litG iV 0 [g1.1]))),trivial⟩ trivial)<|si hm (fun _ hm=>sb hm fun v9 hv9 hm=>cl (aX hv9)<|si hm (fun _ hm=>s2 hm fun _ _ hm=>lc [(5,some 246)] [] hm) fun _ hm=>sn hm fun _ hm=>le hm) fun c8 hm=>by
 refine ⟨(fun q0=>absurd q0 (NV c8)),?_⟩
 (conv=>whnf)
 refine aT hm fun h20 hm=>?_
 (conv=>whnf)
 refine aT hm fun h21 hm=>?_
 (conv=>whnf)
 exact ⟨((g1.1+(1:Int)),g1.2.1,g1.2.2.1,g1.2.2.2.1,g1.2.2.2.2.1,g1.2.2.2.2.2.1,g1.2.2.2.2.2.2.1,g1.2.2.2.2.2.2.2.1,g1.2.2.2.2.2.2.2.2.1,g1.2.2.2.2.2.2.2.2.2),[],[],hm,⟨rfl,⟨r4,r4,r4,r4,sr,r4,rfl,⟨rfl,rfl,rfl,rfl,nofun⟩,r2,r2,trivial⟩,⟨⟨sf,r2,trivial⟩,⟨sr,sr,r2,sr,sr,sr,trivial⟩,⟨sr,sr,sr,sr,sr,sr,trivial⟩,⟨sr,sr,r2,sr,sr,sr,trivial⟩,⟨sf,sf,sf,sf,sf,sf,trivial⟩,⟨rfl,rfl,(fun _ _=>.refl _)⟩,trivial⟩⟩⟩) fun _ hm=>by cases hm;exact rt [5] []
theorem tT {b_:aU} {r:Int} (hm:qo b_ r):S 9 [iY b_] [] (iV r) [] :=sp Tryz.func9 rfl<|sb hm fun v1 hv1 hm=>cl (nW hv1)<|si hm (fun _ hm=>by cases hm;exact re) fun _ hm=>sb hm fun v2 hv2 hm=>cl (nY hv2)<|si hm (fun _ hm=>by cases hm;exact re) fun _ hm=>sb hm fun v3 hv3 hm=>cl (tN hv3)<|si hm (fun _ hm=>by cases hm;exact re) fun _ hm=>sb hm fun v4 hv4 hm=>cl (tO hv4)<|si hm (fun _ hm=>by cases hm;exact re) fun _ hm=>sb hm fun v5 hv5 hm=>cl (tQ hv5)<|by cases hm;exact re
theorem HZ {o0_:bH} {r:(bU×bH)} (hm:pz o0_ r):S 12 [.ptr 0 0 0] [.box [ak o0_.L,iV o0_.At]] (vWrite r.1) [.box [ak r.2.L,iV r.2.At]] :=sp Tryz.func12 rfl<|sb hm fun v1 hv1 hm=>cl ((dG hv1).le ⟨.refl _,(.sl rfl (fun _=>rfl) nofun (le_litG iV 0 [(1:Int),(2:Int),(3:Int),(10:Int),(11:Int),(12:Int),(9:Int)])),trivial⟩ ⟨iW _,trivial⟩)<|sb hm fun v2 hv2 hm=>cl (cu hv2)<|sb hm fun v3 hv3 hm=>cl (cu hv3)<|by cases hm;exact re
theorem OQ {g_:aG} {r:((List Int)×(List Bool)×(List Int)×(List aK)×(List Bool)×(List Bool))} (hm:Dc g_ r):S 37 [iX g_] [] (.agg [.dh 0 0 r.1.length false,.dh 1 0 r.2.1.length false,.dh 2 0 r.2.2.1.length false,.dh 3 0 r.2.2.2.1.length false,.dh 4 0 r.2.2.2.2.1.length false,.dh 5 0 r.2.2.2.2.2.length false]) [.row 1 r.1.length (bE iV 0 r.1),.row 1 r.2.1.length (bE AV.bool false r.2.1),.row 1 r.2.2.1.length (bE iV 0 r.2.2.1),.row 3 r.2.2.2.1.length (bE dX bq r.2.2.2.1),.row 1 r.2.2.2.2.1.length (bE AV.bool false r.2.2.2.2.1),.row 1 r.2.2.2.2.2.length (bE AV.bool false r.2.2.2.2.2)] :=sp Tryz.func37 rfl<|s2 hm fun _ _ hm=>s2 hm fun _ _ hm=>s2 hm fun _ _ hm=>by cases hm;exact rt [] [(0,some 32),(1,some 80),(2,some 112),(3,some 160),(4,some 200),(5,some 240)]
theorem Ct {b_:aU} {g_:aG} {w_:bU} {r:(aG×Int)} (hm:uW b_ g_ w_ r):S 13 [iY b_,iX g_,vWrite w_] [] (.jX [iX r.1,iV r.2]) [] :=Sj [17,37] Tryz.func13 rfl<|ck [17,37] (gJ g_ w_) r (fun g1=>⟨[(4,.ptr 0 0 0),(5,.ptr 1 0 0),(6,.ptr 2 0 0),(8,iV g1.1),(9,.bool g1.2)],[(0,some (.box [ak g_.Setting,aJ g_.Rails.On,ak g_.Rails.Level,bN g_.Uses,aJ g_.Released,aJ g_.Powered])),(1,some (.box [iV w_.Kind,iV w_.Unit,iV w_.Value])),(2,some (.box [.sl 0 0 true dL,.sl 0 0 true dL,.sl 0 0 true dL,.sl 0 0 true dL,.sl 0 0 true dL,.sl 0 0 true dL]))],3⟩) (si hm (fun _ hm=>lc [(0,some 8),(1,some 16),(2,some 24)] [] hm) fun _ hm=>si hm (fun _ hm=>lc [(0,some 8),(1,some 16),(2,some 24)] [] hm) fun _ hm=>si hm (fun _ hm=>lc [(0,some 8),(1,some 16),(2,some 24)] [] hm) fun _ hm=>si hm (fun _ hm=>lc [(0,some 8),(1,some 16),(2,some 24)] [] hm) fun _ hm=>si hm (fun _ hm=>lc [(0,some 8),(1,some 16),(2,some 24)] [] hm) fun _ hm=>si hm (fun _ hm=>lc [(0,some 8),(1,some 16),(2,some 24)] [] hm) fun _ hm=>by cases hm;exact re) fun g1 hm=>si hm (fun _ hm=>by cases hm;exact re) fun _ hm=>sb hm fun v1 hv1 hm=>cl (OQ hv1)<|si hm (fun _ hm=>sn hm fun _ hm=>by cases hm;exact rt [187,188,189,190,191,192] [] (by (conv=>whnf);exact ⟨⟨rfl,trivial,trivial⟩,(by (conv=>whnf); exact ⟨(by (conv=>whnf); exact ⟨(by (conv=>whnf); exact ⟨oz,(fun _=>rfl),nofun,(iO (fun _ _=>.refl _) rfl (.refl _))⟩),(by (conv=>whnf); exact ⟨(by (conv=>whnf); exact sf),(by (conv=>whnf); exact ⟨(by (conv=>whnf); exact sf),(by (conv=>whnf); exact ⟨(by (conv=>whnf); exact sf),(by (conv=>whnf); exact ⟨(by (conv=>whnf); exact sf),(by (conv=>whnf); exact ⟨(by (conv=>whnf); exact sf),trivial⟩)⟩)⟩)⟩)⟩)⟩),(by (conv=>whnf); exact ⟨(by first | ((conv=>whnf); exact r2) | exact r2),trivial⟩)⟩)⟩)) fun _ hm=>si hm (fun _ hm=>sn hm fun _ hm=>by cases hm;exact rt [187,188,189,190,191,192] [] (by (conv=>whnf);exact ⟨⟨rfl,trivial,trivial⟩,(by (conv=>whnf); exact ⟨(by (conv=>whnf); exact ⟨(by (conv=>whnf); exact sf),(by (conv=>whnf); exact ⟨(by (conv=>whnf); exact sf),(by (conv=>whnf); exact ⟨(by (conv=>whnf); exact ⟨oz,(fun _=>rfl),nofun,(iO (fun _ _=>.refl _) rfl (.refl _))⟩),(by (conv=>whnf); exact ⟨(by (conv=>whnf); exact sf),(by (conv=>whnf); exact ⟨(by (conv=>whnf); exact sf),(by (conv=>whnf); exact ⟨(by (conv=>whnf); exact sf),trivial⟩)⟩)⟩)⟩)⟩)⟩),(by (conv=>whnf); exact ⟨(by first | ((conv=>whnf); exact r2) | exact r2),trivial⟩)⟩)⟩)) fun _ hm=>si hm (fun _ hm=>sn hm fun _ hm=>by cases hm;exact rt [187,188,189,190,191,192] [] (by (conv=>whnf);exact ⟨⟨rfl,trivial,trivial⟩,(by (conv=>whnf); exact ⟨(by (conv=>whnf); exact ⟨(by (conv=>whnf); exact sf),(by (conv=>whnf); exact ⟨(by (conv=>whnf); exact ⟨oz,(fun _=>rfl),nofun,(iO (fun _ _=>.refl _) rfl (.refl _))⟩),(by (conv=>whnf); exact ⟨(by (conv=>whnf); exact sf),(by (conv=>whnf); exact ⟨(by (conv=>whnf); exact sf),(by (conv=>whnf); exact ⟨(by (conv=>whnf); exact sf),(by (conv=>whnf); exact ⟨(by (conv=>whnf); exact sf),trivial⟩)⟩)⟩)⟩)⟩)⟩),(by (conv=>whnf); exact ⟨(by first | ((conv=>whnf); exact r2) | exact r2),trivial⟩)⟩)⟩)) fun _ hm=>si hm (fun _ hm=>sn hm fun _ hm=>by cases hm;exact rt [187,188,189,190,191,192] [] (by (conv=>whnf);exact ⟨⟨rfl,trivial,trivial⟩,(by (conv=>whnf); exact ⟨(by (conv=>whnf); exact ⟨(by (conv=>whnf); exact sf),(by (conv=>whnf); exact ⟨(by (conv=>whnf); exact sf),(by (conv=>whnf); exact ⟨(by (conv=>whnf); exact sf),(by (conv=>whnf); exact ⟨(by (conv=>whnf); exact sf),(by (conv=>whnf); exact ⟨(by (conv=>whnf); exact ⟨oz,(fun _=>rfl),nofun,(iO (fun _ _=>.refl _) rfl (.refl _))⟩),(by (conv=>whnf); exact ⟨(by (conv=>whnf); exact sf),trivial⟩)⟩)⟩)⟩)⟩)⟩),(by (conv=>whnf); exact ⟨(by first | ((conv=>whnf); exact r2) | exact r2),trivial⟩)⟩)⟩)) fun _ hm=>si hm (fun _ hm=>sn hm fun _ hm=>by cases hm;exact rt [187,188,189,190,191,192] [] (by (conv=>whnf);exact ⟨⟨rfl,trivial,trivial⟩,(by (conv=>whnf); exact ⟨(by (conv=>whnf); exact ⟨(by (conv=>whnf); exact sf),(by (conv=>whnf); exact ⟨(by (conv=>whnf); exact sf),(by (conv=>whnf); exact ⟨(by (conv=>whnf); exact sf),(by (conv=>whnf); exact ⟨(by (conv=>whnf); exact sf),(by (conv=>whnf); exact ⟨(by (conv=>whnf); exact sf),(by (conv=>whnf); exact ⟨(by (conv=>whnf); exact ⟨oz,(fun _=>rfl),nofun,(iO (fun _ _=>.refl _) rfl (.refl _))⟩),trivial⟩)⟩)⟩)⟩)⟩)⟩),(by (conv=>whnf); exact ⟨(by first | ((conv=>whnf); exact r2) | exact r2),trivial⟩)⟩)⟩)) fun _ hm=>si hm (fun _ hm=>ck [17,37] (pE w_ v1) r (fun g3=>⟨[(4,.ptr 0 0 0),(5,.ptr 1 0 0),(6,.ptr 2 0 0)],[(0,some (.box [.dh 3 0 v1.1.length false,.dh 4 0 v1.2.1.length false,.dh 5 0 v1.2.2.1.length false,.dh 6 0 g3.1 false,.dh 7 0 v1.2.2.2.2.1.length false,.dh 8 0 v1.2.2.2.2.2.length false])),(1,some (.box [iV w_.Kind,iV w_.Unit,iV w_.Value])),(2,some (.box [.sl 0 0 true dL,.sl 0 0 true dL,.sl 0 0 true dL,.sl 0 0 true dL,.sl 0 0 true dL,.sl 0 0 true dL])),(3,some (.row 1 v1.1.length (bE iV 0 v1.1))),(4,some (.row 1 v1.2.1.length (bE AV.bool false v1.2.1))),(5,some (.row 1 v1.2.2.1.length (bE iV 0 v1.2.2.1))),(6,some (.row 3 g3.2.length (bE dX bq g3.2))),(7,some (.row 1 v1.2.2.2.2.1.length (bE AV.bool false v1.2.2.2.2.1))),(8,some (.row 1 v1.2.2.2.2.2.length (bE AV.bool false v1.2.2.2.2.2)))],9⟩) (Lx [17,37] hm (fun g4=>⟨[(4,.ptr 0 0 0),(5,.ptr 1 0 0),(6,.ptr 2 0 0),(10,iV g4)],[(0,some (.box [.dh 3 0 v1.1.length false,.dh 4 0 v1.2.1.length false,.dh 5 0 v1.2.2.1.length false,.dh 6 0 v1.2.2.2.1.length false,.dh 7 0 v1.2.2.2.2.1.length false,.dh 8 0 v1.2.2.2.2.2.length false])),(1,some (.box [iV w_.Kind,iV w_.Unit,iV w_.Value])),(2,some (.box [.sl 0 0 true dL,.sl 0 0 true dL,.sl 0 0 true dL,.sl 0 0 true dL,.sl 0 0 true dL,.sl 0 0 true dL])),(3,some (.row 1 v1.1.length (bE iV 0 v1.1))),(4,some (.row 1 v1.2.1.length (bE AV.bool false v1.2.1))),(5,some (.row 1 v1.2.2.1.length (bE iV 0 v1.2.2.1))),(6,some (.row 3 v1.2.2.2.1.length (bE dX bq v1.2.2.2.1))),(7,some (.row 1 v1.2.2.2.2.1.length (bE AV.bool false v1.2.2.2.2.1))),(8,some (.row 1 v1.2.2.2.2.2.length (bE AV.bool false v1.2.2.2.2.2)))],9⟩) [(3,some 187),(4,some 188),(5,some 189),(6,some 190),(7,some 191),(8,some 192)] [] <|fun self4 g4 hm=>si hm (fun _ hm=>sn hm fun _ hm=>si hm (fun _ hm=>s2 hm fun _ _ hm=>s2 hm fun _ _ hm=>lce [] [] hm ⟨rfl,⟨r4,r4,r4,trivial⟩,⟨⟨⟨rfl,rfl,rfl,rfl,nofun⟩,⟨rfl,rfl,rfl,rfl,nofun⟩,⟨rfl,rfl,rfl,rfl,nofun⟩,⟨rfl,rfl,rfl,rfl,nofun⟩,⟨rfl,rfl,rfl,rfl,nofun⟩,⟨rfl,rfl,rfl,rfl,nofun⟩,trivial⟩,⟨r2,r2,r2,trivial⟩,⟨sr,sr,sr,sr,sr,sr,trivial⟩,⟨rfl,rfl,(fun _ _=>.refl _)⟩,⟨rfl,rfl,(fun _ _=>.refl _)⟩,⟨rfl,rfl,(fun _ _=>.refl _)⟩,⟨rfl,oz,(Ql rfl (fun _ _=>.refl _) oz (Mx (a:=(0+(g4+(1:Int)).toNat)) (N:=v1.2.2.2.1.length) (fun _ _=>.refl _) (by first | omega | (simp; omega))))⟩,⟨rfl,rfl,(fun _ _=>.refl _)⟩,⟨rfl,rfl,(fun _ _=>.refl _)⟩,trivial⟩⟩) fun _ hm=>sn hm fun _ hm=>le hm) fun _ hm=>le hm) fun g3 hm=>by
 have h26:=hm.1
 have hm:=hm.2
 refine dK hm (fun c20 hm=>?_) (fun c20 hm=>?_)
 ·(conv=>whnf)
  refine aT hm fun h24 hm=>?_
  (conv=>whnf)
  refine aT hm fun h25 hm=>?_
  (conv=>whnf)
  have hm:r=((⟨v1.1,(⟨v1.2.1,v1.2.2.1⟩:bf),((g3.2.take (g3.1))++([(⟨(-1:Int),(⟨w_.Unit,(w_.Value - (1:Int))⟩:iC)⟩:aK)]:List aK)),v1.2.2.2.2.1,v1.2.2.2.2.2⟩:aG),(0:Int)):=hm
  subst hm
  refine ⟨[3,4,5,113,7,8],[],?_⟩
  (conv=>whnf)
  exact ⟨⟨rfl,trivial,trivial⟩,(by (conv=>whnf); exact ⟨(by (conv=>whnf); exact ⟨(by (conv=>whnf); exact sf),(by (conv=>whnf); exact ⟨(by (conv=>whnf); exact sf),(by (conv=>whnf); exact ⟨(by (conv=>whnf); exact sf),(by (conv=>whnf); exact ⟨(by (conv=>whnf); exact ⟨oz,(fun _=>rfl),nofun,(le_appG oz (le_rtake (f:=dX) (d:=bq) (by first | omega | (simp; omega))) rfl (le_litG dX bq [(⟨(-1:Int),(⟨w_.Unit,(w_.Value - (1:Int))⟩:iC)⟩:aK)]))⟩),(by (conv=>whnf); exact ⟨(by (conv=>whnf); exact sf),(by (conv=>whnf); exact ⟨(by (conv=>whnf); exact sf),trivial⟩)⟩)⟩)⟩)⟩)⟩),(by (conv=>whnf); exact ⟨(by first | ((conv=>whnf); exact r2) | exact r2),trivial⟩)⟩)⟩
 ·(conv=>whnf)
  have hm:r=((⟨v1.1,(⟨v1.2.1,v1.2.2.1⟩:bf),(g3.2.take (g3.1)),v1.2.2.2.2.1,v1.2.2.2.2.2⟩:aG),(0:Int)):=hm
  subst hm
  refine ⟨[3,4,5,6,7,8],[],?_⟩
  (conv=>whnf)
  exact ⟨⟨rfl,trivial,trivial⟩,(by (conv=>whnf); exact ⟨(by (conv=>whnf); exact ⟨(by (conv=>whnf); exact sf),(by (conv=>whnf); exact ⟨(by (conv=>whnf); exact sf),(by (conv=>whnf); exact ⟨(by (conv=>whnf); exact sf),(by (conv=>whnf); exact ⟨(by (conv=>whnf); exact ⟨oz,(fun _=>rfl),nofun,(le_rtake (f:=dX) (d:=bq) (by first | omega | (simp; omega)))⟩),(by (conv=>whnf); exact ⟨(by (conv=>whnf); exact sf),(by (conv=>whnf); exact ⟨(by (conv=>whnf); exact sf),trivial⟩)⟩)⟩)⟩)⟩)⟩),(by (conv=>whnf); exact ⟨(by first | ((conv=>whnf); exact r2) | exact r2),trivial⟩)⟩)⟩) fun _ hm=>by cases hm;exact rt [187,188,189,190,191,192] [] (by (conv=>whnf);exact ⟨⟨rfl,trivial,trivial⟩,(by (conv=>whnf); exact ⟨(by (conv=>whnf); exact ⟨(by (conv=>whnf); exact sf),(by (conv=>whnf); exact ⟨(by (conv=>whnf); exact sf),(by (conv=>whnf); exact ⟨(by (conv=>whnf); exact sf),(by (conv=>whnf); exact ⟨(by (conv=>whnf); exact sf),(by (conv=>whnf); exact ⟨(by (conv=>whnf); exact sf),(by (conv=>whnf); exact ⟨(by (conv=>whnf); exact sf),trivial⟩)⟩)⟩)⟩)⟩)⟩),(by (conv=>whnf); exact ⟨(by first | ((conv=>whnf); exact r2) | exact r2),trivial⟩)⟩)⟩)
theorem EM {a_:(List Int)} {b_:(List Int)} {r:Bool} (hm:yL a_ b_ r):S 41 [ak a_,ak b_] [] (.bool r) [] :=sp Tryz.func41 rfl<|si hm (fun _ hm=>by cases hm;exact re) fun _ hm=>l0 hm (fun g1=>⟨[(0,ak a_),(1,ak b_),(5,iV g1)],[],0⟩) <|fun self1 g1 hm=>si hm (fun _ hm=>s2 hm fun _ _ hm=>si hm (fun _ hm=>by cases hm;exact re) fun _ hm=>sn hm fun _ hm=>le hm) fun _ hm=>by cases hm;exact re
theorem tV {a_:(List Bool)} {b_:(List Bool)} {r:Bool} (hm:qp a_ b_ r):S 44 [aJ a_,aJ b_] [] (.bool r) [] :=sp Tryz.func44 rfl<|si hm (fun _ hm=>by cases hm;exact re) fun _ hm=>l0 hm (fun g1=>⟨[(0,aJ a_),(1,aJ b_),(5,iV g1)],[],0⟩) <|fun self1 g1 hm=>si hm (fun _ hm=>s2 hm fun _ _ hm=>si hm (fun _ hm=>by cases hm;exact re) fun _ hm=>sn hm fun _ hm=>le hm) fun _ hm=>by cases hm;exact re
theorem H6 {a_:bf} {b_:bf} {r:Bool} (hm:pF a_ b_ r):S 42 [vH a_,vH b_] [] (.bool r) [] :=sp Tryz.func42 rfl<|sb hm fun v1 hv1 hm=>cl (tV hv1)<|sb hm fun v2 hv2 hm=>cl (fun q0=>(EM (hv2 q0)))<|by cases hm;exact re
theorem Kw {a_:(List aK)} {b_:(List aK)} {r:Bool} (hm:uf a_ b_ r):S 43 [bN a_,bN b_] [] (.bool r) [] :=sp Tryz.func43 rfl<|si hm (fun _ hm=>by cases hm;exact re) fun _ hm=>l0 hm (fun g1=>⟨[(0,bN a_),(1,bN b_),(5,iV g1)],[],0⟩) <|fun self1 g1 hm=>si hm (fun _ hm=>s2 hm fun _ _ hm=>si hm (fun _ hm=>by cases hm;exact re) fun _ hm=>sn hm fun _ hm=>le hm) fun _ hm=>by cases hm;exact re
theorem EN {a_:aG} {b_:aG} {r:Bool} (hm:yM a_ b_ r):S 15 [iX a_,iX b_] [] (.bool r) [] :=sp Tryz.func15 rfl<|sb hm fun v1 hv1 hm=>cl (EM hv1)<|sb hm fun v2 hv2 hm=>cl (fun q0=>(H6 (hv2 q0)))<|sb hm fun v3 hv3 hm=>cl (fun q0=>(Kw (hv3 q0)))<|sb hm fun v4 hv4 hm=>cl (fun q0=>(tV (hv4 q0)))<|sb hm fun v5 hv5 hm=>cl (fun q0=>(tV (hv5 q0)))<|by cases hm;exact re
end Go.Proofs.YtfblhejmclcdmaaGreatDoor

namespace Go.Proofs.YtfblhejmclcdmaaGreatDoor
open Go.Ab
theorem Ob {p:Prop} (h:p:=by first | omega | (simp [eT]; done) | (simp [eT,TH]; done) | (simp [eT]; omega) | (simp [eT,TH]; omega)):p:=h
end Go.Proofs.YtfblhejmclcdmaaGreatDoor

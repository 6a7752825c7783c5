/- An abstract machine over the model's code, that it is sound; models of the functions and their proofs. -/
import Derived.Test.YtfblhejmclcdmaaGreatDoorA3
set_option linter.unusedVariables false
set_option linter.unusedSimpArgs false

namespace Go.Proofs.YtfblhejmclcdmaaGreatDoor
open Go.Ab
set_option maxRecDepth 100000
structure av where
 Kind:Int
 Parents:(List Int)
 Choices:(List Int)
 Low:Int
 High:Int
def ay:av:=⟨0,[],[],0,0⟩
instance:Inhabited av:=⟨ay⟩
structure aj where
 Parent:Int
 aQ:(List Int)
 dM:Int
 dU:Int
 Always:Bool
def ah:aj:=⟨0,[],0,0,false⟩
instance:Inhabited aj:=⟨ah⟩
structure aV where
 Name:ByteArray
 bI:(List Int)
 Functions:(List ByteArray)
def au:aV:=⟨ByteArray.empty,[],[]⟩
instance:Inhabited aV:=⟨au⟩
structure aR where
 bI:Int
 Groups:(List aV)
def Us:aR:=⟨0,[]⟩
instance:Inhabited aR:=⟨Us⟩
structure bV where
 After:(List Int)
def dReset:bV:=⟨[]⟩
instance:Inhabited bV:=⟨dReset⟩
structure bH where
 Parent:Int
 Always:Bool
def dD:bH:=⟨0,false⟩
instance:Inhabited bH:=⟨dD⟩
structure bF where
 bO:(List av)
 bC:(List aj)
 bD:aR
 Resets:(List bV)
 bS:(List bH)
def Xf:bF:=⟨[],[],Us,[],[]⟩
instance:Inhabited bF:=⟨Xf⟩
structure bn where
 Clock:Int
 Low:Int
 High:Int
def cB:bn:=⟨0,0,0⟩
instance:Inhabited bn:=⟨cB⟩
structure aI where
 aM:Int
 Low:Int
 High:Int
 Load:Int
def bK:aI:=⟨0,0,0,0⟩
instance:Inhabited aI:=⟨bK⟩
structure aO where
 Limits:(List bn)
 Draws:(List aI)
 Functions:(List ByteArray)
 Resets:(List Int)
 fK:Int
 cO:(List Int)
def aY:aO:=⟨[],[],[],[],0,[]⟩
instance:Inhabited aO:=⟨aY⟩
structure bE where
 On:(List Bool)
 Level:(List Int)
def FZ:bE:=⟨[],[]⟩
instance:Inhabited bE:=⟨FZ⟩
structure oW where
 dR:Int
 Function:Int
def iK:oW:=⟨0,0⟩
instance:Inhabited oW:=⟨iK⟩
structure aZ where
 Device:Int
 Use:oW
def bY:aZ:=⟨0,iK⟩
instance:Inhabited aZ:=⟨bY⟩
structure bX where
 Setting:(List Int)
 fC:bE
 Uses:(List aZ)
 Released:(List Bool)
 eU:(List Bool)
def Xg:bX:=⟨[],FZ,[],[],[]⟩
instance:Inhabited bX:=⟨Xg⟩
structure nU where
 Kind:Int
 Unit:Int
 Value:Int
def dWrite:nU:=⟨0,0,0⟩
instance:Inhabited nU:=⟨dWrite⟩
structure dP where
 aN:bF
 bG:(List aO)
 aG:(List Int)
 aJ:bX
 jd:Bool
def ZQ:dP:=⟨Xf,[],[],Xg,false⟩
instance:Inhabited dP:=⟨ZQ⟩
structure aP where
 Num:Int
 Den:Int
def bZ:aP:=⟨0,0⟩
instance:Inhabited aP:=⟨bZ⟩
structure bq where
 L:(List Int)
 At:Int
def aaX:bq:=⟨[],0⟩
instance:Inhabited bq:=⟨aaX⟩
def YE (X:(Nat→Int)):AV:=.agg (iA 64 0 (BM iV X))
abbrev aD (l:List Int):AV:=W9 l
def CO (x:av):AV:=.agg [iV x.Kind,aD x.Parents,aD x.Choices,iV x.Low,iV x.High]
def wW (x:aj):AV:=.agg [iV x.Parent,aD x.aQ,iV x.dM,iV x.dU,.bool x.Always]
def fM (l:List ByteArray):AV:=.sl 1 l.length false (bB AV.str ByteArray.empty l)
def jS (x:aV):AV:=.agg [.str x.Name,aD x.bI,fM x.Functions]
def aX (l:List aV):AV:=.sl 3 l.length false (bB jS au l)
def kU (x:aR):AV:=.agg [iV x.bI,aX x.Groups]
def Xh (x:bV):AV:=.agg [aD x.After]
def Ut (x:bH):AV:=.agg [iV x.Parent,.bool x.Always]
def aS (l:List av):AV:=.sl 5 l.length false (bB CO ay l)
def aL (l:List aj):AV:=.sl 5 l.length false (bB wW ah l)
def bQ (l:List bV):AV:=.sl 1 l.length false (bB Xh dReset l)
def bL (l:List bH):AV:=.sl 2 l.length false (bB Ut dD l)
def qM (x:bF):AV:=.agg [aS x.bO,aL x.bC,iV x.bD.bI,aX x.bD.Groups,bQ x.Resets,bL x.bS]
def tC (x:bn):AV:=.agg [iV x.Clock,iV x.Low,iV x.High]
def AY (x:aI):AV:=.agg [iV x.aM,iV x.Low,iV x.High,iV x.Load]
def eX (l:List bn):AV:=.sl 3 l.length false (bB tC cB l)
def dZ (l:List aI):AV:=.sl 4 l.length false (bB AY bK l)
def yS (x:aO):AV:=.agg [eX x.Limits,dZ x.Draws,fM x.Functions,aD x.Resets,iV x.fK,aD x.cO]
def bf (l:List Bool):AV:=.sl 1 l.length false (bB AV.bool false l)
def IU (x:bE):AV:=.agg [bf x.On,aD x.Level]
def aaz (x:oW):AV:=.agg [iV x.dR,iV x.Function]
def iR (x:aZ):AV:=.agg [iV x.Device,iV x.Use.dR,iV x.Use.Function]
def dG (l:List aZ):AV:=.sl 3 l.length false (bB iR bY l)
def IV (x:bX):AV:=.agg [aD x.Setting,bf x.fC.On,aD x.fC.Level,dG x.Uses,bf x.Released,bf x.eU]
def vWrite (x:nU):AV:=.agg [iV x.Kind,iV x.Unit,iV x.Value]
def eF (l:List aO):AV:=.sl 6 l.length false (bB yS aY l)
def zX (x:dP):AV:=.agg [aS x.aN.bO,aL x.aN.bC,iV x.aN.bD.bI,aX x.aN.bD.Groups,bQ x.aN.Resets,bL x.aN.bS,eF x.bG,aD x.aG,aD x.aJ.Setting,bf x.aJ.fC.On,aD x.aJ.fC.Level,dG x.aJ.Uses,bf x.aJ.Released,bf x.aJ.eU,.bool x.jd]
def lG (x:aP):AV:=.agg [iV x.Num,iV x.Den]
def ZR (l:List (List Int)):AV:=.sl 1 l.length false (bB aD [] l)
def QX (l:List oW):AV:=.sl 2 l.length false (bB aaz iK l)
def qN (l:List aP):AV:=.sl 2 l.length false (bB lG bZ l)
def Pw (l:List nU):AV:=.sl 3 l.length false (bB vWrite dWrite l)
noncomputable def fG:M bF:=
 ret (⟨([]:List av),([]:List aj),(⟨(2:Int),([(⟨({ data:=#[97] }:ByteArray),([(0:Int),(1:Int)]:List Int),([({ data:=#[117,97,114,116] }:ByteArray)]:List ByteArray)⟩:aV)]:List aV)⟩:aR),([(⟨([]:List Int)⟩:bV),(⟨([(0:Int)]:List Int)⟩:bV)]:List bV),([]:List bH)⟩:bF)
noncomputable def xW (c_:av):M Bool:=
 ret ((decide ((8:Int)<(c_.Parents.length:Int)))||(decide ((8:Int)<(c_.Choices.length:Int))))
noncomputable def tF (s_:(List av)) (self1:Int→M Int):Int→M Int:=fun g1=>
 bif (decide (g1<(s_.length:Int))) then
  need (0≤g1∧g1<(s_.length:Int))<|
  bnd (xW (s_.getD g1.toNat ay)) fun v3=>
  bif v3 then
   ret g1
  else
   need (InI64 (g1+(1:Int)))<|
   self1 (g1+(1:Int))
 else
  ret (-1:Int)
noncomputable def mO (s_:(List av)):M Int:=
 bT (tF s_) (0:Int)
noncomputable def iL (s_:(List av)):M Bool:=
 bnd (mO s_) fun v1=>
 ret (decide ((0:Int)≤v1))
noncomputable def gB (n_:Int) (lo_:Int) (hi_:Int):M Bool:=
 ret ((decide (lo_≤n_))&&(decide (n_≤hi_)))
noncomputable def rP (p_:Int) (a1_:Int):M Bool:=
 need (InI64 (a1_ - (1:Int)))<|
 bnd (gB p_ (0:Int) (a1_ - (1:Int))) fun v1=>
 ret (!v1)
noncomputable def yT (s_:(List Int)) (f_:Int) (self1:Int→M Int):Int→M Int:=fun g1=>
 bif (decide (g1<(s_.length:Int))) then
  need (0≤g1∧g1<(s_.length:Int))<|
  bnd (rP (s_.getD g1.toNat 0) f_) fun v3=>
  bif v3 then
   ret g1
  else
   need (InI64 (g1+(1:Int)))<|
   self1 (g1+(1:Int))
 else
  ret (-1:Int)
noncomputable def sj (s_:(List Int)) (f_:Int):M Int:=
 bT (yT s_ f_) (0:Int)
noncomputable def jT (s_:(List Int)) (f_:Int):M Bool:=
 bnd (sj s_ f_) fun v1=>
 ret (decide ((0:Int)≤v1))
noncomputable def EF (s_:(List Int)) (v_:Int) (self1:Int→M Int):Int→M Int:=fun g1=>
 bif (decide (g1<(s_.length:Int))) then
  need (0≤g1∧g1<(s_.length:Int))<|
  bif (v_==(s_.getD g1.toNat 0)) then
   ret g1
  else
   need (InI64 (g1+(1:Int)))<|
   self1 (g1+(1:Int))
 else
  ret (-1:Int)
noncomputable def slices_Index_int (s_:(List Int)) (v_:Int):M Int:=
 bT (EF s_ v_) (0:Int)
noncomputable def slices_Contains_int (s_:(List Int)) (v_:Int):M Bool:=
 bnd (slices_Index_int s_ v_) fun v1=>
 ret (decide ((0:Int)≤v1))
noncomputable def F3 (l_:(List Int)) (lo_:Int) (hi_:Int) (self1:Int→M Bool):Int→M Bool:=fun g1=>
 bif (decide (g1<(l_.length:Int))) then
  need (0≤g1∧g1<(l_.length:Int))<|
  bnd (gB (l_.getD g1.toNat 0) lo_ hi_) fun v5=>
  need ((!v5)=false→0≤g1∧g1≤(l_.length:Int))<|
  bnd (grd ((!v5)=false) (slices_Contains_int (l_.take (g1.toNat)) (l_.getD g1.toNat 0))) fun v6=>
  bif ((!v5)||v6) then
   ret false
  else
   need (InI64 (g1+(1:Int)))<|
   self1 (g1+(1:Int))
 else
  ret true
noncomputable def jr (l_:(List Int)) (lo_:Int) (hi_:Int):M Bool:=
 bT (F3 l_ lo_ hi_) (0:Int)
noncomputable def EG (s1_:(List Int)) (s2_:(List Int)) (self1:Int→M Bool):Int→M Bool:=fun g1=>
 bif (decide (g1<(s1_.length:Int))) then
  need (0≤g1∧g1<(s1_.length:Int))<|
  need (0≤g1∧g1<(s2_.length:Int))<|
  bif ((s1_.getD g1.toNat 0) != (s2_.getD g1.toNat 0)) then
   ret false
  else
   need (InI64 (g1+(1:Int)))<|
   self1 (g1+(1:Int))
 else
  ret true
noncomputable def slices_Equal_int (s1_:(List Int)) (s2_:(List Int)):M Bool:=
 bif ((s1_.length:Int) != (s2_.length:Int)) then
  ret false
 else
  bT (EG s1_ s2_) (0:Int)
noncomputable def CP (c_:av) (at_:Int):M Bool:=
 bnd (jT c_.Parents at_) fun v1=>
 bnd (grd (v1=false) (gB c_.High (0:Int) (4000000000:Int))) fun v2=>
 bnd (grd ((v1||(!v2))=false) (gB c_.Low (0:Int) c_.High)) fun v3=>
 bif ((v1||(!v2))||(!v3)) then
  ret false
 else
  bif (c_.Kind==(1:Int)) then
   need ((((c_.Parents.length:Int)==(0:Int))&&((c_.Choices.length:Int)==(1:Int)))=true→0≤(0:Int)∧(0:Int)<(c_.Choices.length:Int))<|
   bnd (grd ((((c_.Parents.length:Int)==(0:Int))&&((c_.Choices.length:Int)==(1:Int)))=true) (gB (c_.Choices.getD 0 0) (1:Int) (4000000000:Int))) fun v4=>
   ret ((((c_.Parents.length:Int)==(0:Int))&&((c_.Choices.length:Int)==(1:Int)))&&v4)
  else
   bif (c_.Kind==(2:Int)) then
    bif (c_.Kind==(2:Int)) then
     bnd (grd ((((c_.Parents.length:Int)==(1:Int))&&(decide ((0:Int)<(c_.Choices.length:Int))))=true) (jr c_.Choices (1:Int) (64:Int))) fun v5=>
     ret ((((c_.Parents.length:Int)==(1:Int))&&(decide ((0:Int)<(c_.Choices.length:Int))))&&v5)
    else
     bif (c_.Kind==(4:Int)) then
      need ((decide ((0:Int)<(c_.Choices.length:Int)))=true→InI64 ((c_.Parents.length:Int) - (1:Int)))<|
      bnd (grd ((decide ((0:Int)<(c_.Choices.length:Int)))=true) (jr c_.Choices (0:Int) ((c_.Parents.length:Int) - (1:Int)))) fun v6=>
      ret ((decide ((0:Int)<(c_.Choices.length:Int)))&&v6)
     else
      bif (c_.Kind==(5:Int)) then
       bif (((c_.Parents.length:Int)==(1:Int))==true) then
        bnd (grd (((c_.Parents.length:Int)==(1:Int))=true) (slices_Equal_int c_.Choices ([(0:Int),(1:Int)]:List Int))) fun v7=>
        ret (((c_.Parents.length:Int)==(1:Int))&&v7)
       else
        ret (((c_.Parents.length:Int)==(1:Int))&&false)
      else
       ret false
   else
    bif (c_.Kind==(3:Int)) then
     bnd (grd ((((c_.Parents.length:Int)==(1:Int))&&(decide ((0:Int)<(c_.Choices.length:Int))))=true) (jr c_.Choices (1:Int) (64:Int))) fun v8=>
     ret ((((c_.Parents.length:Int)==(1:Int))&&(decide ((0:Int)<(c_.Choices.length:Int))))&&v8)
    else
     bif (c_.Kind==(4:Int)) then
      need ((decide ((0:Int)<(c_.Choices.length:Int)))=true→InI64 ((c_.Parents.length:Int) - (1:Int)))<|
      bnd (grd ((decide ((0:Int)<(c_.Choices.length:Int)))=true) (jr c_.Choices (0:Int) ((c_.Parents.length:Int) - (1:Int)))) fun v9=>
      ret ((decide ((0:Int)<(c_.Choices.length:Int)))&&v9)
     else
      bif (c_.Kind==(5:Int)) then
       bif (((c_.Parents.length:Int)==(1:Int))==true) then
        bnd (grd (((c_.Parents.length:Int)==(1:Int))=true) (slices_Equal_int c_.Choices ([(0:Int),(1:Int)]:List Int))) fun v10=>
        ret (((c_.Parents.length:Int)==(1:Int))&&v10)
       else
        ret (((c_.Parents.length:Int)==(1:Int))&&false)
      else
       ret false
noncomputable def nK (l_:(List av)) (g2:(Int×Int×(List Int))) (self2:(Int×Int×(List Int))→M Int):(List Int)→M Int:=fun g8=>
 need (InI64 (g2.1*((((l_.getD g2.2.1.toNat ay).Choices).length:Nat):Int)))<|
 need ((decide ((4096:Int)<(g2.1*((((l_.getD g2.2.1.toNat ay).Choices).length:Nat):Int))))=false→0≤g2.2.1∧g2.2.1<(g8.length:Int))<|
 bif ((decide ((4096:Int)<(g2.1*((((l_.getD g2.2.1.toNat ay).Choices).length:Nat):Int))))||(decide ((4:Int)<(g8.getD g2.2.1.toNat 0)))) then
  ret (3:Int)
 else
  need (InI64 (g2.2.1+(1:Int)))<|
  self2 ((g2.1*((((l_.getD g2.2.1.toNat ay).Choices).length:Nat):Int)),(g2.2.1+(1:Int)),g8)
noncomputable def Ka (l_:(List av)) (g2:(Int×Int×(List Int))) (self2:(Int×Int×(List Int))→M Int) (self7:(Int×(List Int))→M Int):(Int×(List Int))→M Int:=fun g7=>
 bif (decide (g7.1<((((l_.getD g2.2.1.toNat ay).Parents).length:Nat):Int))) then
  need (0≤g7.1∧g7.1<((((l_.getD g2.2.1.toNat ay).Parents).length:Nat):Int))<|
  need (0≤g2.2.1∧g2.2.1<(g7.2.length:Int))<|
  need (0≤(((l_.getD g2.2.1.toNat ay).Parents).getD g7.1.toNat 0)∧(((l_.getD g2.2.1.toNat ay).Parents).getD g7.1.toNat 0)<(g7.2.length:Int))<|
  need (0≤g2.2.1∧g2.2.1<(g7.2.length:Int))<|
  need (InI64 (g7.1+(1:Int)))<|
  self7 ((g7.1+(1:Int)),(g7.2.set (g2.2.1.toNat) (if (g7.2.getD ((((l_.getD g2.2.1.toNat ay).Parents).getD g7.1.toNat 0).toNat) 0) > (g7.2.getD g2.2.1.toNat 0) then (g7.2.getD ((((l_.getD g2.2.1.toNat ay).Parents).getD g7.1.toNat 0).toNat) 0) else (g7.2.getD g2.2.1.toNat 0))))
 else
  bif (((l_.getD g2.2.1.toNat ay).Kind==(2:Int))||((l_.getD g2.2.1.toNat ay).Kind==(3:Int))) then
   need (0≤g2.2.1∧g2.2.1<(g7.2.length:Int))<|
   need (InI64 ((g7.2.getD g2.2.1.toNat 0)+(1:Int)))<|
   need (0≤g2.2.1∧g2.2.1<(g7.2.length:Int))<|
   (nK l_ g2 self2) (g7.2.set (g2.2.1.toNat) ((g7.2.getD g2.2.1.toNat 0)+(1:Int)))
  else
   (nK l_ g2 self2) g7.2
noncomputable def Kc (l_:(List av)) (self2:(Int×Int×(List Int))→M Int):(Int×Int×(List Int))→M Int:=fun g2=>
 bif (decide (g2.2.1<(l_.length:Int))) then
  need (0≤g2.2.1∧g2.2.1<(l_.length:Int))<|
  bT (Ka l_ g2 self2) ((0:Int),g2.2.2)
 else
  ret (0:Int)
noncomputable def LY (l_:(List av)) (self1:Int→M Int):Int→M Int:=fun g1=>
 bif (decide (g1<(l_.length:Int))) then
  need (0≤g1∧g1<(l_.length:Int))<|
  bnd (CP (l_.getD g1.toNat ay) g1) fun v4=>
  bif (!v4) then
   ret (1:Int)
  else
   need (InI64 (g1+(1:Int)))<|
   self1 (g1+(1:Int))
 else
  need (0≤(l_.length:Int)∧(l_.length:Int)*((8:Nat):Int)≤((big:Nat):Int))<|
  bT (Kc l_) ((1:Int),(0:Int),(List.replicate ((l_.length:Int).toNat) 0))
noncomputable def sw (l_:(List av)):M Int:=
 bnd (grd ((decide ((16:Int)<(l_.length:Int)))=false) (iL l_)) fun v1=>
 bif ((decide ((16:Int)<(l_.length:Int)))||v1) then
  ret (3:Int)
 else
  bT (LY l_) (0:Int)
noncomputable def lH (s_:aj):M Bool:=
 ret (decide ((16:Int)<(s_.aQ.length:Int)))
noncomputable def tH (s_:(List aj)) (self1:Int→M Int):Int→M Int:=fun g1=>
 bif (decide (g1<(s_.length:Int))) then
  need (0≤g1∧g1<(s_.length:Int))<|
  bnd (lH (s_.getD g1.toNat ah)) fun v3=>
  bif v3 then
   ret g1
  else
   need (InI64 (g1+(1:Int)))<|
   self1 (g1+(1:Int))
 else
  ret (-1:Int)
noncomputable def mP (s_:(List aj)):M Int:=
 bT (tH s_) (0:Int)
noncomputable def iM (s_:(List aj)):M Bool:=
 bnd (mP s_) fun v1=>
 ret (decide ((0:Int)≤v1))
noncomputable def eG (n_:Int) (lo_:Int) (hi_:Int):M Bool:=
 ret ((decide (lo_≤n_))&&(decide (n_≤hi_)))
noncomputable def AZ (s_:aj) (self1:Int→M Bool):Int→M Bool:=fun g1=>
 bif (decide (g1<(s_.aQ.length:Int))) then
  need (0≤g1∧g1<(s_.aQ.length:Int))<|
  bnd (eG (s_.aQ.getD g1.toNat 0) (1:Int) (5000:Int)) fun v6=>
  need ((!v6)=false→(decide ((0:Int)<g1))=true→InI64 (g1 - (1:Int)))<|
  need ((!v6)=false→(decide ((0:Int)<g1))=true→0≤(g1 - (1:Int))∧(g1 - (1:Int))<(s_.aQ.length:Int))<|
  bif ((!v6)||((decide ((0:Int)<g1))&&(decide ((s_.aQ.getD g1.toNat 0)≤(s_.aQ.getD ((g1 - (1:Int)).toNat) 0))))) then
   ret false
  else
   need (InI64 (g1+(1:Int)))<|
   self1 (g1+(1:Int))
 else
  ret true
noncomputable def uO (s_:aj) (at_:Int):M Bool:=
 need (InI64 (at_ - (1:Int)))<|
 bnd (eG s_.Parent (-1:Int) (at_ - (1:Int))) fun v1=>
 bnd (grd (((!v1)||((s_.aQ.length:Int)==(0:Int)))=false) (eG s_.dM (0:Int) (5000:Int))) fun v2=>
 bnd (grd (((((!v1)||((s_.aQ.length:Int)==(0:Int)))||(!v2))||((decide (s_.Parent<(0:Int)))&&(s_.dM != (0:Int))))=false) (eG s_.dU (0:Int) (10000:Int))) fun v3=>
 bif (((((!v1)||((s_.aQ.length:Int)==(0:Int)))||(!v2))||((decide (s_.Parent<(0:Int)))&&(s_.dM != (0:Int))))||(!v3)) then
  ret false
 else
  bT (AZ s_) (0:Int)
noncomputable def A8 (l_:(List aj)) (self1:Int→M Int):Int→M Int:=fun g1=>
 bif (decide (g1<(l_.length:Int))) then
  need (0≤g1∧g1<(l_.length:Int))<|
  bnd (uO (l_.getD g1.toNat ah) g1) fun v4=>
  bif (!v4) then
   ret (1:Int)
  else
   need (InI64 (g1+(1:Int)))<|
   self1 (g1+(1:Int))
 else
  ret (0:Int)
noncomputable def l9 (l_:(List aj)):M Int:=
 bnd (grd ((decide ((16:Int)<(l_.length:Int)))=false) (iM l_)) fun v1=>
 bif ((decide ((16:Int)<(l_.length:Int)))||v1) then
  ret (3:Int)
 else
  bT (A8 l_) (0:Int)
noncomputable def GN (s_:ByteArray) (self1:Int→M Bool):Int→M Bool:=fun g1=>
 bif (decide (g1<((s_.size:Nat):Int))) then
  need (0≤g1∧g1<((s_.size:Nat):Int))<|
  bif ((((dJ s_ g1.toNat) != (45:Int))&&((decide ((dJ s_ g1.toNat)<(48:Int)))||(decide ((57:Int)<(dJ s_ g1.toNat)))))&&((decide ((dJ s_ g1.toNat)<(97:Int)))||(decide ((122:Int)<(dJ s_ g1.toNat))))) then
   ret false
  else
   need (InI64 (g1+(1:Int)))<|
   self1 (g1+(1:Int))
 else
  ret true
noncomputable def vH (s_:ByteArray):M Bool:=
 need (((s_.toList==({ data:=#[] }:ByteArray).toList)||(decide ((16:Int)<((s_.size:Nat):Int))))=false→0≤(0:Int)∧(0:Int)<((s_.size:Nat):Int))<|
 need ((((s_.toList==({ data:=#[] }:ByteArray).toList)||(decide ((16:Int)<((s_.size:Nat):Int))))||(decide ((dJ s_ 0)<(97:Int))))=false→0≤(0:Int)∧(0:Int)<((s_.size:Nat):Int))<|
 bif ((((s_.toList==({ data:=#[] }:ByteArray).toList)||(decide ((16:Int)<((s_.size:Nat):Int))))||(decide ((dJ s_ 0)<(97:Int))))||(decide ((122:Int)<(dJ s_ 0)))) then
  ret false
 else
  bT (GN s_) (1:Int)
noncomputable def oZ (s_:(List ByteArray)) (v_:ByteArray) (self1:Int→M Int):Int→M Int:=fun g1=>
 bif (decide (g1<(s_.length:Int))) then
  need (0≤g1∧g1<(s_.length:Int))<|
  bif (v_.toList==(s_.getD g1.toNat ByteArray.empty).toList) then
   ret g1
  else
   need (InI64 (g1+(1:Int)))<|
   self1 (g1+(1:Int))
 else
  ret (-1:Int)
noncomputable def slices_Index_string (s_:(List ByteArray)) (v_:ByteArray):M Int:=
 bT (oZ s_ v_) (0:Int)
noncomputable def slices_Contains_string (s_:(List ByteArray)) (v_:ByteArray):M Bool:=
 bnd (slices_Index_string s_ v_) fun v1=>
 ret (decide ((0:Int)≤v1))
noncomputable def CQ (g_:aV) (self4:Int→M Int):Int→M Int:=fun g4=>
 bif (decide (g4<(g_.Functions.length:Int))) then
  need (0≤g4∧g4<(g_.Functions.length:Int))<|
  need (0≤g4∧g4≤(g_.Functions.length:Int))<|
  bnd (slices_Contains_string (g_.Functions.take (g4.toNat)) (g_.Functions.getD g4.toNat ByteArray.empty)) fun v6=>
  bif v6 then
   ret (5:Int)
  else
   need (InI64 (g4+(1:Int)))<|
   self4 (g4+(1:Int))
 else
  ret (0:Int)
noncomputable def CS (g_:aV) (self3:Int→M Int):Int→M Int:=fun g3=>
 bif (decide (g3<(g_.Functions.length:Int))) then
  need (0≤g3∧g3<(g_.Functions.length:Int))<|
  bnd (vH (g_.Functions.getD g3.toNat ByteArray.empty)) fun v3=>
  bif (!v3) then
   ret (1:Int)
  else
   need (InI64 (g3+(1:Int)))<|
   self3 (g3+(1:Int))
 else
  bT (CQ g_) (0:Int)
noncomputable def CU (g_:aV) (self2:Int→M Int):Int→M Int:=fun g2=>
 bif (decide (g2<(g_.bI.length:Int))) then
  need (0≤g2∧g2<(g_.bI.length:Int))<|
  need (InI64 (g2 - (1:Int)))<|
  need (0≤(g2 - (1:Int))∧(g2 - (1:Int))<(g_.bI.length:Int))<|
  bif (decide ((g_.bI.getD g2.toNat 0)≤(g_.bI.getD ((g2 - (1:Int)).toNat) 0))) then
   ret (12:Int)
  else
   need (InI64 (g2+(1:Int)))<|
   self2 (g2+(1:Int))
 else
  bT (CS g_) (0:Int)
noncomputable def E9 (pins_:Int) (g_:aV) (self1:Int→M Int):Int→M Int:=fun g1=>
 bif (decide (g1<(g_.bI.length:Int))) then
  need (0≤g1∧g1<(g_.bI.length:Int))<|
  bif ((decide ((g_.bI.getD g1.toNat 0)<(0:Int)))||(decide (pins_≤(g_.bI.getD g1.toNat 0)))) then
   ret (2:Int)
  else
   need (InI64 (g1+(1:Int)))<|
   self1 (g1+(1:Int))
 else
  bT (CU g_) (1:Int)
noncomputable def zY (pins_:Int) (g_:aV):M Int:=
 bif (((g_.bI.length:Int)==(0:Int))||((g_.Functions.length:Int)==(0:Int))) then
  ret (9:Int)
 else
  bif (decide ((8:Int)<(g_.Functions.length:Int))) then
   ret (3:Int)
  else
   bT (E9 pins_ g_) (0:Int)
noncomputable def Fa (p_:aR) (self1:(Int×(kN→Option Int))→M Int):(Int×(kN→Option Int))→M Int:=fun g1=>
 bif (decide (g1.1<(p_.Groups.length:Int))) then
  need (0≤g1.1∧g1.1<(p_.Groups.length:Int))<|
  bnd (vH ((p_.Groups.getD g1.1.toNat au).Name)) fun v5=>
  bif (!v5) then
   ret (1:Int)
  else
   bif ((uL g1.2 (.s ((p_.Groups.getD g1.1.toNat au).Name))) != 0) then
    ret (5:Int)
   else
    bnd (zY p_.bI (p_.Groups.getD g1.1.toNat au)) fun v6=>
    bif (v6 != (0:Int)) then
     ret v6
    else
     need (InI64 (g1.1+(1:Int)))<|
     self1 ((g1.1+(1:Int)),(Iq g1.2 (.s ((p_.Groups.getD g1.1.toNat au).Name)) (bif true then 1 else 0)))
 else
  ret (0:Int)
noncomputable def vS (p_:aR):M Int:=
 bif ((decide (p_.bI<(0:Int)))||(decide ((64:Int)<p_.bI))) then
  ret (2:Int)
 else
  bif (decide ((24:Int)<(p_.Groups.length:Int))) then
   ret (3:Int)
  else
   bT (Fa p_) ((0:Int),(fun _=>none))
noncomputable def A9 (l_:(List bV)) (g1:Int) (self1:Int→M Int) (self7:Int→M Int):Int→M Int:=fun g7=>
 bif (decide (g7<((((l_.getD g1.toNat dReset).After).length:Nat):Int))) then
  need (0≤g7∧g7<((((l_.getD g1.toNat dReset).After).length:Nat):Int))<|
  need (InI64 (g7 - (1:Int)))<|
  need (0≤(g7 - (1:Int))∧(g7 - (1:Int))<((((l_.getD g1.toNat dReset).After).length:Nat):Int))<|
  bif (decide ((((l_.getD g1.toNat dReset).After).getD g7.toNat 0)≤(((l_.getD g1.toNat dReset).After).getD ((g7 - (1:Int)).toNat) 0))) then
   ret (12:Int)
  else
   need (InI64 (g7+(1:Int)))<|
   self7 (g7+(1:Int))
 else
  need (InI64 (g1+(1:Int)))<|
  self1 (g1+(1:Int))
noncomputable def CV (l_:(List bV)) (g1:Int) (self1:Int→M Int) (self6:Int→M Int):Int→M Int:=fun g6=>
 bif (decide (g6<((((l_.getD g1.toNat dReset).After).length:Nat):Int))) then
  need (0≤g6∧g6<((((l_.getD g1.toNat dReset).After).length:Nat):Int))<|
  bif ((decide ((((l_.getD g1.toNat dReset).After).getD g6.toNat 0)<(0:Int)))||(decide (g1≤(((l_.getD g1.toNat dReset).After).getD g6.toNat 0)))) then
   ret (2:Int)
  else
   need (InI64 (g6+(1:Int)))<|
   self6 (g6+(1:Int))
 else
  bT (A9 l_ g1 self1) (1:Int)
noncomputable def CW (l_:(List bV)) (self1:Int→M Int):Int→M Int:=fun g1=>
 bif (decide (g1<(l_.length:Int))) then
  need (0≤g1∧g1<(l_.length:Int))<|
  bT (CV l_ g1 self1) (0:Int)
 else
  ret (0:Int)
noncomputable def sD (l_:(List bV)):M Int:=
 bif (decide ((32:Int)<(l_.length:Int))) then
  ret (3:Int)
 else
  bT (CW l_) (0:Int)
noncomputable def Ba (l_:(List bH)) (self1:Int→M Int):Int→M Int:=fun g1=>
 bif (decide (g1<(l_.length:Int))) then
  need (0≤g1∧g1<(l_.length:Int))<|
  bif ((decide ((l_.getD g1.toNat dD).Parent<(-1:Int)))||(decide (g1≤(l_.getD g1.toNat dD).Parent))) then
   ret (2:Int)
  else
   need (InI64 (g1+(1:Int)))<|
   self1 (g1+(1:Int))
 else
  ret (0:Int)
noncomputable def o7 (l_:(List bH)):M Int:=
 bif (decide ((16:Int)<(l_.length:Int))) then
  ret (3:Int)
 else
  bT (Ba l_) (0:Int)
noncomputable def sF (b_:bF):M Int:=
 bnd (sw b_.bO) fun v1=>
 bif (v1 != (0:Int)) then
  ret v1
 else
  bnd (l9 b_.bC) fun v2=>
  bif (v2 != (0:Int)) then
   ret v2
  else
   bnd (vS b_.bD) fun v3=>
   bif (v3 != (0:Int)) then
    ret v3
   else
    bnd (sD b_.Resets) fun v4=>
    bif (v4 != (0:Int)) then
     ret v4
    else
     bnd (o7 b_.bS) fun v5=>
     ret v5
noncomputable def jU (x_:Int) (low_:Int) (high_:Int):M Bool:=
 ret ((decide (low_≤x_))&&(decide (x_≤high_)))
noncomputable def CX (n_:aO) (self6:Int→M Int):Int→M Int:=fun g6=>
 bif (decide (g6<(n_.cO.length:Int))) then
  need (0≤g6∧g6<(n_.cO.length:Int))<|
  need (InI64 (g6 - (1:Int)))<|
  need (0≤(g6 - (1:Int))∧(g6 - (1:Int))<(n_.cO.length:Int))<|
  bif (decide ((n_.cO.getD g6.toNat 0)≤(n_.cO.getD ((g6 - (1:Int)).toNat) 0))) then
   ret (12:Int)
  else
   need (InI64 (g6+(1:Int)))<|
   self6 (g6+(1:Int))
 else
  ret (0:Int)
noncomputable def CY (n_:aO) (devices_:Int) (self5:Int→M Int):Int→M Int:=fun g5=>
 bif (decide (g5<(n_.cO.length:Int))) then
  need (0≤g5∧g5<(n_.cO.length:Int))<|
  need (InI64 (devices_ - (1:Int)))<|
  bnd (jU (n_.cO.getD g5.toNat 0) (0:Int) (devices_ - (1:Int))) fun v19=>
  bif (!v19) then
   ret (2:Int)
  else
   need (InI64 (g5+(1:Int)))<|
   self5 (g5+(1:Int))
 else
  bT (CX n_) (1:Int)
noncomputable def CZ (b_:bF) (n_:aO) (devices_:Int) (self4:Int→M Int):Int→M Int:=fun g4=>
 bif (decide (g4<(n_.Resets.length:Int))) then
  need (0≤g4∧g4<(n_.Resets.length:Int))<|
  need (InI64 ((b_.Resets.length:Int) - (1:Int)))<|
  bnd (jU (n_.Resets.getD g4.toNat 0) (0:Int) ((b_.Resets.length:Int) - (1:Int))) fun v15=>
  bif (!v15) then
   ret (2:Int)
  else
   need (InI64 (g4+(1:Int)))<|
   self4 (g4+(1:Int))
 else
  need (InI64 ((b_.bS.length:Int) - (1:Int)))<|
  bnd (jU n_.fK (-1:Int) ((b_.bS.length:Int) - (1:Int))) fun v16=>
  bif (!v16) then
   ret (2:Int)
  else
   bT (CY n_ devices_) (0:Int)
noncomputable def C8 (b_:bF) (n_:aO) (devices_:Int) (self3:Int→M Int):Int→M Int:=fun g3=>
 bif (decide (g3<(n_.Functions.length:Int))) then
  need (0≤g3∧g3<(n_.Functions.length:Int))<|
  bnd (vH (n_.Functions.getD g3.toNat ByteArray.empty)) fun v12=>
  bif (!v12) then
   ret (1:Int)
  else
   need (InI64 (g3+(1:Int)))<|
   self3 (g3+(1:Int))
 else
  bT (CZ b_ n_ devices_) (0:Int)
noncomputable def C9 (b_:bF) (n_:aO) (devices_:Int) (self2:Int→M Int):Int→M Int:=fun g2=>
 bif (decide (g2<(n_.Draws.length:Int))) then
  need (0≤g2∧g2<(n_.Draws.length:Int))<|
  need (InI64 ((b_.bC.length:Int) - (1:Int)))<|
  bnd (jU ((n_.Draws.getD g2.toNat bK).aM) (0:Int) ((b_.bC.length:Int) - (1:Int))) fun v8=>
  bnd (grd (((((!v8)||(decide ((n_.Draws.getD g2.toNat bK).Low<(0:Int))))||(decide ((n_.Draws.getD g2.toNat bK).High<(n_.Draws.getD g2.toNat bK).Low)))||(decide ((5000:Int)<(n_.Draws.getD g2.toNat bK).High)))=false) (jU ((n_.Draws.getD g2.toNat bK).Load) (0:Int) (10000:Int))) fun v9=>
  bif (((((!v8)||(decide ((n_.Draws.getD g2.toNat bK).Low<(0:Int))))||(decide ((n_.Draws.getD g2.toNat bK).High<(n_.Draws.getD g2.toNat bK).Low)))||(decide ((5000:Int)<(n_.Draws.getD g2.toNat bK).High)))||(!v9)) then
   ret (2:Int)
  else
   need (InI64 (g2+(1:Int)))<|
   self2 (g2+(1:Int))
 else
  bT (C8 b_ n_ devices_) (0:Int)
noncomputable def Fb (b_:bF) (n_:aO) (devices_:Int) (self1:Int→M Int):Int→M Int:=fun g1=>
 bif (decide (g1<(n_.Limits.length:Int))) then
  need (0≤g1∧g1<(n_.Limits.length:Int))<|
  need (InI64 ((b_.bO.length:Int) - (1:Int)))<|
  bnd (jU ((n_.Limits.getD g1.toNat cB).Clock) (0:Int) ((b_.bO.length:Int) - (1:Int))) fun v3=>
  bif ((((!v3)||(decide ((n_.Limits.getD g1.toNat cB).Low<(0:Int))))||(decide ((n_.Limits.getD g1.toNat cB).High<(n_.Limits.getD g1.toNat cB).Low)))||(decide ((4000000000:Int)<(n_.Limits.getD g1.toNat cB).High))) then
   ret (2:Int)
  else
   need (InI64 (g1+(1:Int)))<|
   self1 (g1+(1:Int))
 else
  bT (C9 b_ n_ devices_) (0:Int)
noncomputable def zZ (b_:bF) (n_:aO) (devices_:Int):M Int:=
 bif (((decide ((32:Int)<(n_.Limits.length:Int)))||(decide ((32:Int)<(n_.Draws.length:Int))))||(decide ((10:Int)<(n_.Functions.length:Int)))) then
  ret (3:Int)
 else
  bT (Fb b_ n_ devices_) (0:Int)
noncomputable def Fe (b_:bF) (l_:(List aO)) (self1:Int→M Int):Int→M Int:=fun g1=>
 bif (decide (g1<(l_.length:Int))) then
  need (0≤g1∧g1<(l_.length:Int))<|
  bnd (zZ b_ (l_.getD g1.toNat aY) (l_.length:Int)) fun v4=>
  bif (v4 != (0:Int)) then
   ret v4
  else
   need (InI64 (g1+(1:Int)))<|
   self1 (g1+(1:Int))
 else
  ret (0:Int)
noncomputable def qO (b_:bF) (l_:(List aO)):M Int:=
 bnd (sF b_) fun v1=>
 bif (v1 != (0:Int)) then
  ret v1
 else
  bif (decide ((12:Int)<(l_.length:Int))) then
   ret (3:Int)
  else
   bT (Fe b_ l_) (0:Int)
noncomputable def vT (l_:(List aO)) (members_:(List Int)) (self1:Int→M Bool):Int→M Bool:=fun g1=>
 bif (decide (g1<(members_.length:Int))) then
  need (0≤g1∧g1<(members_.length:Int))<|
  need (InI64 ((l_.length:Int) - (1:Int)))<|
  bnd (jU (members_.getD g1.toNat 0) (0:Int) ((l_.length:Int) - (1:Int))) fun v5=>
  need ((!v5)=false→0≤g1∧g1≤(members_.length:Int))<|
  bnd (grd ((!v5)=false) (slices_Contains_int (members_.take (g1.toNat)) (members_.getD g1.toNat 0))) fun v6=>
  bif ((!v5)||v6) then
   ret false
  else
   need (InI64 (g1+(1:Int)))<|
   self1 (g1+(1:Int))
 else
  ret true
noncomputable def kI (l_:(List aO)) (members_:(List Int)):M Bool:=
 bT (vT l_ members_) (0:Int)
noncomputable def slices_Clone_int (s_:(List Int)):M (List Int):=
 need (s_.length*8≤big)<|
 ret s_
noncomputable def iJ (s_:(List Bool)):M (List Bool):=
 need (s_.length*1≤big)<|
 ret s_
noncomputable def yU (r_:bE):M ((List Bool)×(List Int)):=
 bnd (iJ r_.On) fun v1=>
 bnd (slices_Clone_int r_.Level) fun v2=>
 ret (v1,v2)
noncomputable def qo (s_:(List aZ)):M (List aZ):=
 need (s_.length*24≤big)<|
 ret s_
noncomputable def Om (g_:bX):M ((List Int)×(List Bool)×(List Int)×(List aZ)×(List Bool)×(List Bool)):=
 bnd (slices_Clone_int g_.Setting) fun v1=>
 bnd (yU g_.fC) fun v2=>
 bnd (qo g_.Uses) fun v3=>
 bnd (iJ g_.Released) fun v4=>
 bnd (iJ g_.eU) fun v5=>
 ret (v1,v2.1,v2.2,v3,v4,v5)
noncomputable def qw (s_:dP) (self2:Int→M Bool):Int→M Bool:=fun g2=>
 bif (decide (g2<(s_.aJ.Uses.length:Int))) then
  need (0≤g2∧g2<(s_.aJ.Uses.length:Int))<|
  need (InI64 ((s_.bG.length:Int) - (1:Int)))<|
  bnd (jU ((s_.aJ.Uses.getD g2.toNat bY).Device) (-1:Int) ((s_.bG.length:Int) - (1:Int))) fun v7=>
  bif (!v7) then
   ret false
  else
   need (InI64 (g2+(1:Int)))<|
   self2 (g2+(1:Int))
 else
  ret true
noncomputable def sG (s_:dP) (self1:Int→M Bool):Int→M Bool:=fun g1=>
 bif (decide (g1<(s_.aN.bO.length:Int))) then
  need (0≤g1∧g1<(s_.aN.bO.length:Int))<|
  need (0≤g1∧g1<(s_.aJ.Setting.length:Int))<|
  need (InI64 (((((s_.aN.bO.getD g1.toNat ay).Choices).length:Nat):Int) - (1:Int)))<|
  bnd (jU (s_.aJ.Setting.getD g1.toNat 0) (0:Int) (((((s_.aN.bO.getD g1.toNat ay).Choices).length:Nat):Int) - (1:Int))) fun v4=>
  bif (!v4) then
   ret false
  else
   need (InI64 (g1+(1:Int)))<|
   self1 (g1+(1:Int))
 else
  bT (qw s_) (0:Int)
noncomputable def kV (s_:dP):M Bool:=
 bnd (kI s_.bG s_.aG) fun v1=>
 bif ((((((!v1)||((s_.aJ.Setting.length:Int) != (s_.aN.bO.length:Int)))||((s_.aJ.fC.On.length:Int) != (s_.aN.bC.length:Int)))||((s_.aJ.fC.Level.length:Int) != (s_.aN.bC.length:Int)))||((s_.aJ.Released.length:Int) != (s_.aN.Resets.length:Int)))||((s_.aJ.eU.length:Int) != (s_.aN.bS.length:Int))) then
  ret false
 else
  bT (sG s_) (0:Int)
noncomputable def lI (x_:bn) (a1_:(List av)):M Bool:=
 need (InI64 ((a1_.length:Int) - (1:Int)))<|
 bnd (gB x_.Clock (0:Int) ((a1_.length:Int) - (1:Int))) fun v1=>
 bnd (grd ((!v1)=false) (gB x_.High (0:Int) (4000000000:Int))) fun v2=>
 bnd (grd (((!v1)||(!v2))=false) (gB x_.Low (0:Int) x_.High)) fun v3=>
 ret (((!v1)||(!v2))||(!v3))
noncomputable def tJ (s_:(List bn)) (f_:(List av)) (self1:Int→M Int):Int→M Int:=fun g1=>
 bif (decide (g1<(s_.length:Int))) then
  need (0≤g1∧g1<(s_.length:Int))<|
  bnd (lI (s_.getD g1.toNat cB) f_) fun v3=>
  bif v3 then
   ret g1
  else
   need (InI64 (g1+(1:Int)))<|
   self1 (g1+(1:Int))
 else
  ret (-1:Int)
noncomputable def mQ (s_:(List bn)) (f_:(List av)):M Int:=
 bT (tJ s_ f_) (0:Int)
noncomputable def iN (s_:(List bn)) (f_:(List av)):M Bool:=
 bnd (mQ s_ f_) fun v1=>
 ret (decide ((0:Int)≤v1))
noncomputable def uP (l_:(List av)) (m_:(List bn)):M Bool:=
 bnd (sw l_) fun v1=>
 bnd (grd (((v1==(0:Int))&&(decide ((m_.length:Int)≤(32:Int))))=true) (iN m_ l_)) fun v2=>
 ret (((v1==(0:Int))&&(decide ((m_.length:Int)≤(32:Int))))&&(!v2))
noncomputable def yV (l_:(List av)) (s_:(List Int)) (self1:Int→M Bool):Int→M Bool:=fun g1=>
 bif (decide (g1<(s_.length:Int))) then
  need (0≤g1∧g1<(s_.length:Int))<|
  need (0≤g1∧g1<(l_.length:Int))<|
  need (InI64 (((((l_.getD g1.toNat ay).Choices).length:Nat):Int) - (1:Int)))<|
  bnd (gB (s_.getD g1.toNat 0) (0:Int) (((((l_.getD g1.toNat ay).Choices).length:Nat):Int) - (1:Int))) fun v3=>
  bif (!v3) then
   ret false
  else
   need (InI64 (g1+(1:Int)))<|
   self1 (g1+(1:Int))
 else
  ret true
noncomputable def nk (l_:(List av)) (s_:(List Int)):M Bool:=
 bif ((s_.length:Int) != (l_.length:Int)) then
  ret false
 else
  bT (yV l_ s_) (0:Int)
noncomputable def uQ (l_:(List av)) (s_:(List Int)) (clock_:Int):M Int:=
 need (0≤clock_∧clock_<(l_.length:Int))<|
 bif ((l_.getD clock_.toNat ay).Kind==(1:Int)) then
  ret (-1:Int)
 else
  bif ((l_.getD clock_.toNat ay).Kind==(4:Int)) then
   need (0≤clock_∧clock_<(s_.length:Int))<|
   need (0≤(s_.getD clock_.toNat 0)∧(s_.getD clock_.toNat 0)<((((l_.getD clock_.toNat ay).Choices).length:Nat):Int))<|
   need (0≤(((l_.getD clock_.toNat ay).Choices).getD ((s_.getD clock_.toNat 0).toNat) 0)∧(((l_.getD clock_.toNat ay).Choices).getD ((s_.getD clock_.toNat 0).toNat) 0)<((((l_.getD clock_.toNat ay).Parents).length:Nat):Int))<|
   ret (((l_.getD clock_.toNat ay).Parents).getD ((((l_.getD clock_.toNat ay).Choices).getD ((s_.getD clock_.toNat 0).toNat) 0).toNat) 0)
  else
   need (0≤(0:Int)∧(0:Int)<((((l_.getD clock_.toNat ay).Parents).length:Nat):Int))<|
   ret (((l_.getD clock_.toNat ay).Parents).getD 0 0)
noncomputable def Da (self1:(Int×Int)→M Int):(Int×Int)→M Int:=fun g1=>
 bif (g1.2 != (0:Int)) then
  need (g1.2≠0)<|
  self1 (g1.2,(g1.1.tmod g1.2))
 else
  ret g1.1
noncomputable def lJ (a_:Int) (b_:Int):M Int:=
 bT Da (a_,b_)
noncomputable def nV (r_:aP):M Bool:=
 bnd (grd (((((decide ((0:Int)≤r_.Num))&&(decide (r_.Num≤(144115188075855872:Int))))&&(decide ((1:Int)≤r_.Den)))&&(decide (r_.Den≤(16777216:Int))))=true) (lJ r_.Num r_.Den)) fun v1=>
 ret (((((decide ((0:Int)≤r_.Num))&&(decide (r_.Num≤(144115188075855872:Int))))&&(decide ((1:Int)≤r_.Den)))&&(decide (r_.Den≤(16777216:Int))))&&(v1==(1:Int)))
noncomputable def wX (a00_:Int) (a01_:Int) (a1_:Int):M (Int×Int):=
 bnd (lJ a00_ a1_) fun v1=>
 need (v1≠0∧InI64 (a00_.tdiv v1))<|
 need (v1≠0∧InI64 (a1_.tdiv v1))<|
 need (InI64 (a01_*(a1_.tdiv v1)))<|
 ret ((a00_.tdiv v1),(a01_*(a1_.tdiv v1)))
noncomputable def Db (num_:Int) (den_:Int):M (aP×Int):=
 bif ((decide (num_<(0:Int)))||(decide (den_<(1:Int)))) then
  ret ((⟨(0:Int),(0:Int)⟩:aP),(2:Int))
 else
  bnd (lJ num_ den_) fun v1=>
  need (v1≠0∧InI64 (num_.tdiv v1))<|
  need (v1≠0∧InI64 (den_.tdiv v1))<|
  bnd (nV (⟨(num_.tdiv v1),(den_.tdiv v1)⟩:aP)) fun v2=>
  bif (!v2) then
   ret ((⟨(0:Int),(0:Int)⟩:aP),(2:Int))
  else
   ret ((⟨(num_.tdiv v1),(den_.tdiv v1)⟩:aP),(0:Int))
noncomputable def wY (r_:aP) (k_:Int) (scale0_:Int) (scale1_:Int) (scale2_:Int):M (aP×Int):=
 bnd (nV r_) fun v1=>
 bif (!v1) then
  ret ((⟨(0:Int),(0:Int)⟩:aP),(1:Int))
 else
  bif ((decide (k_<(1:Int)))||(decide ((64:Int)<k_))) then
   ret ((⟨(0:Int),(0:Int)⟩:aP),(2:Int))
  else
   bnd (wX scale0_ scale1_ scale2_) fun v2=>
   bnd (Db v2.1 v2.2) fun v3=>
   ret (v3.1,v3.2)
noncomputable def Ep (r_:aP) (k_:Int):M (aP×Int):=
 bnd (wY r_ k_ r_.Num r_.Den k_) fun v1=>
 ret (v1.1,v1.2)
noncomputable def uR (a0_:Int) (a10_:Int) (a11_:Int):M (Int×Int):=
 bnd (lJ a0_ a11_) fun v1=>
 need (v1≠0∧InI64 (a0_.tdiv v1))<|
 need ((a0_.tdiv v1)≠0∧InI64 ((144115188075855872:Int).tdiv (a0_.tdiv v1)))<|
 bif (decide (((144115188075855872:Int).tdiv (a0_.tdiv v1))<a10_)) then
  ret ((-1:Int),(1:Int))
 else
  need (v1≠0∧InI64 (a0_.tdiv v1))<|
  need (InI64 (a10_*(a0_.tdiv v1)))<|
  need (v1≠0∧InI64 (a11_.tdiv v1))<|
  ret ((a10_*(a0_.tdiv v1)),(a11_.tdiv v1))
noncomputable def o8 (r_:aP) (k_:Int) (scale0_:Int) (scale1_:Int) (scale2_:Int):M (aP×Int):=
 bnd (nV r_) fun v1=>
 bif (!v1) then
  ret ((⟨(0:Int),(0:Int)⟩:aP),(1:Int))
 else
  bif ((decide (k_<(1:Int)))||(decide ((64:Int)<k_))) then
   ret ((⟨(0:Int),(0:Int)⟩:aP),(2:Int))
  else
   bnd (uR scale0_ scale1_ scale2_) fun v2=>
   bnd (Db v2.1 v2.2) fun v3=>
   ret (v3.1,v3.2)
noncomputable def z8 (r_:aP) (k_:Int):M (aP×Int):=
 bnd (o8 r_ k_ k_ r_.Num r_.Den) fun v1=>
 ret (v1.1,v1.2)
noncomputable def Dc (l_:(List av)) (s_:(List Int)) (self1:(Int×(List aP))→M (List aP)):(Int×(List aP))→M (List aP):=fun g1=>
 bif (decide (g1.1<(l_.length:Int))) then
  need (0≤g1.1∧g1.1<(l_.length:Int))<|
  need (0≤g1.1∧g1.1<(s_.length:Int))<|
  need (0≤(s_.getD g1.1.toNat 0)∧(s_.getD g1.1.toNat 0)<((((l_.getD g1.1.toNat ay).Choices).length:Nat):Int))<|
  bnd (uQ l_ s_ g1.1) fun v7=>
  bif (decide (v7<(0:Int))) then
   need (0≤g1.1∧g1.1<(g1.2.length:Int))<|
   need (InI64 (g1.1+(1:Int)))<|
   self1 ((g1.1+(1:Int)),(g1.2.set (g1.1.toNat) (⟨(((l_.getD g1.1.toNat ay).Choices).getD ((s_.getD g1.1.toNat 0).toNat) 0),(1:Int)⟩:aP)))
  else
   need (0≤v7∧v7<(g1.2.length:Int))<|
   bif ((((g1.2.getD v7.toNat bZ).Num==(0:Int))&&(((g1.2.getD v7.toNat bZ).Den==(1:Int))&&true))||(((l_.getD g1.1.toNat ay).Kind==(5:Int))&&((((l_.getD g1.1.toNat ay).Choices).getD ((s_.getD g1.1.toNat 0).toNat) 0)==(0:Int)))) then
    need (0≤g1.1∧g1.1<(g1.2.length:Int))<|
    need (InI64 (g1.1+(1:Int)))<|
    self1 ((g1.1+(1:Int)),(g1.2.set (g1.1.toNat) (⟨(0:Int),(1:Int)⟩:aP)))
   else
    bif ((l_.getD g1.1.toNat ay).Kind==(2:Int)) then
     need (0≤v7∧v7<(g1.2.length:Int))<|
     bnd (Ep (g1.2.getD v7.toNat bZ) (((l_.getD g1.1.toNat ay).Choices).getD ((s_.getD g1.1.toNat 0).toNat) 0)) fun v8=>
     need (0≤g1.1∧g1.1<(g1.2.length:Int))<|
     need (InI64 (g1.1+(1:Int)))<|
     self1 ((g1.1+(1:Int)),(g1.2.set (g1.1.toNat) v8.1))
    else
     bif ((l_.getD g1.1.toNat ay).Kind==(3:Int)) then
      need (0≤v7∧v7<(g1.2.length:Int))<|
      bnd (z8 (g1.2.getD v7.toNat bZ) (((l_.getD g1.1.toNat ay).Choices).getD ((s_.getD g1.1.toNat 0).toNat) 0)) fun v9=>
      need (0≤g1.1∧g1.1<(g1.2.length:Int))<|
      need (InI64 (g1.1+(1:Int)))<|
      self1 ((g1.1+(1:Int)),(g1.2.set (g1.1.toNat) v9.1))
     else
      need (0≤v7∧v7<(g1.2.length:Int))<|
      need (0≤g1.1∧g1.1<(g1.2.length:Int))<|
      need (InI64 (g1.1+(1:Int)))<|
      self1 ((g1.1+(1:Int)),(g1.2.set (g1.1.toNat) (g1.2.getD v7.toNat bZ)))
 else
  ret g1.2
noncomputable def sH (l_:(List av)) (s_:(List Int)):M (List aP):=
 need (0≤(l_.length:Int)∧(l_.length:Int)*((16:Nat):Int)≤((big:Nat):Int))<|
 bT (Dc l_ s_) ((0:Int),(List.replicate ((l_.length:Int).toNat) bZ))
noncomputable def sI (r_:aP) (low_:Int) (high_:Int):M Bool:=
 bnd (nV r_) fun v1=>
 bif (!v1) then
  ret false
 else
  need (r_.Den≠0∧InI64 (r_.Num.tdiv r_.Den))<|
  need (r_.Den≠0)<|
  ret ((decide (low_≤(r_.Num.tdiv r_.Den)))&&((decide ((r_.Num.tdiv r_.Den)<high_))||(((r_.Num.tdiv r_.Den)==high_)&&((r_.Num.tmod r_.Den)==(0:Int)))))
noncomputable def nu (x_:bn) (a1_:(List aP)):M Bool:=
 need (0≤x_.Clock∧x_.Clock<(a1_.length:Int))<|
 need ((((a1_.getD x_.Clock.toNat bZ).Num==(0:Int))&&(((a1_.getD x_.Clock.toNat bZ).Den==(1:Int))&&true))=false→0≤x_.Clock∧x_.Clock<(a1_.length:Int))<|
 bnd (grd ((((a1_.getD x_.Clock.toNat bZ).Num==(0:Int))&&(((a1_.getD x_.Clock.toNat bZ).Den==(1:Int))&&true))=false) (sI (a1_.getD x_.Clock.toNat bZ) x_.Low x_.High)) fun v1=>
 ret ((((a1_.getD x_.Clock.toNat bZ).Num==(0:Int))&&(((a1_.getD x_.Clock.toNat bZ).Den==(1:Int))&&true))||(!v1))
noncomputable def qg (s_:(List bn)) (f_:(List aP)) (self1:Int→M Int):Int→M Int:=fun g1=>
 bif (decide (g1<(s_.length:Int))) then
  need (0≤g1∧g1<(s_.length:Int))<|
  bnd (nu (s_.getD g1.toNat cB) f_) fun v3=>
  bif v3 then
   ret g1
  else
   need (InI64 (g1+(1:Int)))<|
   self1 (g1+(1:Int))
 else
  ret (-1:Int)
noncomputable def kJ (s_:(List bn)) (f_:(List aP)):M Int:=
 bT (qg s_ f_) (0:Int)
noncomputable def gM (s_:(List bn)) (f_:(List aP)):M Bool:=
 bnd (kJ s_ f_) fun v1=>
 ret (decide ((0:Int)≤v1))
noncomputable def Df (l_:(List av)) (m_:(List bn)) (v3:(List aP)) (self1:Int→M Bool):Int→M Bool:=fun g1=>
 bif (decide (g1<(l_.length:Int))) then
  need (0≤g1∧g1<(l_.length:Int))<|
  need (0≤g1∧g1<(v3.length:Int))<|
  need (((!(((v3.getD g1.toNat bZ).Num==(0:Int))&&(((v3.getD g1.toNat bZ).Den==(1:Int))&&true)))&&((l_.getD g1.toNat ay).High != (0:Int)))=true→0≤g1∧g1<(v3.length:Int))<|
  bnd (grd (((!(((v3.getD g1.toNat bZ).Num==(0:Int))&&(((v3.getD g1.toNat bZ).Den==(1:Int))&&true)))&&((l_.getD g1.toNat ay).High != (0:Int)))=true) (sI (v3.getD g1.toNat bZ) ((l_.getD g1.toNat ay).Low) ((l_.getD g1.toNat ay).High))) fun v6=>
  bif (((!(((v3.getD g1.toNat bZ).Num==(0:Int))&&(((v3.getD g1.toNat bZ).Den==(1:Int))&&true)))&&((l_.getD g1.toNat ay).High != (0:Int)))&&(!v6)) then
   ret false
  else
   need (InI64 (g1+(1:Int)))<|
   self1 (g1+(1:Int))
 else
  bnd (gM m_ v3) fun v7=>
  ret (!v7)
noncomputable def wZ (l_:(List av)) (s_:(List Int)) (m_:(List bn)):M Bool:=
 bnd (uP l_ m_) fun v1=>
 bnd (grd ((!v1)=false) (nk l_ s_)) fun v2=>
 bif ((!v1)||(!v2)) then
  ret false
 else
  bnd (sH l_ s_) fun v3=>
  bT (Df l_ m_ v3) (0:Int)
noncomputable def ko (s_:dP):M Bool:=
 bnd (wZ s_.aN.bO s_.aJ.Setting ([]:List bn)) fun v1=>
 ret v1
noncomputable def w9 (l_:(List av)) (s_:(List Int)):M ((List aP)×Int):=
 bnd (sw l_) fun v1=>
 bif (v1 != (0:Int)) then
  ret (([]:List aP),v1)
 else
  bnd (nk l_ s_) fun v2=>
  bif (!v2) then
   ret (([]:List aP),(1:Int))
  else
   bnd (sH l_ s_) fun v3=>
   ret (v3,(0:Int))
noncomputable def qx (s_:dP) (v1:((List aP)×Int)) (g1:Int) (self1:Int→M Bool) (self4:Int→M Bool):Int→M Bool:=fun g4=>
 bif (decide (g4<((((s_.bG.getD ((s_.aG.getD g1.toNat 0).toNat) aY).Limits).length:Nat):Int))) then
  need (0≤g4∧g4<((((s_.bG.getD ((s_.aG.getD g1.toNat 0).toNat) aY).Limits).length:Nat):Int))<|
  need (0≤(((s_.bG.getD ((s_.aG.getD g1.toNat 0).toNat) aY).Limits).getD g4.toNat cB).Clock∧(((s_.bG.getD ((s_.aG.getD g1.toNat 0).toNat) aY).Limits).getD g4.toNat cB).Clock<(v1.1.length:Int))<|
  need (((v1.1.getD (((((s_.bG.getD ((s_.aG.getD g1.toNat 0).toNat) aY).Limits).getD g4.toNat cB).Clock).toNat) bZ).Num==(0:Int))=false→InI64 ((((s_.bG.getD ((s_.aG.getD g1.toNat 0).toNat) aY).Limits).getD g4.toNat cB).High*(v1.1.getD (((((s_.bG.getD ((s_.aG.getD g1.toNat 0).toNat) aY).Limits).getD g4.toNat cB).Clock).toNat) bZ).Den))<|
  need ((((v1.1.getD (((((s_.bG.getD ((s_.aG.getD g1.toNat 0).toNat) aY).Limits).getD g4.toNat cB).Clock).toNat) bZ).Num==(0:Int))||(decide (((((s_.bG.getD ((s_.aG.getD g1.toNat 0).toNat) aY).Limits).getD g4.toNat cB).High*(v1.1.getD (((((s_.bG.getD ((s_.aG.getD g1.toNat 0).toNat) aY).Limits).getD g4.toNat cB).Clock).toNat) bZ).Den)<(v1.1.getD (((((s_.bG.getD ((s_.aG.getD g1.toNat 0).toNat) aY).Limits).getD g4.toNat cB).Clock).toNat) bZ).Num)))=false→(!s_.jd)=true→InI64 ((((s_.bG.getD ((s_.aG.getD g1.toNat 0).toNat) aY).Limits).getD g4.toNat cB).Low*(v1.1.getD (((((s_.bG.getD ((s_.aG.getD g1.toNat 0).toNat) aY).Limits).getD g4.toNat cB).Clock).toNat) bZ).Den))<|
  bif ((((v1.1.getD (((((s_.bG.getD ((s_.aG.getD g1.toNat 0).toNat) aY).Limits).getD g4.toNat cB).Clock).toNat) bZ).Num==(0:Int))||(decide (((((s_.bG.getD ((s_.aG.getD g1.toNat 0).toNat) aY).Limits).getD g4.toNat cB).High*(v1.1.getD (((((s_.bG.getD ((s_.aG.getD g1.toNat 0).toNat) aY).Limits).getD g4.toNat cB).Clock).toNat) bZ).Den)<(v1.1.getD (((((s_.bG.getD ((s_.aG.getD g1.toNat 0).toNat) aY).Limits).getD g4.toNat cB).Clock).toNat) bZ).Num)))||((!s_.jd)&&(decide ((v1.1.getD (((((s_.bG.getD ((s_.aG.getD g1.toNat 0).toNat) aY).Limits).getD g4.toNat cB).Clock).toNat) bZ).Num<((((s_.bG.getD ((s_.aG.getD g1.toNat 0).toNat) aY).Limits).getD g4.toNat cB).Low*(v1.1.getD (((((s_.bG.getD ((s_.aG.getD g1.toNat 0).toNat) aY).Limits).getD g4.toNat cB).Clock).toNat) bZ).Den))))) then
   ret false
  else
   need (InI64 (g4+(1:Int)))<|
   self4 (g4+(1:Int))
 else
  need (InI64 (g1+(1:Int)))<|
  self1 (g1+(1:Int))
noncomputable def qy (s_:dP) (v1:((List aP)×Int)) (self1:Int→M Bool):Int→M Bool:=fun g1=>
 bif (decide (g1<(s_.aG.length:Int))) then
  need (0≤g1∧g1<(s_.aG.length:Int))<|
  need (0≤(s_.aG.getD g1.toNat 0)∧(s_.aG.getD g1.toNat 0)<(s_.bG.length:Int))<|
  bT (qx s_ v1 g1 self1) (0:Int)
 else
  ret true
noncomputable def kr (s_:dP):M Bool:=
 bnd (w9 s_.aN.bO s_.aJ.Setting) fun v1=>
 bif (v1.2 != (0:Int)) then
  ret false
 else
  bT (qy s_ v1) (0:Int)
noncomputable def Bb (l_:(List aj)) (r_:bE) (self1:Int→M Bool):Int→M Bool:=fun g1=>
 bif (decide (g1<(r_.Level.length:Int))) then
  need (0≤g1∧g1<(r_.Level.length:Int))<|
  need (0≤g1∧g1<(l_.length:Int))<|
  need (InI64 (((((l_.getD g1.toNat ah).aQ).length:Nat):Int) - (1:Int)))<|
  bnd (eG (r_.Level.getD g1.toNat 0) (0:Int) (((((l_.getD g1.toNat ah).aQ).length:Nat):Int) - (1:Int))) fun v4=>
  bif (!v4) then
   ret false
  else
   need (InI64 (g1+(1:Int)))<|
   self1 (g1+(1:Int))
 else
  ret true
noncomputable def uS (l_:(List aj)) (r_:bE):M Bool:=
 bnd (l9 l_) fun v1=>
 bif (((v1 != (0:Int))||((r_.On.length:Int) != (l_.length:Int)))||((r_.Level.length:Int) != (l_.length:Int))) then
  ret false
 else
  bT (Bb l_ r_) (0:Int)
noncomputable def lK (x_:aI) (a1_:(List aj)):M Bool:=
 need (InI64 ((a1_.length:Int) - (1:Int)))<|
 bnd (eG x_.aM (0:Int) ((a1_.length:Int) - (1:Int))) fun v1=>
 bnd (grd ((!v1)=false) (eG x_.High (0:Int) (5000:Int))) fun v2=>
 bnd (grd (((!v1)||(!v2))=false) (eG x_.Low (0:Int) x_.High)) fun v3=>
 bnd (grd ((((!v1)||(!v2))||(!v3))=false) (eG x_.Load (0:Int) (10000:Int))) fun v4=>
 ret ((((!v1)||(!v2))||(!v3))||(!v4))
noncomputable def uT (s_:(List aI)) (f_:(List aj)) (self1:Int→M Int):Int→M Int:=fun g1=>
 bif (decide (g1<(s_.length:Int))) then
  need (0≤g1∧g1<(s_.length:Int))<|
  bnd (lK (s_.getD g1.toNat bK) f_) fun v3=>
  bif v3 then
   ret g1
  else
   need (InI64 (g1+(1:Int)))<|
   self1 (g1+(1:Int))
 else
  ret (-1:Int)
noncomputable def ny (s_:(List aI)) (f_:(List aj)):M Int:=
 bT (uT s_ f_) (0:Int)
noncomputable def iT (s_:(List aI)) (f_:(List aj)):M Bool:=
 bnd (ny s_ f_) fun v1=>
 ret (decide ((0:Int)≤v1))
noncomputable def uU (l_:(List aj)) (d_:(List aI)):M Bool:=
 bnd (l9 l_) fun v1=>
 bnd (grd (((v1==(0:Int))&&(decide ((d_.length:Int)≤(32:Int))))=true) (iT d_ l_)) fun v2=>
 ret (((v1==(0:Int))&&(decide ((d_.length:Int)≤(32:Int))))&&(!v2))
noncomputable def fO (s_:(List aj)):M (List aj):=
 ret s_
noncomputable def tK (v1:(List aj)) (self2:(List Bool)→M (List Bool)) (k2:Nat):(List Bool)→M (List Bool):=fun g5=>
 need (0≤((v1.length - 1 - k2:Nat):Int)∧((v1.length - 1 - k2:Nat):Int)<(g5.length:Int))<|
 bif ((g5.getD (((v1.length - 1 - k2:Nat):Int).toNat) false)&&(decide ((0:Int)≤(v1.getD (v1.length - 1 - k2) ah).Parent))) then
  need (0≤(v1.getD (v1.length - 1 - k2) ah).Parent∧(v1.getD (v1.length - 1 - k2) ah).Parent<(g5.length:Int))<|
  self2 (g5.set (((v1.getD (v1.length - 1 - k2) ah).Parent).toNat) true)
 else
  self2 g5
noncomputable def Bc:(List Bool)→M (List Bool):=fun g2=>
 ret g2
noncomputable def Bd (v1:(List aj)) (k2:Nat) (self2:(List Bool)→M (List Bool)):(List Bool)→M (List Bool):=fun g2=>
 need (0≤((v1.length - 1 - k2:Nat):Int)∧((v1.length - 1 - k2:Nat):Int)<(g2.length:Int))<|
 need (0≤((v1.length - 1 - k2:Nat):Int)∧((v1.length - 1 - k2:Nat):Int)<(g2.length:Int))<|
 (tK v1 self2 k2) (g2.set (((v1.length - 1 - k2:Nat):Int).toNat) ((g2.getD (((v1.length - 1 - k2:Nat):Int).toNat) false)||(v1.getD (v1.length - 1 - k2) ah).Always))
noncomputable def Dg (l_:(List aj)) (d_:(List aI)) (self1:(Int×(List Bool))→M (List Bool)):(Int×(List Bool))→M (List Bool):=fun g1=>
 bif (decide (g1.1<(d_.length:Int))) then
  need (0≤g1.1∧g1.1<(d_.length:Int))<|
  need (0≤(d_.getD g1.1.toNat bK).aM∧(d_.getD g1.1.toNat bK).aM<(g1.2.length:Int))<|
  need (InI64 (g1.1+(1:Int)))<|
  self1 ((g1.1+(1:Int)),(g1.2.set (((d_.getD g1.1.toNat bK).aM).toNat) true))
 else
  bnd (fO l_) fun v1=>
  need (v1.length≤1000000)<|
  Pv v1.length (Bd v1) Bc v1.length g1.2
noncomputable def xg (l_:(List aj)) (d_:(List aI)):M (List Bool):=
 need (0≤(l_.length:Int)∧(l_.length:Int)*((1:Nat):Int)≤((big:Nat):Int))<|
 bT (Dg l_ d_) ((0:Int),(List.replicate ((l_.length:Int).toNat) false))
noncomputable def yX:(List Int)→M (List Int):=fun g2=>
 ret g2
noncomputable def yY (v1:(List aj)) (k2:Nat) (self2:(List Int)→M (List Int)):(List Int)→M (List Int):=fun g2=>
 bif (decide ((0:Int)≤(v1.getD (v1.length - 1 - k2) ah).Parent)) then
  need (0≤(v1.getD (v1.length - 1 - k2) ah).Parent∧(v1.getD (v1.length - 1 - k2) ah).Parent<(g2.length:Int))<|
  need (0≤((v1.length - 1 - k2:Nat):Int)∧((v1.length - 1 - k2:Nat):Int)<(g2.length:Int))<|
  need (InI64 ((g2.getD (((v1.getD (v1.length - 1 - k2) ah).Parent).toNat) 0)+(g2.getD (((v1.length - 1 - k2:Nat):Int).toNat) 0)))<|
  need (0≤(v1.getD (v1.length - 1 - k2) ah).Parent∧(v1.getD (v1.length - 1 - k2) ah).Parent<(g2.length:Int))<|
  self2 (g2.set (((v1.getD (v1.length - 1 - k2) ah).Parent).toNat) ((g2.getD (((v1.getD (v1.length - 1 - k2) ah).Parent).toNat) 0)+(g2.getD (((v1.length - 1 - k2:Nat):Int).toNat) 0)))
 else
  self2 g2
noncomputable def Bf (l_:(List aj)) (d_:(List aI)) (self1:(Int×(List Int))→M (List Int)):(Int×(List Int))→M (List Int):=fun g1=>
 bif (decide (g1.1<(d_.length:Int))) then
  need (0≤g1.1∧g1.1<(d_.length:Int))<|
  need (0≤(d_.getD g1.1.toNat bK).aM∧(d_.getD g1.1.toNat bK).aM<(g1.2.length:Int))<|
  need (InI64 ((g1.2.getD (((d_.getD g1.1.toNat bK).aM).toNat) 0)+(d_.getD g1.1.toNat bK).Load))<|
  need (0≤(d_.getD g1.1.toNat bK).aM∧(d_.getD g1.1.toNat bK).aM<(g1.2.length:Int))<|
  need (InI64 (g1.1+(1:Int)))<|
  self1 ((g1.1+(1:Int)),(g1.2.set (((d_.getD g1.1.toNat bK).aM).toNat) ((g1.2.getD (((d_.getD g1.1.toNat bK).aM).toNat) 0)+(d_.getD g1.1.toNat bK).Load)))
 else
  bnd (fO l_) fun v1=>
  need (v1.length≤1000000)<|
  Pv v1.length (yY v1) yX v1.length g1.2
noncomputable def uV (l_:(List aj)) (d_:(List aI)):M (List Int):=
 need (0≤(l_.length:Int)∧(l_.length:Int)*((8:Nat):Int)≤((big:Nat):Int))<|
 bT (Bf l_ d_) ((0:Int),(List.replicate ((l_.length:Int).toNat) 0))
noncomputable def lM (x_:aI) (a1_:(List aj)) (a20_:(List Bool)) (a21_:(List Int)):M Bool:=
 need (0≤x_.aM∧x_.aM<(a1_.length:Int))<|
 need (0≤x_.aM∧x_.aM<(a21_.length:Int))<|
 need (0≤(a21_.getD x_.aM.toNat 0)∧(a21_.getD x_.aM.toNat 0)<((((a1_.getD x_.aM.toNat ah).aQ).length:Nat):Int))<|
 bnd (eG (((a1_.getD x_.aM.toNat ah).aQ).getD ((a21_.getD x_.aM.toNat 0).toNat) 0) x_.Low x_.High) fun v1=>
 ret (!v1)
noncomputable def qP (s_:(List aI)) (f0_:(List aj)) (f1_:(List Bool)) (f2_:(List Int)) (self1:Int→M Int):Int→M Int:=fun g1=>
 bif (decide (g1<(s_.length:Int))) then
  need (0≤g1∧g1<(s_.length:Int))<|
  bnd (lM (s_.getD g1.toNat bK) f0_ f1_ f2_) fun v3=>
  bif v3 then
   ret g1
  else
   need (InI64 (g1+(1:Int)))<|
   self1 (g1+(1:Int))
 else
  ret (-1:Int)
noncomputable def kW (s_:(List aI)) (f0_:(List aj)) (f1_:(List Bool)) (f2_:(List Int)):M Int:=
 bT (qP s_ f0_ f1_ f2_) (0:Int)
noncomputable def gX (s_:(List aI)) (f0_:(List aj)) (f1_:(List Bool)) (f2_:(List Int)):M Bool:=
 bnd (kW s_ f0_ f1_ f2_) fun v1=>
 ret (decide ((0:Int)≤v1))
noncomputable def Bg (l_:(List aj)) (r_:bE) (d_:(List aI)) (v3:(List Bool)) (v4:(List Int)) (self1:Int→M Bool):Int→M Bool:=fun g1=>
 bif (decide (g1<(l_.length:Int))) then
  need (0≤g1∧g1<(l_.length:Int))<|
  need (0≤g1∧g1<(r_.On.length:Int))<|
  bif (!(r_.On.getD g1.toNat false)) then
   need (0≤g1∧g1<(v3.length:Int))<|
   bif (v3.getD g1.toNat false) then
    ret false
   else
    need (InI64 (g1+(1:Int)))<|
    self1 (g1+(1:Int))
  else
   need ((decide ((0:Int)≤(l_.getD g1.toNat ah).Parent))=true→0≤(l_.getD g1.toNat ah).Parent∧(l_.getD g1.toNat ah).Parent<(r_.On.length:Int))<|
   need ((decide ((0:Int)≤(l_.getD g1.toNat ah).Parent))=true→(!(r_.On.getD (((l_.getD g1.toNat ah).Parent).toNat) false))=false→0≤(l_.getD g1.toNat ah).Parent∧(l_.getD g1.toNat ah).Parent<(l_.length:Int))<|
   need ((decide ((0:Int)≤(l_.getD g1.toNat ah).Parent))=true→(!(r_.On.getD (((l_.getD g1.toNat ah).Parent).toNat) false))=false→0≤(l_.getD g1.toNat ah).Parent∧(l_.getD g1.toNat ah).Parent<(r_.Level.length:Int))<|
   need ((decide ((0:Int)≤(l_.getD g1.toNat ah).Parent))=true→(!(r_.On.getD (((l_.getD g1.toNat ah).Parent).toNat) false))=false→0≤(r_.Level.getD (((l_.getD g1.toNat ah).Parent).toNat) 0)∧(r_.Level.getD (((l_.getD g1.toNat ah).Parent).toNat) 0)<((((l_.getD (((l_.getD g1.toNat ah).Parent).toNat) ah).aQ).length:Nat):Int))<|
   need ((decide ((0:Int)≤(l_.getD g1.toNat ah).Parent))=true→(!(r_.On.getD (((l_.getD g1.toNat ah).Parent).toNat) false))=false→0≤g1∧g1<(r_.Level.length:Int))<|
   need ((decide ((0:Int)≤(l_.getD g1.toNat ah).Parent))=true→(!(r_.On.getD (((l_.getD g1.toNat ah).Parent).toNat) false))=false→0≤(r_.Level.getD g1.toNat 0)∧(r_.Level.getD g1.toNat 0)<((((l_.getD g1.toNat ah).aQ).length:Nat):Int))<|
   need ((decide ((0:Int)≤(l_.getD g1.toNat ah).Parent))=true→(!(r_.On.getD (((l_.getD g1.toNat ah).Parent).toNat) false))=false→InI64 ((((l_.getD g1.toNat ah).aQ).getD ((r_.Level.getD g1.toNat 0).toNat) 0)+(l_.getD g1.toNat ah).dM))<|
   need (((decide ((0:Int)≤(l_.getD g1.toNat ah).Parent))&&((!(r_.On.getD (((l_.getD g1.toNat ah).Parent).toNat) false))||(decide ((((l_.getD (((l_.getD g1.toNat ah).Parent).toNat) ah).aQ).getD ((r_.Level.getD (((l_.getD g1.toNat ah).Parent).toNat) 0).toNat) 0)<((((l_.getD g1.toNat ah).aQ).getD ((r_.Level.getD g1.toNat 0).toNat) 0)+(l_.getD g1.toNat ah).dM)))))=false→0≤g1∧g1<(v4.length:Int))<|
   bif (((decide ((0:Int)≤(l_.getD g1.toNat ah).Parent))&&((!(r_.On.getD (((l_.getD g1.toNat ah).Parent).toNat) false))||(decide ((((l_.getD (((l_.getD g1.toNat ah).Parent).toNat) ah).aQ).getD ((r_.Level.getD (((l_.getD g1.toNat ah).Parent).toNat) 0).toNat) 0)<((((l_.getD g1.toNat ah).aQ).getD ((r_.Level.getD g1.toNat 0).toNat) 0)+(l_.getD g1.toNat ah).dM)))))||(decide ((l_.getD g1.toNat ah).dU<(v4.getD g1.toNat 0)))) then
    ret false
   else
    need (InI64 (g1+(1:Int)))<|
    self1 (g1+(1:Int))
 else
  bnd (gX d_ l_ r_.On r_.Level) fun v5=>
  ret (!v5)
noncomputable def uW (l_:(List aj)) (r_:bE) (d_:(List aI)):M Bool:=
 bnd (uS l_ r_) fun v1=>
 bnd (grd ((!v1)=false) (uU l_ d_)) fun v2=>
 bif ((!v1)||(!v2)) then
  ret false
 else
  bnd (xg l_ d_) fun v3=>
  bnd (uV l_ d_) fun v4=>
  bT (Bg l_ r_ d_ v3 v4) (0:Int)
noncomputable def oC (s_:dP) (self1:(Int×(List aI))→M Bool):(Int×(List aI))→M Bool:=fun g1=>
 bif (decide (g1.1<(s_.aG.length:Int))) then
  need (0≤g1.1∧g1.1<(s_.aG.length:Int))<|
  need (0≤(s_.aG.getD g1.1.toNat 0)∧(s_.aG.getD g1.1.toNat 0)<(s_.bG.length:Int))<|
  need ((g1.2.length+((s_.bG.getD ((s_.aG.getD g1.1.toNat 0).toNat) aY).Draws).length)*32≤big)<|
  need (InI64 (g1.1+(1:Int)))<|
  self1 ((g1.1+(1:Int)),(g1.2++(s_.bG.getD ((s_.aG.getD g1.1.toNat 0).toNat) aY).Draws))
 else
  bnd (yU s_.aJ.fC) fun v1=>
  bnd (uW s_.aN.bC (⟨v1.1,v1.2⟩:bE) g1.2) fun v2=>
  ret v2
noncomputable def jw (s_:dP):M Bool:=
 bT (oC s_) ((0:Int),([]:List aI))
noncomputable def Bh (p_:aR) (l_:(List oW)) (g2:(Int×(Nat→Int)×(List Bool))) (self2:(Int×(Nat→Int)×(List Bool))→M ((Nat→Int)×Int)) (self5:(Int×(Nat→Int)×(List Bool))→M ((Nat→Int)×Int)):(Int×(Nat→Int)×(List Bool))→M ((Nat→Int)×Int):=fun g5=>
 bif (decide (g5.1<((((p_.Groups.getD (((l_.getD g2.1.toNat iK).dR).toNat) au).bI).length:Nat):Int))) then
  need (0≤g5.1∧g5.1<((((p_.Groups.getD (((l_.getD g2.1.toNat iK).dR).toNat) au).bI).length:Nat):Int))<|
  need (0≤(((p_.Groups.getD (((l_.getD g2.1.toNat iK).dR).toNat) au).bI).getD g5.1.toNat 0)∧(((p_.Groups.getD (((l_.getD g2.1.toNat iK).dR).toNat) au).bI).getD g5.1.toNat 0)<((64:Nat):Int))<|
  bif (decide ((0:Int)≤(g5.2.1 ((((p_.Groups.getD (((l_.getD g2.1.toNat iK).dR).toNat) au).bI).getD g5.1.toNat 0).toNat)))) then
   ret (g5.2.1,(40:Int))
  else
   need (0≤(((p_.Groups.getD (((l_.getD g2.1.toNat iK).dR).toNat) au).bI).getD g5.1.toNat 0)∧(((p_.Groups.getD (((l_.getD g2.1.toNat iK).dR).toNat) au).bI).getD g5.1.toNat 0)<((64:Nat):Int))<|
   need (InI64 (g5.1+(1:Int)))<|
   self5 ((g5.1+(1:Int)),(upd g5.2.1 ((((p_.Groups.getD (((l_.getD g2.1.toNat iK).dR).toNat) au).bI).getD g5.1.toNat 0).toNat) ((l_.getD g2.1.toNat iK).dR)),g5.2.2)
 else
  need (InI64 (g2.1+(1:Int)))<|
  self2 ((g2.1+(1:Int)),g5.2.1,g5.2.2)
noncomputable def Bj (p_:aR) (l_:(List oW)) (self2:(Int×(Nat→Int)×(List Bool))→M ((Nat→Int)×Int)):(Int×(Nat→Int)×(List Bool))→M ((Nat→Int)×Int):=fun g2=>
 bif (decide (g2.1<(l_.length:Int))) then
  need (0≤g2.1∧g2.1<(l_.length:Int))<|
  need ((((decide ((l_.getD g2.1.toNat iK).dR<(0:Int)))||(decide ((p_.Groups.length:Int)≤(l_.getD g2.1.toNat iK).dR)))||(decide ((l_.getD g2.1.toNat iK).Function<(0:Int))))=false→0≤(l_.getD g2.1.toNat iK).dR∧(l_.getD g2.1.toNat iK).dR<(p_.Groups.length:Int))<|
  bif ((((decide ((l_.getD g2.1.toNat iK).dR<(0:Int)))||(decide ((p_.Groups.length:Int)≤(l_.getD g2.1.toNat iK).dR)))||(decide ((l_.getD g2.1.toNat iK).Function<(0:Int))))||(decide (((((p_.Groups.getD (((l_.getD g2.1.toNat iK).dR).toNat) au).Functions).length:Nat):Int)≤(l_.getD g2.1.toNat iK).Function))) then
   ret (g2.2.1,(2:Int))
  else
   need (0≤(l_.getD g2.1.toNat iK).dR∧(l_.getD g2.1.toNat iK).dR<(g2.2.2.length:Int))<|
   bif (g2.2.2.getD (((l_.getD g2.1.toNat iK).dR).toNat) false) then
    ret (g2.2.1,(5:Int))
   else
    need (0≤(l_.getD g2.1.toNat iK).dR∧(l_.getD g2.1.toNat iK).dR<(g2.2.2.length:Int))<|
    need (0≤(l_.getD g2.1.toNat iK).dR∧(l_.getD g2.1.toNat iK).dR<(p_.Groups.length:Int))<|
    bT (Bh p_ l_ g2 self2) ((0:Int),g2.2.1,(g2.2.2.set (((l_.getD g2.1.toNat iK).dR).toNat) true))
 else
  ret (g2.2.1,(0:Int))
noncomputable def Dh (p_:aR) (l_:(List oW)) (self1:(Int×(Nat→Int)×(Nat→Int))→M ((Nat→Int)×Int)):(Int×(Nat→Int)×(Nat→Int))→M ((Nat→Int)×Int):=fun g1=>
 bif (decide (g1.1<(64:Int))) then
  need (0≤g1.1∧g1.1<((64:Nat):Int))<|
  need (InI64 (g1.1+(1:Int)))<|
  self1 ((g1.1+(1:Int)),g1.2.1,(upd g1.2.2 (g1.1.toNat) (-1:Int)))
 else
  bnd (vS p_) fun v1=>
  bif (v1 != (0:Int)) then
   ret (g1.2.2,(1:Int))
  else
   need (0≤(p_.Groups.length:Int)∧(p_.Groups.length:Int)*((1:Nat):Int)≤((big:Nat):Int))<|
   bT (Bj p_ l_) ((0:Int),g1.2.2,(List.replicate ((p_.Groups.length:Int).toNat) false))
noncomputable def xk (p_:aR) (l_:(List oW)):M ((Nat→Int)×Int):=
 bT (Dh p_ l_) ((0:Int),(fun _=>0),(fun _=>0))
noncomputable def vU (p_:aR):(Nat→Int)→M ((List Int)×Int):=fun g1=>
 need (0≤p_.bI∧p_.bI≤((64:Nat):Int))<|
 bnd (slices_Clone_int ((List.range (p_.bI.toNat)).map g1)) fun v2=>
 ret (v2,(0:Int))
noncomputable def xq (p_:aR) (l_:(List oW)):M ((List Int)×Int):=
 bnd (xk p_ l_) fun v1=>
 bif (v1.2 != (0:Int)) then
  ret (([]:List Int),v1.2)
 else
  (vU p_) v1.1
noncomputable def uE (s_:dP) (self1:(Int×(List oW))→M Bool):(Int×(List oW))→M Bool:=fun g1=>
 bif (decide (g1.1<(s_.aJ.Uses.length:Int))) then
  need (0≤g1.1∧g1.1<(s_.aJ.Uses.length:Int))<|
  need ((g1.2.length+1)*16≤big)<|
  need (InI64 (g1.1+(1:Int)))<|
  self1 ((g1.1+(1:Int)),(g1.2++([((s_.aJ.Uses.getD g1.1.toNat bY).Use)]:List oW)))
 else
  bnd (xq s_.aN.bD g1.2) fun v1=>
  ret (v1.2==(0:Int))
noncomputable def mg (s_:dP):M Bool:=
 bT (uE s_) ((0:Int),([]:List oW))
noncomputable def mR (s_:dP) (g1:Int) (self1:Int→M Bool) (self7:(Int×(kN→Option Int))→M Bool):(Int×(kN→Option Int))→M Bool:=fun g7=>
 bif (decide (g7.1<((((s_.bG.getD ((s_.aG.getD g1.toNat 0).toNat) aY).Functions).length:Nat):Int))) then
  need (0≤g7.1∧g7.1<((((s_.bG.getD ((s_.aG.getD g1.toNat 0).toNat) aY).Functions).length:Nat):Int))<|
  need (InI64 ((uL g7.2 (.s (((s_.bG.getD ((s_.aG.getD g1.toNat 0).toNat) aY).Functions).getD g7.1.toNat ByteArray.empty))) - (1:Int)))<|
  bif (decide ((uL (Iq g7.2 (.s (((s_.bG.getD ((s_.aG.getD g1.toNat 0).toNat) aY).Functions).getD g7.1.toNat ByteArray.empty)) ((uL g7.2 (.s (((s_.bG.getD ((s_.aG.getD g1.toNat 0).toNat) aY).Functions).getD g7.1.toNat ByteArray.empty))) - (1:Int))) (.s (((s_.bG.getD ((s_.aG.getD g1.toNat 0).toNat) aY).Functions).getD g7.1.toNat ByteArray.empty)))<(0:Int))) then
   ret false
  else
   need (InI64 (g7.1+(1:Int)))<|
   self7 ((g7.1+(1:Int)),(Iq g7.2 (.s (((s_.bG.getD ((s_.aG.getD g1.toNat 0).toNat) aY).Functions).getD g7.1.toNat ByteArray.empty)) ((uL g7.2 (.s (((s_.bG.getD ((s_.aG.getD g1.toNat 0).toNat) aY).Functions).getD g7.1.toNat ByteArray.empty))) - (1:Int))))
 else
  need (InI64 (g1+(1:Int)))<|
  self1 (g1+(1:Int))
noncomputable def nA (s_:dP) (g1:Int) (self1:Int→M Bool) (self6:(Int×(kN→Option Int))→M Bool):(Int×(kN→Option Int))→M Bool:=fun g6=>
 bif (decide (g6.1<(s_.aJ.Uses.length:Int))) then
  need (0≤g6.1∧g6.1<(s_.aJ.Uses.length:Int))<|
  bif ((s_.aJ.Uses.getD g6.1.toNat bY).Device==(s_.aG.getD g1.toNat 0)) then
   need (0≤((s_.aJ.Uses.getD g6.1.toNat bY).Use).dR∧((s_.aJ.Uses.getD g6.1.toNat bY).Use).dR<(s_.aN.bD.Groups.length:Int))<|
   need (0≤((s_.aJ.Uses.getD g6.1.toNat bY).Use).Function∧((s_.aJ.Uses.getD g6.1.toNat bY).Use).Function<((((s_.aN.bD.Groups.getD ((((s_.aJ.Uses.getD g6.1.toNat bY).Use).dR).toNat) au).Functions).length:Nat):Int))<|
   need (InI64 ((uL g6.2 (.s (((s_.aN.bD.Groups.getD ((((s_.aJ.Uses.getD g6.1.toNat bY).Use).dR).toNat) au).Functions).getD ((((s_.aJ.Uses.getD g6.1.toNat bY).Use).Function).toNat) ByteArray.empty)))+(1:Int)))<|
   need (InI64 (g6.1+(1:Int)))<|
   self6 ((g6.1+(1:Int)),(Iq g6.2 (.s (((s_.aN.bD.Groups.getD ((((s_.aJ.Uses.getD g6.1.toNat bY).Use).dR).toNat) au).Functions).getD ((((s_.aJ.Uses.getD g6.1.toNat bY).Use).Function).toNat) ByteArray.empty)) ((uL g6.2 (.s (((s_.aN.bD.Groups.getD ((((s_.aJ.Uses.getD g6.1.toNat bY).Use).dR).toNat) au).Functions).getD ((((s_.aJ.Uses.getD g6.1.toNat bY).Use).Function).toNat) ByteArray.empty)))+(1:Int))))
  else
   need (InI64 (g6.1+(1:Int)))<|
   self6 ((g6.1+(1:Int)),g6.2)
 else
  need (0≤(s_.aG.getD g1.toNat 0)∧(s_.aG.getD g1.toNat 0)<(s_.bG.length:Int))<|
  bT (mR s_ g1 self1) ((0:Int),g6.2)
noncomputable def nC (s_:dP) (self1:Int→M Bool):Int→M Bool:=fun g1=>
 bif (decide (g1<(s_.aG.length:Int))) then
  need (0≤g1∧g1<(s_.aG.length:Int))<|
  bT (nA s_ g1 self1) ((0:Int),(fun _=>none))
 else
  ret true
noncomputable def ji (s_:dP):M Bool:=
 bT (nC s_) (0:Int)
noncomputable def Bl (l_:(List bV)) (released_:(List Bool)) (g1:Int) (self1:Int→M Bool) (self4:Int→M Bool):Int→M Bool:=fun g4=>
 bif (decide (g4<((((l_.getD g1.toNat dReset).After).length:Nat):Int))) then
  need (0≤g4∧g4<((((l_.getD g1.toNat dReset).After).length:Nat):Int))<|
  need (0≤g1∧g1<(released_.length:Int))<|
  need ((released_.getD g1.toNat false)=true→0≤(((l_.getD g1.toNat dReset).After).getD g4.toNat 0)∧(((l_.getD g1.toNat dReset).After).getD g4.toNat 0)<(released_.length:Int))<|
  bif ((released_.getD g1.toNat false)&&(!(released_.getD ((((l_.getD g1.toNat dReset).After).getD g4.toNat 0).toNat) false))) then
   ret false
  else
   need (InI64 (g4+(1:Int)))<|
   self4 (g4+(1:Int))
 else
  need (InI64 (g1+(1:Int)))<|
  self1 (g1+(1:Int))
noncomputable def Bn (l_:(List bV)) (released_:(List Bool)) (self1:Int→M Bool):Int→M Bool:=fun g1=>
 bif (decide (g1<(l_.length:Int))) then
  need (0≤g1∧g1<(l_.length:Int))<|
  bT (Bl l_ released_ g1 self1) (0:Int)
 else
  ret true
noncomputable def uX (l_:(List bV)) (released_:(List Bool)):M Bool:=
 bif ((released_.length:Int) != (l_.length:Int)) then
  ret false
 else
  bT (Bn l_ released_) (0:Int)
noncomputable def uY (l_:(List bV)) (released_:(List Bool)):M Bool:=
 bnd (sD l_) fun v1=>
 bnd (grd ((v1==(0:Int))=true) (uX l_ released_)) fun v2=>
 ret ((v1==(0:Int))&&v2)
noncomputable def iC (line_:Int) (a10_:(List av)) (a11_:(List aj)) (a12_:Int) (a13_:(List aV)) (a14_:(List bV)) (a15_:(List bH)) (a16_:(List aO)) (a17_:(List Int)) (a18_:(List Int)) (a19_:(List Bool)) (a110_:(List Int)) (a111_:(List aZ)) (a112_:(List Bool)) (a113_:(List Bool)) (a114_:Bool):M Bool:=
 need (0≤line_∧line_<(a112_.length:Int))<|
 ret (!(a112_.getD line_.toNat false))
noncomputable def vV (s_:(List Int)) (f0_:(List av)) (f1_:(List aj)) (f2_:Int) (f3_:(List aV)) (f4_:(List bV)) (f5_:(List bH)) (f6_:(List aO)) (f7_:(List Int)) (f8_:(List Int)) (f9_:(List Bool)) (f10_:(List Int)) (f11_:(List aZ)) (f12_:(List Bool)) (f13_:(List Bool)) (f14_:Bool) (self1:Int→M Int):Int→M Int:=fun g1=>
 bif (decide (g1<(s_.length:Int))) then
  need (0≤g1∧g1<(s_.length:Int))<|
  bnd (iC (s_.getD g1.toNat 0) f0_ f1_ f2_ f3_ f4_ f5_ f6_ f7_ f8_ f9_ f10_ f11_ f12_ f13_ f14_) fun v3=>
  bif v3 then
   ret g1
  else
   need (InI64 (g1+(1:Int)))<|
   self1 (g1+(1:Int))
 else
  ret (-1:Int)
noncomputable def oD (s_:(List Int)) (f0_:(List av)) (f1_:(List aj)) (f2_:Int) (f3_:(List aV)) (f4_:(List bV)) (f5_:(List bH)) (f6_:(List aO)) (f7_:(List Int)) (f8_:(List Int)) (f9_:(List Bool)) (f10_:(List Int)) (f11_:(List aZ)) (f12_:(List Bool)) (f13_:(List Bool)) (f14_:Bool):M Int:=
 bT (vV s_ f0_ f1_ f2_ f3_ f4_ f5_ f6_ f7_ f8_ f9_ f10_ f11_ f12_ f13_ f14_) (0:Int)
noncomputable def je (s_:(List Int)) (f0_:(List av)) (f1_:(List aj)) (f2_:Int) (f3_:(List aV)) (f4_:(List bV)) (f5_:(List bH)) (f6_:(List aO)) (f7_:(List Int)) (f8_:(List Int)) (f9_:(List Bool)) (f10_:(List Int)) (f11_:(List aZ)) (f12_:(List Bool)) (f13_:(List Bool)) (f14_:Bool):M Bool:=
 bnd (oD s_ f0_ f1_ f2_ f3_ f4_ f5_ f6_ f7_ f8_ f9_ f10_ f11_ f12_ f13_ f14_) fun v1=>
 ret (decide ((0:Int)≤v1))
noncomputable def qz (s_:dP) (self1:Int→M Bool):Int→M Bool:=fun g1=>
 bif (decide (g1<(s_.aG.length:Int))) then
  need (0≤g1∧g1<(s_.aG.length:Int))<|
  need (0≤(s_.aG.getD g1.toNat 0)∧(s_.aG.getD g1.toNat 0)<(s_.bG.length:Int))<|
  bnd (je ((s_.bG.getD ((s_.aG.getD g1.toNat 0).toNat) aY).Resets) s_.aN.bO s_.aN.bC s_.aN.bD.bI s_.aN.bD.Groups s_.aN.Resets s_.aN.bS s_.bG s_.aG s_.aJ.Setting s_.aJ.fC.On s_.aJ.fC.Level s_.aJ.Uses s_.aJ.Released s_.aJ.eU s_.jd) fun v4=>
  bif v4 then
   ret false
  else
   need (InI64 (g1+(1:Int)))<|
   self1 (g1+(1:Int))
 else
  ret true
noncomputable def ku (s_:dP):M Bool:=
 bnd (uY s_.aN.Resets s_.aJ.Released) fun v1=>
 bif (!v1) then
  ret false
 else
  bT (qz s_) (0:Int)
noncomputable def Bo (l_:(List bH)) (on_:(List Bool)) (self1:Int→M Bool):Int→M Bool:=fun g1=>
 bif (decide (g1<(l_.length:Int))) then
  need (0≤g1∧g1<(l_.length:Int))<|
  need (0≤g1∧g1<(on_.length:Int))<|
  need (((!(on_.getD g1.toNat false))&&(l_.getD g1.toNat dD).Always)=false→0≤g1∧g1<(on_.length:Int))<|
  need (((!(on_.getD g1.toNat false))&&(l_.getD g1.toNat dD).Always)=false→((on_.getD g1.toNat false)&&(decide ((0:Int)≤(l_.getD g1.toNat dD).Parent)))=true→0≤(l_.getD g1.toNat dD).Parent∧(l_.getD g1.toNat dD).Parent<(on_.length:Int))<|
  bif (((!(on_.getD g1.toNat false))&&(l_.getD g1.toNat dD).Always)||(((on_.getD g1.toNat false)&&(decide ((0:Int)≤(l_.getD g1.toNat dD).Parent)))&&(!(on_.getD (((l_.getD g1.toNat dD).Parent).toNat) false)))) then
   ret false
  else
   need (InI64 (g1+(1:Int)))<|
   self1 (g1+(1:Int))
 else
  ret true
noncomputable def uZ (l_:(List bH)) (on_:(List Bool)):M Bool:=
 bif ((on_.length:Int) != (l_.length:Int)) then
  ret false
 else
  bT (Bo l_ on_) (0:Int)
noncomputable def u6 (l_:(List bH)) (on_:(List Bool)):M Bool:=
 bnd (o7 l_) fun v1=>
 bnd (grd ((v1==(0:Int))=true) (uZ l_ on_)) fun v2=>
 ret ((v1==(0:Int))&&v2)
noncomputable def gN (m_:Int) (a10_:(List av)) (a11_:(List aj)) (a12_:Int) (a13_:(List aV)) (a14_:(List bV)) (a15_:(List bH)) (a16_:(List aO)) (a17_:(List Int)) (a18_:(List Int)) (a19_:(List Bool)) (a110_:(List Int)) (a111_:(List aZ)) (a112_:(List Bool)) (a113_:(List Bool)) (a114_:Bool):M Bool:=
 need (0≤m_∧m_<(a16_.length:Int))<|
 need ((decide ((0:Int)≤(a16_.getD m_.toNat aY).fK))=true→0≤(a16_.getD m_.toNat aY).fK∧(a16_.getD m_.toNat aY).fK<(a113_.length:Int))<|
 ret ((decide ((0:Int)≤(a16_.getD m_.toNat aY).fK))&&(!(a113_.getD (((a16_.getD m_.toNat aY).fK).toNat) false)))
noncomputable def vW (s_:(List Int)) (f0_:(List av)) (f1_:(List aj)) (f2_:Int) (f3_:(List aV)) (f4_:(List bV)) (f5_:(List bH)) (f6_:(List aO)) (f7_:(List Int)) (f8_:(List Int)) (f9_:(List Bool)) (f10_:(List Int)) (f11_:(List aZ)) (f12_:(List Bool)) (f13_:(List Bool)) (f14_:Bool) (self1:Int→M Int):Int→M Int:=fun g1=>
 bif (decide (g1<(s_.length:Int))) then
  need (0≤g1∧g1<(s_.length:Int))<|
  bnd (gN (s_.getD g1.toNat 0) f0_ f1_ f2_ f3_ f4_ f5_ f6_ f7_ f8_ f9_ f10_ f11_ f12_ f13_ f14_) fun v3=>
  bif v3 then
   ret g1
  else
   need (InI64 (g1+(1:Int)))<|
   self1 (g1+(1:Int))
 else
  ret (-1:Int)
noncomputable def oF (s_:(List Int)) (f0_:(List av)) (f1_:(List aj)) (f2_:Int) (f3_:(List aV)) (f4_:(List bV)) (f5_:(List bH)) (f6_:(List aO)) (f7_:(List Int)) (f8_:(List Int)) (f9_:(List Bool)) (f10_:(List Int)) (f11_:(List aZ)) (f12_:(List Bool)) (f13_:(List Bool)) (f14_:Bool):M Int:=
 bT (vW s_ f0_ f1_ f2_ f3_ f4_ f5_ f6_ f7_ f8_ f9_ f10_ f11_ f12_ f13_ f14_) (0:Int)
noncomputable def jf (s_:(List Int)) (f0_:(List av)) (f1_:(List aj)) (f2_:Int) (f3_:(List aV)) (f4_:(List bV)) (f5_:(List bH)) (f6_:(List aO)) (f7_:(List Int)) (f8_:(List Int)) (f9_:(List Bool)) (f10_:(List Int)) (f11_:(List aZ)) (f12_:(List Bool)) (f13_:(List Bool)) (f14_:Bool):M Bool:=
 bnd (oF s_ f0_ f1_ f2_ f3_ f4_ f5_ f6_ f7_ f8_ f9_ f10_ f11_ f12_ f13_ f14_) fun v1=>
 ret (decide ((0:Int)≤v1))
noncomputable def jK (s_:dP):M Bool:=
 bnd (u6 s_.aN.bS s_.aJ.eU) fun v1=>
 bif (!v1) then
  ret false
 else
  bnd (jf s_.aG s_.aN.bO s_.aN.bC s_.aN.bD.bI s_.aN.bD.Groups s_.aN.Resets s_.aN.bS s_.bG s_.aG s_.aJ.Setting s_.aJ.fC.On s_.aJ.fC.Level s_.aJ.Uses s_.aJ.Released s_.aJ.eU s_.jd) fun v2=>
  ret (!v2)
noncomputable def gY (s_:dP):M Int:=
 need (0≤(0:Int)∧(0:Int)<((8:Nat):Int))<|
 bnd (kV s_) fun v1=>
 bif (!v1) then
  need (InI64 ((0:Int)+(1:Int)))<|
  ret ((0:Int)+(1:Int))
 else
  need (InI64 ((0:Int)+(1:Int)))<|
  need (0≤((0:Int)+(1:Int))∧((0:Int)+(1:Int))<((8:Nat):Int))<|
  bnd (ko s_) fun v2=>
  bif (!v2) then
   need (InI64 (((0:Int)+(1:Int))+(1:Int)))<|
   ret (((0:Int)+(1:Int))+(1:Int))
  else
   need (InI64 (((0:Int)+(1:Int))+(1:Int)))<|
   need (0≤(((0:Int)+(1:Int))+(1:Int))∧(((0:Int)+(1:Int))+(1:Int))<((8:Nat):Int))<|
   bnd (kr s_) fun v3=>
   bif (!v3) then
    need (InI64 ((((0:Int)+(1:Int))+(1:Int))+(1:Int)))<|
    ret ((((0:Int)+(1:Int))+(1:Int))+(1:Int))
   else
    need (InI64 ((((0:Int)+(1:Int))+(1:Int))+(1:Int)))<|
    need (0≤((((0:Int)+(1:Int))+(1:Int))+(1:Int))∧((((0:Int)+(1:Int))+(1:Int))+(1:Int))<((8:Nat):Int))<|
    bnd (jw s_) fun v4=>
    bif (!v4) then
     need (InI64 (((((0:Int)+(1:Int))+(1:Int))+(1:Int))+(1:Int)))<|
     ret (((((0:Int)+(1:Int))+(1:Int))+(1:Int))+(1:Int))
    else
     need (InI64 (((((0:Int)+(1:Int))+(1:Int))+(1:Int))+(1:Int)))<|
     need (0≤(((((0:Int)+(1:Int))+(1:Int))+(1:Int))+(1:Int))∧(((((0:Int)+(1:Int))+(1:Int))+(1:Int))+(1:Int))<((8:Nat):Int))<|
     bnd (mg s_) fun v5=>
     bif (!v5) then
      need (InI64 ((((((0:Int)+(1:Int))+(1:Int))+(1:Int))+(1:Int))+(1:Int)))<|
      ret ((((((0:Int)+(1:Int))+(1:Int))+(1:Int))+(1:Int))+(1:Int))
     else
      need (InI64 ((((((0:Int)+(1:Int))+(1:Int))+(1:Int))+(1:Int))+(1:Int)))<|
      need (0≤((((((0:Int)+(1:Int))+(1:Int))+(1:Int))+(1:Int))+(1:Int))∧((((((0:Int)+(1:Int))+(1:Int))+(1:Int))+(1:Int))+(1:Int))<((8:Nat):Int))<|
      bnd (ji s_) fun v6=>
      bif (!v6) then
       need (InI64 (((((((0:Int)+(1:Int))+(1:Int))+(1:Int))+(1:Int))+(1:Int))+(1:Int)))<|
       ret (((((((0:Int)+(1:Int))+(1:Int))+(1:Int))+(1:Int))+(1:Int))+(1:Int))
      else
       need (InI64 (((((((0:Int)+(1:Int))+(1:Int))+(1:Int))+(1:Int))+(1:Int))+(1:Int)))<|
       need (0≤(((((((0:Int)+(1:Int))+(1:Int))+(1:Int))+(1:Int))+(1:Int))+(1:Int))∧(((((((0:Int)+(1:Int))+(1:Int))+(1:Int))+(1:Int))+(1:Int))+(1:Int))<((8:Nat):Int))<|
       bnd (ku s_) fun v7=>
       bif (!v7) then
        need (InI64 ((((((((0:Int)+(1:Int))+(1:Int))+(1:Int))+(1:Int))+(1:Int))+(1:Int))+(1:Int)))<|
        ret ((((((((0:Int)+(1:Int))+(1:Int))+(1:Int))+(1:Int))+(1:Int))+(1:Int))+(1:Int))
       else
        need (InI64 ((((((((0:Int)+(1:Int))+(1:Int))+(1:Int))+(1:Int))+(1:Int))+(1:Int))+(1:Int)))<|
        need (0≤((((((((0:Int)+(1:Int))+(1:Int))+(1:Int))+(1:Int))+(1:Int))+(1:Int))+(1:Int))∧((((((((0:Int)+(1:Int))+(1:Int))+(1:Int))+(1:Int))+(1:Int))+(1:Int))+(1:Int))<((8:Nat):Int))<|
        bnd (jK s_) fun v8=>
        bif (!v8) then
         need (InI64 (((((((((0:Int)+(1:Int))+(1:Int))+(1:Int))+(1:Int))+(1:Int))+(1:Int))+(1:Int))+(1:Int)))<|
         ret (((((((((0:Int)+(1:Int))+(1:Int))+(1:Int))+(1:Int))+(1:Int))+(1:Int))+(1:Int))+(1:Int))
        else
         need (InI64 (((((((((0:Int)+(1:Int))+(1:Int))+(1:Int))+(1:Int))+(1:Int))+(1:Int))+(1:Int))+(1:Int)))<|
         ret (0:Int)
noncomputable def xX (at_:Int) (x_:Int) (o0_:(List Int)):M (Bool×(List Int)):=
 bif ((decide (at_<(0:Int)))||(decide ((o0_.length:Int)≤at_))) then
  ret (false,o0_)
 else
  need (0≤at_∧at_<(o0_.length:Int))<|
  ret (true,(o0_.set (at_.toNat) x_))
noncomputable def o9 (at_:Int) (x_:Bool) (o0_:(List Bool)):M (Bool×(List Bool)):=
 bif ((decide (at_<(0:Int)))||(decide ((o0_.length:Int)≤at_))) then
  ret (false,o0_)
 else
  need (0≤at_∧at_<(o0_.length:Int))<|
  ret (true,(o0_.set (at_.toNat) x_))
noncomputable def Fg (u_:aZ) (a10_:Int) (a11_:Int) (a12_:Int):M Bool:=
 ret (u_.Use.dR==a11_)
noncomputable def tL (s_:(List aZ)) (f0_:Int) (f1_:Int) (f2_:Int) (self1:Int→M Int):Int→M Int:=fun g1=>
 bif (decide (g1<(s_.length:Int))) then
  need (0≤g1∧g1<(s_.length:Int))<|
  bnd (Fg (⟨(s_.getD g1.toNat bY).Device,((s_.getD g1.toNat bY).Use)⟩:aZ) f0_ f1_ f2_) fun v3=>
  bif v3 then
   ret g1
  else
   need (InI64 (g1+(1:Int)))<|
   self1 (g1+(1:Int))
 else
  ret (-1:Int)
noncomputable def mU (s_:(List aZ)) (f0_:Int) (f1_:Int) (f2_:Int):M Int:=
 bT (tL s_ f0_ f1_ f2_) (0:Int)
noncomputable def mV (s_:Nat) (i_:Int) (j_:Int) (o0_:(List aZ)):M (Nat×(List aZ)):=
 need (s_≤o0_.length)<|
 need (0≤i_∧i_≤j_∧j_≤((s_:Nat):Int)∧((s_:Nat):Int)≤((s_:Nat):Int))<|
 bif (i_==j_) then
  ret (s_,o0_)
 else
  need (0≤i_∧((0:Nat):Int)+i_≤(o0_.length:Int))<|
  need (0≤j_∧j_≤((s_:Nat):Int))<|
  need ((0+i_.toNat)+(s_ - j_.toNat)≤o0_.length)<|
  need (0≤(((i_.toNat+(s_ - j_.toNat)):Nat):Int)∧(((i_.toNat+(s_ - j_.toNat)):Nat):Int)≤((s_:Nat):Int)∧((0:Nat):Int)+((s_:Nat):Int)≤(o0_.length:Int))<|
  ret ((i_.toNat+(s_ - j_.toNat)),(Pq (Pq o0_ ((0+i_.toNat)) ((o0_.drop ((0+j_.toNat))).take ((s_ - j_.toNat)))) ((0+(((i_.toNat+(s_ - j_.toNat)):Nat):Int).toNat)) (List.replicate ((((s_:Nat):Int).toNat - (((i_.toNat+(s_ - j_.toNat)):Nat):Int).toNat)) bY)))
noncomputable def nW (w_:nU) (o1_:(List Int)) (o2_:(List Bool)) (o3_:(List Int)) (o5_:(List Bool)) (o6_:(List Bool)):(Nat×(List aZ))→M (Bool×Nat×(List Int)×(List Bool)×(List Int)×(List Bool)×(List Bool)×(List aZ)):=fun g1=>
 need (g1.1≤g1.2.length)<|
 bif (decide ((0:Int)<w_.Value)) then
  need (InI64 (w_.Value - (1:Int)))<|
  need ((g1.1+1)*24≤big)<|
  ret (true,(g1.1+1),o1_,o2_,o3_,o5_,o6_,((g1.2.take (g1.1))++([(⟨(-1:Int),(⟨w_.Unit,(w_.Value - (1:Int))⟩:oW)⟩:aZ)]:List aZ)))
 else
  ret (true,g1.1,o1_,o2_,o3_,o5_,o6_,g1.2)
noncomputable def Di (w_:nU) (o0x0_:(List av)) (o0x1_:(List aj)) (o0x2_:Int) (o0x3_:(List aV)) (o0x4_:(List bV)) (o0x5_:(List bH)) (o0x6_:(List aO)) (o0x7_:(List Int)) (o0x8_:Nat) (o0x9_:Bool) (o1_:(List Int)) (o2_:(List Bool)) (o3_:(List Int)) (o4_:(List aZ)) (o5_:(List Bool)) (o6_:(List Bool)):M (Bool×Nat×(List Int)×(List Bool)×(List Int)×(List Bool)×(List Bool)×(List aZ)):=
 need (o0x8_≤o4_.length)<|
 bif (decide (w_.Value<(0:Int))) then
  ret (false,o0x8_,o1_,o2_,o3_,o5_,o6_,o4_)
 else
  bif (w_.Kind==(1:Int)) then
   bnd (xX w_.Unit w_.Value o1_) fun v1=>
   need (v1.2.length=o1_.length)<|
   ret (v1.1,o0x8_,v1.2,o2_,o3_,o5_,o6_,o4_)
  else
   bif (w_.Kind==(2:Int)) then
    bnd (xX w_.Unit w_.Value o3_) fun v2=>
    need (v2.2.length=o3_.length)<|
    ret (v2.1,o0x8_,o1_,o2_,v2.2,o5_,o6_,o4_)
   else
    bif (w_.Kind==(3:Int)) then
     bif ((decide (w_.Value≤(1:Int)))==true) then
      bnd (o9 w_.Unit (w_.Value==(1:Int)) o2_) fun v3=>
      need (v3.2.length=o2_.length)<|
      ret (((decide (w_.Value≤(1:Int)))&&v3.1),o0x8_,o1_,v3.2,o3_,o5_,o6_,o4_)
     else
      need ((decide (w_.Value≤(1:Int)))=false)<|
      ret (false,o0x8_,o1_,o2_,o3_,o5_,o6_,o4_)
    else
     bif (w_.Kind==(11:Int)) then
      bif ((decide (w_.Value≤(1:Int)))==true) then
       bnd (o9 w_.Unit (w_.Value==(1:Int)) o5_) fun v4=>
       need (v4.2.length=o5_.length)<|
       ret (((decide (w_.Value≤(1:Int)))&&v4.1),o0x8_,o1_,o2_,o3_,v4.2,o6_,o4_)
      else
       need ((decide (w_.Value≤(1:Int)))=false)<|
       ret (false,o0x8_,o1_,o2_,o3_,o5_,o6_,o4_)
     else
      bif (w_.Kind==(12:Int)) then
       bif ((decide (w_.Value≤(1:Int)))==true) then
        bnd (o9 w_.Unit (w_.Value==(1:Int)) o6_) fun v5=>
        need (v5.2.length=o6_.length)<|
        ret (((decide (w_.Value≤(1:Int)))&&v5.1),o0x8_,o1_,o2_,o3_,o5_,v5.2,o4_)
       else
        need ((decide (w_.Value≤(1:Int)))=false)<|
        ret (false,o0x8_,o1_,o2_,o3_,o5_,o6_,o4_)
      else
       bif (w_.Kind==(10:Int)) then
        bnd (jU w_.Unit (0:Int) (23:Int)) fun v6=>
        bif (!v6) then
         ret (false,o0x8_,o1_,o2_,o3_,o5_,o6_,o4_)
        else
         bnd (mU (o4_.take (o0x8_)) w_.Kind w_.Unit w_.Value) fun v9=>
         bif (decide ((0:Int)≤v9)) then
          need (InI64 (v9+(1:Int)))<|
          bnd (mV o0x8_ v9 (v9+(1:Int)) o4_) fun v10=>
          need (v10.2.length=o4_.length∧v10.1≤v10.2.length)<|
          (nW w_ o1_ o2_ o3_ o5_ o6_) (v10.1,v10.2)
         else
          (nW w_ o1_ o2_ o3_ o5_ o6_) (o0x8_,o4_)
       else
        ret (false,o0x8_,o1_,o2_,o3_,o5_,o6_,o4_)
noncomputable def Ke (b_:bF) (l_:(List aO)) (members_:(List Int)) (w_:(List nU)) (self1:(Int×Nat×(List Int)×(List Bool)×(List Int)×(List aZ)×(List Bool)×(List Bool))→M (bX×Int×Int×Int)):(Int×Nat×(List Int)×(List Bool)×(List Int)×(List aZ)×(List Bool)×(List Bool))→M (bX×Int×Int×Int):=fun g1=>
 need (g1.2.1≤g1.2.2.2.2.2.1.length)<|
 bif (decide (g1.1<(w_.length:Int))) then
  need (0≤g1.1∧g1.1<(w_.length:Int))<|
  bnd (Di (w_.getD g1.1.toNat dWrite) b_.bO b_.bC b_.bD.bI b_.bD.Groups b_.Resets b_.bS l_ members_ g1.2.1 true g1.2.2.1 g1.2.2.2.1 g1.2.2.2.2.1 g1.2.2.2.2.2.1 g1.2.2.2.2.2.2.1 g1.2.2.2.2.2.2.2) fun v9=>
  need (v9.2.2.1.length=g1.2.2.1.length∧v9.2.2.2.1.length=g1.2.2.2.1.length∧v9.2.2.2.2.1.length=g1.2.2.2.2.1.length∧v9.2.2.2.2.2.1.length=g1.2.2.2.2.2.2.1.length∧v9.2.2.2.2.2.2.1.length=g1.2.2.2.2.2.2.2.length∧v9.2.1≤v9.2.2.2.2.2.2.2.length)<|
  bif (!v9.1) then
   ret ((⟨([]:List Int),(⟨([]:List Bool),([]:List Int)⟩:bE),([]:List aZ),([]:List Bool),([]:List Bool)⟩:bX),(0:Int),(0:Int),(2:Int))
  else
   bnd (gY (⟨b_,l_,members_,(⟨v9.2.2.1,(⟨v9.2.2.2.1,v9.2.2.2.2.1⟩:bE),(v9.2.2.2.2.2.2.2.take (v9.2.1)),v9.2.2.2.2.2.1,v9.2.2.2.2.2.2.1⟩:bX),true⟩:dP)) fun v10=>
   bif (v10 != (0:Int)) then
    ret ((⟨v9.2.2.1,(⟨v9.2.2.2.1,v9.2.2.2.2.1⟩:bE),(v9.2.2.2.2.2.2.2.take (v9.2.1)),v9.2.2.2.2.2.1,v9.2.2.2.2.2.2.1⟩:bX),g1.1,v10,(0:Int))
   else
    need (InI64 (g1.1+(1:Int)))<|
    self1 ((g1.1+(1:Int)),v9.2.1,v9.2.2.1,v9.2.2.2.1,v9.2.2.2.2.1,v9.2.2.2.2.2.2.2,v9.2.2.2.2.2.1,v9.2.2.2.2.2.2.1)
 else
  ret ((⟨g1.2.2.1,(⟨g1.2.2.2.1,g1.2.2.2.2.1⟩:bE),(g1.2.2.2.2.2.1.take (g1.2.1)),g1.2.2.2.2.2.2.1,g1.2.2.2.2.2.2.2⟩:bX),(w_.length:Int),(0:Int),(0:Int))
noncomputable def J3 (b_:bF) (l_:(List aO)) (members_:(List Int)) (g_:bX) (w_:(List nU)):M (bX×Int×Int×Int):=
 bnd (qO b_ l_) fun v1=>
 bif (v1 != (0:Int)) then
  ret ((⟨([]:List Int),(⟨([]:List Bool),([]:List Int)⟩:bE),([]:List aZ),([]:List Bool),([]:List Bool)⟩:bX),(0:Int),(0:Int),v1)
 else
  bnd (kI l_ members_) fun v2=>
  bif (!v2) then
   ret ((⟨([]:List Int),(⟨([]:List Bool),([]:List Int)⟩:bE),([]:List aZ),([]:List Bool),([]:List Bool)⟩:bX),(0:Int),(0:Int),(2:Int))
  else
   bnd (Om g_) fun v3=>
   bnd (gY (⟨b_,l_,members_,(⟨v3.1,(⟨v3.2.1,v3.2.2.1⟩:bE),v3.2.2.2.1,v3.2.2.2.2.1,v3.2.2.2.2.2⟩:bX),true⟩:dP)) fun v4=>
   bif (v4 != (0:Int)) then
    ret ((⟨v3.1,(⟨v3.2.1,v3.2.2.1⟩:bE),v3.2.2.2.1,v3.2.2.2.2.1,v3.2.2.2.2.2⟩:bX),(-1:Int),v4,(0:Int))
   else
    bT (Ke b_ l_ members_ w_) ((0:Int),v3.2.2.2.1.length,v3.1,v3.2.1,v3.2.2.1,v3.2.2.2.1,v3.2.2.2.2.1,v3.2.2.2.2.2)
noncomputable def dN (b_:bF) (l_:(List aO)) (members_:(List Int)) (g_:bX) (between_:Bool):M Int:=
 bnd (qO b_ l_) fun v1=>
 bif (v1 != (0:Int)) then
  ret (1:Int)
 else
  bnd (gY (⟨b_,l_,members_,g_,between_⟩:dP)) fun v2=>
  ret v2
noncomputable def Fh (g1:((List aO)×(List Bool)×(List aZ))) (g2:((List aZ)×(List aZ))):((List aO)×(List Bool))→M Bool:=fun g3=>
 bnd (fG) fun v1=>
 bnd (J3 v1 g3.1 ([(0:Int)]:List Int) (⟨([]:List Int),(⟨([]:List Bool),([]:List Int)⟩:bE),g2.1,g1.2.1,([]:List Bool)⟩:bX) ([(⟨(11:Int),(1:Int),(1:Int)⟩:nU),(⟨(10:Int),(0:Int),(0:Int)⟩:nU)]:List nU)) fun v2=>
 bnd (fG) fun v3=>
 bnd (sF v3) fun v4=>
 bif ((v4==(0:Int))==true) then
  bnd (fG) fun v5=>
  bnd (grd ((v4==(0:Int))=true) (qO v5 g3.1)) fun v6=>
  bif (((v4==(0:Int))&&(v6==(0:Int)))==true) then
   bnd (fG) fun v7=>
   bif (((v4==(0:Int))&&(v6==(0:Int)))==true) then
    bnd (grd (((v4==(0:Int))&&(v6==(0:Int)))=true) (dN v7 g3.1 ([(0:Int)]:List Int) (⟨([]:List Int),(⟨([]:List Bool),([]:List Int)⟩:bE),g2.1,g1.2.1,([]:List Bool)⟩:bX) false)) fun v8=>
    bif ((((v4==(0:Int))&&(v6==(0:Int)))&&(v8==(0:Int)))==true) then
     bnd (fG) fun v9=>
     bnd (grd ((((v4==(0:Int))&&(v6==(0:Int)))&&(v8==(0:Int)))=true) (dN v9 g3.1 ([]:List Int) (⟨([]:List Int),(⟨([]:List Bool),([]:List Int)⟩:bE),g2.2,g3.2,([]:List Bool)⟩:bX) false)) fun v10=>
     ret (((((((v4==(0:Int))&&(v6==(0:Int)))&&(v8==(0:Int)))&&(v10==(7:Int)))&&(v2.2.2.2==(0:Int)))&&(v2.2.1==(1:Int)))&&(v2.2.2.1==(6:Int)))
    else
     ret (((((((v4==(0:Int))&&(v6==(0:Int)))&&(v8==(0:Int)))&&((0:Int)==(7:Int)))&&(v2.2.2.2==(0:Int)))&&(v2.2.1==(1:Int)))&&(v2.2.2.1==(6:Int)))
   else
    bif ((((v4==(0:Int))&&(v6==(0:Int)))&&((0:Int)==(0:Int)))==true) then
     bnd (fG) fun v11=>
     bnd (grd ((((v4==(0:Int))&&(v6==(0:Int)))&&((0:Int)==(0:Int)))=true) (dN v11 g3.1 ([]:List Int) (⟨([]:List Int),(⟨([]:List Bool),([]:List Int)⟩:bE),g2.2,g3.2,([]:List Bool)⟩:bX) false)) fun v12=>
     ret (((((((v4==(0:Int))&&(v6==(0:Int)))&&((0:Int)==(0:Int)))&&(v12==(7:Int)))&&(v2.2.2.2==(0:Int)))&&(v2.2.1==(1:Int)))&&(v2.2.2.1==(6:Int)))
    else
     ret (((((((v4==(0:Int))&&(v6==(0:Int)))&&((0:Int)==(0:Int)))&&((0:Int)==(7:Int)))&&(v2.2.2.2==(0:Int)))&&(v2.2.1==(1:Int)))&&(v2.2.2.1==(6:Int)))
  else
   bif (((v4==(0:Int))&&(v6==(0:Int)))==true) then
    bif ((((v4==(0:Int))&&(v6==(0:Int)))&&((0:Int)==(0:Int)))==true) then
     bnd (fG) fun v13=>
     bnd (grd ((((v4==(0:Int))&&(v6==(0:Int)))&&((0:Int)==(0:Int)))=true) (dN v13 g3.1 ([]:List Int) (⟨([]:List Int),(⟨([]:List Bool),([]:List Int)⟩:bE),g2.2,g3.2,([]:List Bool)⟩:bX) false)) fun v14=>
     ret (((((((v4==(0:Int))&&(v6==(0:Int)))&&((0:Int)==(0:Int)))&&(v14==(7:Int)))&&(v2.2.2.2==(0:Int)))&&(v2.2.1==(1:Int)))&&(v2.2.2.1==(6:Int)))
    else
     ret (((((((v4==(0:Int))&&(v6==(0:Int)))&&((0:Int)==(0:Int)))&&((0:Int)==(7:Int)))&&(v2.2.2.2==(0:Int)))&&(v2.2.1==(1:Int)))&&(v2.2.2.1==(6:Int)))
   else
    bif ((((v4==(0:Int))&&(v6==(0:Int)))&&((0:Int)==(0:Int)))==true) then
     bnd (fG) fun v15=>
     bnd (grd ((((v4==(0:Int))&&(v6==(0:Int)))&&((0:Int)==(0:Int)))=true) (dN v15 g3.1 ([]:List Int) (⟨([]:List Int),(⟨([]:List Bool),([]:List Int)⟩:bE),g2.2,g3.2,([]:List Bool)⟩:bX) false)) fun v16=>
     ret (((((((v4==(0:Int))&&(v6==(0:Int)))&&((0:Int)==(0:Int)))&&(v16==(7:Int)))&&(v2.2.2.2==(0:Int)))&&(v2.2.1==(1:Int)))&&(v2.2.2.1==(6:Int)))
    else
     ret (((((((v4==(0:Int))&&(v6==(0:Int)))&&((0:Int)==(0:Int)))&&((0:Int)==(7:Int)))&&(v2.2.2.2==(0:Int)))&&(v2.2.1==(1:Int)))&&(v2.2.2.1==(6:Int)))
 else
  bif (((v4==(0:Int))&&((0:Int)==(0:Int)))==true) then
   bnd (fG) fun v17=>
   bif (((v4==(0:Int))&&((0:Int)==(0:Int)))==true) then
    bnd (grd (((v4==(0:Int))&&((0:Int)==(0:Int)))=true) (dN v17 g3.1 ([(0:Int)]:List Int) (⟨([]:List Int),(⟨([]:List Bool),([]:List Int)⟩:bE),g2.1,g1.2.1,([]:List Bool)⟩:bX) false)) fun v18=>
    bif ((((v4==(0:Int))&&((0:Int)==(0:Int)))&&(v18==(0:Int)))==true) then
     bnd (fG) fun v19=>
     bnd (grd ((((v4==(0:Int))&&((0:Int)==(0:Int)))&&(v18==(0:Int)))=true) (dN v19 g3.1 ([]:List Int) (⟨([]:List Int),(⟨([]:List Bool),([]:List Int)⟩:bE),g2.2,g3.2,([]:List Bool)⟩:bX) false)) fun v20=>
     ret (((((((v4==(0:Int))&&((0:Int)==(0:Int)))&&(v18==(0:Int)))&&(v20==(7:Int)))&&(v2.2.2.2==(0:Int)))&&(v2.2.1==(1:Int)))&&(v2.2.2.1==(6:Int)))
    else
     ret (((((((v4==(0:Int))&&((0:Int)==(0:Int)))&&(v18==(0:Int)))&&((0:Int)==(7:Int)))&&(v2.2.2.2==(0:Int)))&&(v2.2.1==(1:Int)))&&(v2.2.2.1==(6:Int)))
   else
    bif ((((v4==(0:Int))&&((0:Int)==(0:Int)))&&((0:Int)==(0:Int)))==true) then
     bnd (fG) fun v21=>
     bnd (grd ((((v4==(0:Int))&&((0:Int)==(0:Int)))&&((0:Int)==(0:Int)))=true) (dN v21 g3.1 ([]:List Int) (⟨([]:List Int),(⟨([]:List Bool),([]:List Int)⟩:bE),g2.2,g3.2,([]:List Bool)⟩:bX) false)) fun v22=>
     ret (((((((v4==(0:Int))&&((0:Int)==(0:Int)))&&((0:Int)==(0:Int)))&&(v22==(7:Int)))&&(v2.2.2.2==(0:Int)))&&(v2.2.1==(1:Int)))&&(v2.2.2.1==(6:Int)))
    else
     ret (((((((v4==(0:Int))&&((0:Int)==(0:Int)))&&((0:Int)==(0:Int)))&&((0:Int)==(7:Int)))&&(v2.2.2.2==(0:Int)))&&(v2.2.1==(1:Int)))&&(v2.2.2.1==(6:Int)))
  else
   bif (((v4==(0:Int))&&((0:Int)==(0:Int)))==true) then
    bif ((((v4==(0:Int))&&((0:Int)==(0:Int)))&&((0:Int)==(0:Int)))==true) then
     bnd (fG) fun v23=>
     bnd (grd ((((v4==(0:Int))&&((0:Int)==(0:Int)))&&((0:Int)==(0:Int)))=true) (dN v23 g3.1 ([]:List Int) (⟨([]:List Int),(⟨([]:List Bool),([]:List Int)⟩:bE),g2.2,g3.2,([]:List Bool)⟩:bX) false)) fun v24=>
     ret (((((((v4==(0:Int))&&((0:Int)==(0:Int)))&&((0:Int)==(0:Int)))&&(v24==(7:Int)))&&(v2.2.2.2==(0:Int)))&&(v2.2.1==(1:Int)))&&(v2.2.2.1==(6:Int)))
    else
     ret (((((((v4==(0:Int))&&((0:Int)==(0:Int)))&&((0:Int)==(0:Int)))&&((0:Int)==(7:Int)))&&(v2.2.2.2==(0:Int)))&&(v2.2.1==(1:Int)))&&(v2.2.2.1==(6:Int)))
   else
    bif ((((v4==(0:Int))&&((0:Int)==(0:Int)))&&((0:Int)==(0:Int)))==true) then
     bnd (fG) fun v25=>
     bnd (grd ((((v4==(0:Int))&&((0:Int)==(0:Int)))&&((0:Int)==(0:Int)))=true) (dN v25 g3.1 ([]:List Int) (⟨([]:List Int),(⟨([]:List Bool),([]:List Int)⟩:bE),g2.2,g3.2,([]:List Bool)⟩:bX) false)) fun v26=>
     ret (((((((v4==(0:Int))&&((0:Int)==(0:Int)))&&((0:Int)==(0:Int)))&&(v26==(7:Int)))&&(v2.2.2.2==(0:Int)))&&(v2.2.1==(1:Int)))&&(v2.2.2.1==(6:Int)))
    else
     ret (((((((v4==(0:Int))&&((0:Int)==(0:Int)))&&((0:Int)==(0:Int)))&&((0:Int)==(7:Int)))&&(v2.2.2.2==(0:Int)))&&(v2.2.1==(1:Int)))&&(v2.2.2.1==(6:Int)))
noncomputable def Fj (g1:((List aO)×(List Bool)×(List aZ))):((List aZ)×(List aZ))→M Bool:=fun g2=>
 (Fh g1 g2) (g1.1,([false,true]:List Bool))
noncomputable def Fp:((List aO)×(List Bool)×(List aZ))→M Bool:=fun g1=>
 (Fj g1) (g1.2.2,g1.2.2)
noncomputable def qQ:M Bool:=
 Fp (([(⟨([]:List bn),([]:List aI),([({ data:=#[117,97,114,116] }:ByteArray)]:List ByteArray),([]:List Int),(-1:Int),([]:List Int)⟩:aO)]:List aO),([true,false]:List Bool),([(⟨(0:Int),(⟨(0:Int),(0:Int)⟩:oW)⟩:aZ)]:List aZ))
noncomputable def Er (l_:(List Int)):M ((List Int)×Int):=
 need (0≤(if (600:Int)<(l_.length:Int) then (600:Int) else (l_.length:Int))∧(if (600:Int)<(l_.length:Int) then (600:Int) else (l_.length:Int))≤(l_.length:Int))<|
 ret ((l_.take ((if (600:Int)<(l_.length:Int) then (600:Int) else (l_.length:Int)).toNat)),(0:Int))
noncomputable def Es (x_:Int) (n_:Int):M Int:=
 bif (decide (n_<(1:Int))) then
  ret (0:Int)
 else
  need (n_≠0)<|
  need (InI64 ((x_.tmod n_)+n_))<|
  need (n_≠0)<|
  ret (((x_.tmod n_)+n_).tmod n_)
noncomputable def bM (n_:Int) (o0_:bq):M (Int×bq):=
 bif (decide ((o0_.L.length:Int)≤o0_.At)) then
  ret ((0:Int),o0_)
 else
  need (InI64 (o0_.At+(1:Int)))<|
  need (InI64 ((o0_.At+(1:Int)) - (1:Int)))<|
  need (0≤((o0_.At+(1:Int)) - (1:Int))∧((o0_.At+(1:Int)) - (1:Int))<(o0_.L.length:Int))<|
  bnd (Es (o0_.L.getD (((o0_.At+(1:Int)) - (1:Int)).toNat) 0) n_) fun v1=>
  ret (v1,(⟨o0_.L,(o0_.At+(1:Int))⟩:bq))
noncomputable def dQ (l_:(List Int)) (o0_:bq):M (Int×bq):=
 bnd (bM (l_.length:Int) o0_) fun v1=>
 need (0≤v1.1∧v1.1<(l_.length:Int))<|
 ret ((l_.getD v1.1.toNat 0),v1.2)
noncomputable def bN (g1:(Int×(List Int)×Int×(List av))) (self1:(Int×(List Int)×Int×(List av))→M ((List av)×bq)):((List Int)×Int×Int×Int×(List Int)×(List Int))→M ((List av)×bq):=fun g7=>
 need ((g1.2.2.2.length+1)*72≤big)<|
 need (InI64 (g1.1 - (1:Int)))<|
 self1 ((g1.1 - (1:Int)),g7.1,g7.2.1,(g1.2.2.2++([(⟨g7.2.2.1,g7.2.2.2.2.1,g7.2.2.2.2.2,(0:Int),g7.2.2.2.1⟩:av)]:List av)))
noncomputable def dB (g1:(Int×(List Int)×Int×(List av))) (self1:(Int×(List Int)×Int×(List av))→M ((List av)×bq)):((List Int)×Int×Int×(List Int)×(List Int))→M ((List av)×bq):=fun g8=>
 bnd (bM (6:Int) (⟨g8.1,g8.2.1⟩:bq)) fun v47=>
 bif (v47.1==(5:Int)) then
  bnd (dQ ([(24:Int),(48:Int),(96:Int)]:List Int) v47.2) fun v48=>
  (bN g1 self1) (v48.2.L,v48.2.At,g8.2.2.1,v48.1,g8.2.2.2.1,g8.2.2.2.2)
 else
  (bN g1 self1) (v47.2.L,v47.2.At,g8.2.2.1,(0:Int),g8.2.2.2.1,g8.2.2.2.2)
noncomputable def uF (self1:(Int×(List Int)×Int×(List av))→M ((List av)×bq)):(Int×(List Int)×Int×(List av))→M ((List av)×bq):=fun g1=>
 bif (decide ((0:Int)<g1.1)) then
  bnd (dQ ([(12:Int),(24:Int),(48:Int),(100:Int)]:List Int) (⟨g1.2.1,g1.2.2.1⟩:bq)) fun v28=>
  bif ((decide ((0:Int)<(g1.2.2.2.length:Int)))==true) then
   bnd (bM (4:Int) v28.2) fun v41=>
   bif ((decide ((0:Int)<(g1.2.2.2.length:Int)))&&(decide ((0:Int)<v41.1))) then
    bnd (bM (g1.2.2.2.length:Int) v41.2) fun v42=>
    bnd (bM (4:Int) v42.2) fun v49=>
    bif (v49.1==(0:Int)) then
     bnd (dQ ([(3:Int),(4:Int),(8:Int)]:List Int) v49.2) fun v50=>
     (dB g1 self1) (v50.2.L,v50.2.At,(2:Int),([v42.1]:List Int),([(1:Int),(2:Int),v50.1]:List Int))
    else
     bif (v49.1==(1:Int)) then
      bnd (dQ ([(2:Int),(3:Int)]:List Int) v49.2) fun v51=>
      (dB g1 self1) (v51.2.L,v51.2.At,(3:Int),([v42.1]:List Int),([(1:Int),v51.1]:List Int))
     else
      bif (v49.1==(2:Int)) then
       (dB g1 self1) (v49.2.L,v49.2.At,(5:Int),([v42.1]:List Int),([(0:Int),(1:Int)]:List Int))
      else
       bif (decide ((1:Int)<(g1.2.2.2.length:Int))) then
        need (InI64 ((g1.2.2.2.length:Int) - (1:Int)))<|
        bnd (bM ((g1.2.2.2.length:Int) - (1:Int)) v49.2) fun v52=>
        need (InI64 (v52.1+(1:Int)))<|
        (dB g1 self1) (v52.2.L,v52.2.At,(4:Int),([v52.1,(v52.1+(1:Int))]:List Int),([(0:Int),(1:Int)]:List Int))
       else
        (dB g1 self1) (v49.2.L,v49.2.At,(2:Int),([v42.1]:List Int),([(2:Int),(1:Int)]:List Int))
   else
    (bN g1 self1) (v41.2.L,v41.2.At,(1:Int),(0:Int),([]:List Int),([v28.1]:List Int))
  else
   need ((decide ((0:Int)<(g1.2.2.2.length:Int)))=false)<|
   (bN g1 self1) (v28.2.L,v28.2.At,(1:Int),(0:Int),([]:List Int),([v28.1]:List Int))
 else
  ret (g1.2.2.2,(⟨g1.2.1,g1.2.2.1⟩:bq))
noncomputable def mh (o0_:bq):M ((List av)×bq):=
 bnd (bM (6:Int) o0_) fun v1=>
 bT uF (v1.1,v1.2.L,v1.2.At,([]:List av))
noncomputable def gL (lo_:Int) (hi_:Int) (o0_:bq):M (Int×bq):=
 need (InI64 (hi_ - lo_))<|
 need (InI64 ((hi_ - lo_)+(1:Int)))<|
 bnd (bM ((hi_ - lo_)+(1:Int)) o0_) fun v1=>
 need (InI64 (lo_+v1.1))<|
 ret ((lo_+v1.1),v1.2)
noncomputable def gP (g1:(Int×(List Int)×Int×(List aj))) (self1:(Int×(List Int)×Int×(List aj))→M ((List aj)×bq)) (v12:(Int×bq)) (v14:(Int×bq)) (v15:(Int×bq)):Int→M ((List aj)×bq):=fun g4=>
 bnd (bM (5:Int) v15.2) fun v16=>
 need (0≤v16.1∧v16.1<((5:Nat):Int))<|
 bif (v16.1==(0:Int)) then
  need ((g1.2.2.2.length+1)*56≤big)<|
  need (InI64 (g1.1 - (1:Int)))<|
  self1 ((g1.1 - (1:Int)),v16.2.L,v16.2.At,(g1.2.2.2++([(⟨v12.1,([(1000:Int),(1200:Int)]:List Int),g4,v14.1,(v15.1==(7:Int))⟩:aj)]:List aj)))
 else
  bif (v16.1==(1:Int)) then
   need ((g1.2.2.2.length+1)*56≤big)<|
   need (InI64 (g1.1 - (1:Int)))<|
   self1 ((g1.1 - (1:Int)),v16.2.L,v16.2.At,(g1.2.2.2++([(⟨v12.1,([(1800:Int),(3300:Int)]:List Int),g4,v14.1,(v15.1==(7:Int))⟩:aj)]:List aj)))
  else
   bif (v16.1==(2:Int)) then
    need ((g1.2.2.2.length+1)*56≤big)<|
    need (InI64 (g1.1 - (1:Int)))<|
    self1 ((g1.1 - (1:Int)),v16.2.L,v16.2.At,(g1.2.2.2++([(⟨v12.1,([(1000:Int),(1800:Int),(3300:Int)]:List Int),g4,v14.1,(v15.1==(7:Int))⟩:aj)]:List aj)))
   else
    bif (v16.1==(3:Int)) then
     need ((g1.2.2.2.length+1)*56≤big)<|
     need (InI64 (g1.1 - (1:Int)))<|
     self1 ((g1.1 - (1:Int)),v16.2.L,v16.2.At,(g1.2.2.2++([(⟨v12.1,([(3300:Int),(5000:Int)]:List Int),g4,v14.1,(v15.1==(7:Int))⟩:aj)]:List aj)))
    else
     need ((g1.2.2.2.length+1)*56≤big)<|
     need (InI64 (g1.1 - (1:Int)))<|
     self1 ((g1.1 - (1:Int)),v16.2.L,v16.2.At,(g1.2.2.2++([(⟨v12.1,([(900:Int)]:List Int),g4,v14.1,(v15.1==(7:Int))⟩:aj)]:List aj)))
noncomputable def qA (self1:(Int×(List Int)×Int×(List aj))→M ((List aj)×bq)):(Int×(List Int)×Int×(List aj))→M ((List aj)×bq):=fun g1=>
 bif (decide ((0:Int)<g1.1)) then
  need (InI64 ((g1.2.2.2.length:Int) - (1:Int)))<|
  bnd (gL (-1:Int) ((g1.2.2.2.length:Int) - (1:Int)) (⟨g1.2.1,g1.2.2.1⟩:bq)) fun v12=>
  bnd (dQ ([(0:Int),(0:Int),(100:Int),(300:Int)]:List Int) v12.2) fun v13=>
  bnd (dQ ([(100:Int),(300:Int),(1000:Int)]:List Int) v13.2) fun v14=>
  bnd (bM (8:Int) v14.2) fun v15=>
  bif (decide (v12.1<(0:Int))) then
   (gP g1 self1 v12 v14 v15) (0:Int)
  else
   (gP g1 self1 v12 v14 v15) v13.1
 else
  ret (g1.2.2.2,(⟨g1.2.1,g1.2.2.1⟩:bq))
noncomputable def kC (o0_:bq):M ((List aj)×bq):=
 bnd (bM (4:Int) o0_) fun v1=>
 bT qA (v1.1,v1.2.L,v1.2.At,([]:List aj))
noncomputable def j4:M (List ByteArray):=
 ret ([({ data:=#[117,97,114,116] }:ByteArray),({ data:=#[115,112,105] }:ByteArray),({ data:=#[105,50,99] }:ByteArray),({ data:=#[112,119,109] }:ByteArray)]:List ByteArray)
noncomputable def eZ (g1:(Int×(List Int)×Int×(List aV))) (self1:(Int×(List Int)×Int×(List aV))→M (aR×bq)) (g13:(List Int)):((List Int)×Int×(List ByteArray))→M (aR×bq):=fun g14=>
 need ((g1.2.2.2.length+1)*64≤big)<|
 need (InI64 (g1.1 - (1:Int)))<|
 self1 ((g1.1 - (1:Int)),g14.1,g14.2.1,(g1.2.2.2++([(⟨(({ data:=#[103] }:ByteArray)++(strOf ([(IntKind.u8.wrap ((97:Int)+(g1.2.2.2.length:Int)))]:List Int))),g13,g14.2.2⟩:aV)]:List aV)))
noncomputable def iD (g1:(Int×(List Int)×Int×(List aV))) (self1:(Int×(List Int)×Int×(List aV))→M (aR×bq)) (v38:(Int×bq)):(List Int)→M (aR×bq):=fun g13=>
 bnd (bM (4:Int) v38.2) fun v39=>
 bnd (j4) fun v40=>
 need (0≤v39.1∧v39.1<(v40.length:Int))<|
 bnd (bM (2:Int) v39.2) fun v43=>
 bif (v43.1==(1:Int)) then
  bnd (j4) fun v44=>
  need (InI64 (v39.1+(1:Int)))<|
  need ((4:Int)≠0)<|
  need (0≤((v39.1+(1:Int)).tmod (4:Int))∧((v39.1+(1:Int)).tmod (4:Int))<(v44.length:Int))<|
  need ((1+1)*16≤big)<|
  (eZ g1 self1 g13) (v43.2.L,v43.2.At,(([(v40.getD v39.1.toNat ByteArray.empty)]:List ByteArray)++([(v44.getD (((v39.1+(1:Int)).tmod (4:Int)).toNat) ByteArray.empty)]:List ByteArray)))
 else
  (eZ g1 self1 g13) (v43.2.L,v43.2.At,([(v40.getD v39.1.toNat ByteArray.empty)]:List ByteArray))
noncomputable def eD (g1:(Int×(List Int)×Int×(List aV))) (self1:(Int×(List Int)×Int×(List aV))→M (aR×bq)) (g15:(List Int)):((List Int)×Int×(List ByteArray))→M (aR×bq):=fun g16=>
 need ((g1.2.2.2.length+1)*64≤big)<|
 need (InI64 (g1.1 - (1:Int)))<|
 self1 ((g1.1 - (1:Int)),g16.1,g16.2.1,(g1.2.2.2++([(⟨(({ data:=#[103] }:ByteArray)++(strOf ([(IntKind.u8.wrap ((97:Int)+(g1.2.2.2.length:Int)))]:List Int))),g15,g16.2.2⟩:aV)]:List aV)))
noncomputable def gD (g1:(Int×(List Int)×Int×(List aV))) (self1:(Int×(List Int)×Int×(List aV))→M (aR×bq)) (g12:(Int×(List Int)×Int×(List Int))):(List Int)→M (aR×bq):=fun g15=>
 bnd (bM (4:Int) (⟨g12.2.1,g12.2.2.1⟩:bq)) fun v45=>
 bnd (j4) fun v46=>
 need (0≤v45.1∧v45.1<(v46.length:Int))<|
 bnd (bM (2:Int) v45.2) fun v49=>
 bif (v49.1==(1:Int)) then
  bnd (j4) fun v50=>
  need (InI64 (v45.1+(1:Int)))<|
  need ((4:Int)≠0)<|
  need (0≤((v45.1+(1:Int)).tmod (4:Int))∧((v45.1+(1:Int)).tmod (4:Int))<(v50.length:Int))<|
  need ((1+1)*16≤big)<|
  (eD g1 self1 g15) (v49.2.L,v49.2.At,(([(v46.getD v45.1.toNat ByteArray.empty)]:List ByteArray)++([(v50.getD (((v45.1+(1:Int)).tmod (4:Int)).toNat) ByteArray.empty)]:List ByteArray)))
 else
  (eD g1 self1 g15) (v49.2.L,v49.2.At,([(v46.getD v45.1.toNat ByteArray.empty)]:List ByteArray))
noncomputable def uG (v1:(Int×bq)) (g1:(Int×(List Int)×Int×(List aV))) (self1:(Int×(List Int)×Int×(List aV))→M (aR×bq)) (v35:(Int×bq)) (self12:(Int×(List Int)×Int×(List Int))→M (aR×bq)):(Int×(List Int)×Int×(List Int))→M (aR×bq):=fun g12=>
 bif ((decide (g12.1<v1.1))==true) then
  bnd (gL (1:Int) (2:Int) (⟨g12.2.1,g12.2.2.1⟩:bq)) fun v38=>
  need ((decide (g12.1<v1.1))=true→InI64 (v35.1+v38.1))<|
  bif ((decide (g12.1<v1.1))&&(decide (g12.1<(v35.1+v38.1)))) then
   need ((g12.2.2.2.length+1)*8≤big)<|
   need (InI64 (g12.1+(1:Int)))<|
   self12 ((g12.1+(1:Int)),v38.2.L,v38.2.At,(g12.2.2.2++([g12.1]:List Int)))
  else
   bif ((g12.2.2.2.length:Int)==(0:Int)) then
    (iD g1 self1 v38) ([v35.1]:List Int)
   else
    (iD g1 self1 v38) g12.2.2.2
 else
  need ((decide (g12.1<v1.1))=false)<|
  bif ((g12.2.2.2.length:Int)==(0:Int)) then
   (gD g1 self1 g12) ([v35.1]:List Int)
  else
   (gD g1 self1 g12) g12.2.2.2
noncomputable def uH (v1:(Int×bq)) (self1:(Int×(List Int)×Int×(List aV))→M (aR×bq)):(Int×(List Int)×Int×(List aV))→M (aR×bq):=fun g1=>
 bif (decide ((0:Int)<g1.1)) then
  need (InI64 ((97:Int)+(g1.2.2.2.length:Int)))<|
  need (({ data:=#[103] }:ByteArray).size+(strOf ([(IntKind.u8.wrap ((97:Int)+(g1.2.2.2.length:Int)))]:List Int)).size≤9223372036854775807)<|
  bnd (bM v1.1 (⟨g1.2.1,g1.2.2.1⟩:bq)) fun v35=>
  bT (uG v1 g1 self1 v35) (v35.1,v35.2.L,v35.2.At,([]:List Int))
 else
  ret ((⟨v1.1,g1.2.2.2⟩:aR),(⟨g1.2.1,g1.2.2.1⟩:bq))
noncomputable def mo (o0_:bq):M (aR×bq):=
 bnd (gL (3:Int) (9:Int) o0_) fun v1=>
 bnd (bM (6:Int) v1.2) fun v2=>
 bT (uH v1) (v2.1,v2.2.L,v2.2.At,([]:List aV))
noncomputable def pq (n_:Int) (k_:Int) (self1:(Int×(List Int)×Int×(List Int))→M ((List Int)×bq)):(Int×(List Int)×Int×(List Int))→M ((List Int)×bq):=fun g1=>
 bif (decide (g1.1<n_)) then
  bnd (bM k_ (⟨g1.2.1,g1.2.2.1⟩:bq)) fun v3=>
  need (InI64 (k_ - (1:Int)))<|
  bif (v3.1==(k_ - (1:Int))) then
   need ((g1.2.2.2.length+1)*8≤big)<|
   need (InI64 (g1.1+(1:Int)))<|
   self1 ((g1.1+(1:Int)),v3.2.L,v3.2.At,(g1.2.2.2++([g1.1]:List Int)))
  else
   need (InI64 (g1.1+(1:Int)))<|
   self1 ((g1.1+(1:Int)),v3.2.L,v3.2.At,g1.2.2.2)
 else
  ret (g1.2.2.2,(⟨g1.2.1,g1.2.2.1⟩:bq))
noncomputable def iE (n_:Int) (k_:Int) (o0_:bq):M ((List Int)×bq):=
 bT (pq n_ k_) ((0:Int),o0_.L,o0_.At,([]:List Int))
noncomputable def uI (self1:(Int×(List Int)×Int×(List bV))→M ((List bV)×bq)):(Int×(List Int)×Int×(List bV))→M ((List bV)×bq):=fun g1=>
 bif (decide ((0:Int)<g1.1)) then
  bnd (iE (g1.2.2.2.length:Int) (3:Int) (⟨g1.2.1,g1.2.2.1⟩:bq)) fun v4=>
  need ((g1.2.2.2.length+1)*24≤big)<|
  need (InI64 (g1.1 - (1:Int)))<|
  self1 ((g1.1 - (1:Int)),v4.2.L,v4.2.At,(g1.2.2.2++([(⟨v4.1⟩:bV)]:List bV)))
 else
  ret (g1.2.2.2,(⟨g1.2.1,g1.2.2.1⟩:bq))
noncomputable def mq (most_:Int) (o0_:bq):M ((List bV)×bq):=
 need (InI64 (most_+(1:Int)))<|
 bnd (bM (most_+(1:Int)) o0_) fun v1=>
 bT uI (v1.1,v1.2.L,v1.2.At,([]:List bV))
noncomputable def sJ (self1:(Int×(List Int)×Int×(List bH))→M ((List bH)×bq)):(Int×(List Int)×Int×(List bH))→M ((List bH)×bq):=fun g1=>
 bif (decide ((0:Int)<g1.1)) then
  need (InI64 ((g1.2.2.2.length:Int) - (1:Int)))<|
  bnd (gL (-1:Int) ((g1.2.2.2.length:Int) - (1:Int)) (⟨g1.2.1,g1.2.2.1⟩:bq)) fun v6=>
  bnd (bM (8:Int) v6.2) fun v7=>
  need ((g1.2.2.2.length+1)*16≤big)<|
  need (InI64 (g1.1 - (1:Int)))<|
  self1 ((g1.1 - (1:Int)),v7.2.L,v7.2.At,(g1.2.2.2++([(⟨v6.1,(v7.1==(7:Int))⟩:bH)]:List bH)))
 else
  ret (g1.2.2.2,(⟨g1.2.1,g1.2.2.1⟩:bq))
noncomputable def kX (most_:Int) (o0_:bq):M ((List bH)×bq):=
 need (InI64 (most_+(1:Int)))<|
 bnd (bM (most_+(1:Int)) o0_) fun v1=>
 bT sJ (v1.1,v1.2.L,v1.2.At,([]:List bH))
noncomputable def nL (o0_:bq):M (bF×bq):=
 bnd (mh o0_) fun v1=>
 bnd (kC v1.2) fun v2=>
 bnd (mo v2.2) fun v3=>
 bnd (mq (4:Int) v3.2) fun v4=>
 bnd (kX (4:Int) v4.2) fun v5=>
 ret ((⟨v1.1,v2.1,v3.1,v4.1,v5.1⟩:bF),v5.2)
noncomputable def nM (b_:bF) (o0_:bq):M (bn×bq):=
 bnd (bM (b_.bO.length:Int) o0_) fun v1=>
 bnd (dQ ([(0:Int),(0:Int),(6:Int),(12:Int),(24:Int)]:List Int) v1.2) fun v2=>
 bnd (dQ ([(24:Int),(48:Int),(100:Int),(300:Int)]:List Int) v2.2) fun v3=>
 ret ((⟨v1.1,v2.1,v3.1⟩:bn),v3.2)
noncomputable def pz (b_:bF) (o0_:bq):M (aI×bq):=
 bnd (bM (b_.bC.length:Int) o0_) fun v1=>
 bnd (dQ ([(0:Int),(900:Int),(1000:Int),(1800:Int)]:List Int) v1.2) fun v2=>
 bnd (dQ ([(1800:Int),(3300:Int),(5000:Int)]:List Int) v2.2) fun v3=>
 bnd (dQ ([(0:Int),(10:Int),(50:Int),(200:Int)]:List Int) v3.2) fun v4=>
 ret ((⟨v1.1,v2.1,v3.1,v4.1⟩:aI),v4.2)
noncomputable def pE (l_:(List ByteArray)) (o0_:bq):M (ByteArray×bq):=
 bnd (bM (l_.length:Int) o0_) fun v1=>
 need (0≤v1.1∧v1.1<(l_.length:Int))<|
 ret ((l_.getD v1.1.toNat ByteArray.empty),v1.2)
noncomputable def sK (self1:(Int×(List Int)×Int×(List ByteArray))→M ((List ByteArray)×bq)):(Int×(List Int)×Int×(List ByteArray))→M ((List ByteArray)×bq):=fun g1=>
 bif (decide ((0:Int)<g1.1)) then
  bnd (j4) fun v6=>
  bnd (pE v6 (⟨g1.2.1,g1.2.2.1⟩:bq)) fun v7=>
  need ((g1.2.2.2.length+1)*16≤big)<|
  need (InI64 (g1.1 - (1:Int)))<|
  self1 ((g1.1 - (1:Int)),v7.2.L,v7.2.At,(g1.2.2.2++([v7.1]:List ByteArray)))
 else
  ret (g1.2.2.2,(⟨g1.2.1,g1.2.2.1⟩:bq))
noncomputable def kY (most_:Int) (o0_:bq):M ((List ByteArray)×bq):=
 need (InI64 (most_+(1:Int)))<|
 bnd (bM (most_+(1:Int)) o0_) fun v1=>
 bT sK (v1.1,v1.2.L,v1.2.At,([]:List ByteArray))
noncomputable def gQ (g1:(Int×(List Int)×Int×(List aO))) (self1:(Int×(List Int)×Int×(List aO))→M ((List aO)×bq)) (v46:(Int×bq)) (g14:((List Int)×Int×(List bn))) (g15:((List Int)×Int×(List aI))) (g16:((List Int)×Int×(List ByteArray))) (v53:((List Int)×bq)):((List Int)×Int×(List Int))→M ((List aO)×bq):=fun g18=>
 need ((g1.2.2.2.length+1)*128≤big)<|
 need (InI64 (g1.1+(1:Int)))<|
 self1 ((g1.1+(1:Int)),g18.1,g18.2.1,(g1.2.2.2++([(⟨g14.2.2,g15.2.2,g16.2.2,v53.1,v46.1,g18.2.2⟩:aO)]:List aO)))
noncomputable def gT (g1:(Int×(List Int)×Int×(List aO))) (self1:(Int×(List Int)×Int×(List aO))→M ((List aO)×bq)) (v46:(Int×bq)) (g14:((List Int)×Int×(List bn))) (g15:((List Int)×Int×(List aI))) (g16:((List Int)×Int×(List ByteArray))) (v53:((List Int)×bq)):(Int×(List Int)×Int)→M ((List aO)×bq):=fun g19=>
 bnd (iE g19.1 (3:Int) (⟨g19.2.1,g19.2.2⟩:bq)) fun v60=>
 (gQ g1 self1 v46 g14 g15 g16 v53) (v60.2.L,v60.2.At,v60.1)
noncomputable def gU (b_:bF) (v1:(Int×bq)) (g1:(Int×(List Int)×Int×(List aO))) (self1:(Int×(List Int)×Int×(List aO))→M ((List aO)×bq)) (v46:(Int×bq)) (g14:((List Int)×Int×(List bn))) (g15:((List Int)×Int×(List aI))):((List Int)×Int×(List ByteArray))→M ((List aO)×bq):=fun g16=>
 bnd (iE (b_.Resets.length:Int) (4:Int) (⟨g16.1,g16.2.1⟩:bq)) fun v53=>
 bnd (bM (2:Int) v53.2) fun v58=>
 bif (v58.1==(1:Int)) then
  bnd (bM (6:Int) v58.2) fun v61=>
  bif (v61.1==(5:Int)) then
   (gT g1 self1 v46 g14 g15 g16 v53) (v1.1,v61.2.L,v61.2.At)
  else
   (gT g1 self1 v46 g14 g15 g16 v53) (g1.1,v61.2.L,v61.2.At)
 else
  (gQ g1 self1 v46 g14 g15 g16 v53) (v58.2.L,v58.2.At,([]:List Int))
noncomputable def fI (b_:bF) (v1:(Int×bq)) (g1:(Int×(List Int)×Int×(List aO))) (self1:(Int×(List Int)×Int×(List aO))→M ((List aO)×bq)) (v46:(Int×bq)) (g14:((List Int)×Int×(List bn))):((List Int)×Int×(List aI))→M ((List aO)×bq):=fun g15=>
 bnd (bM (2:Int) (⟨g15.1,g15.2.1⟩:bq)) fun v62=>
 bif (v62.1==(1:Int)) then
  bnd (kY (2:Int) v62.2) fun v63=>
  (gU b_ v1 g1 self1 v46 g14 g15) (v63.2.L,v63.2.At,v63.1)
 else
  (gU b_ v1 g1 self1 v46 g14 g15) (v62.2.L,v62.2.At,([]:List ByteArray))
noncomputable def fT (b_:bF) (v1:(Int×bq)) (g1:(Int×(List Int)×Int×(List aO))) (self1:(Int×(List Int)×Int×(List aO))→M ((List aO)×bq)) (v46:(Int×bq)):((List Int)×Int×(List bn))→M ((List aO)×bq):=fun g14=>
 bif ((decide ((0:Int)<(b_.bC.length:Int)))==true) then
  bnd (bM (2:Int) (⟨g14.1,g14.2.1⟩:bq)) fun v64=>
  bif ((decide ((0:Int)<(b_.bC.length:Int)))&&(v64.1==(1:Int))) then
   bnd (pz b_ v64.2) fun v65=>
   need (1*32≤big)<|
   (fI b_ v1 g1 self1 v46 g14) (v65.2.L,v65.2.At,([v65.1]:List aI))
  else
   (fI b_ v1 g1 self1 v46 g14) (v64.2.L,v64.2.At,([]:List aI))
 else
  need ((decide ((0:Int)<(b_.bC.length:Int)))=false)<|
  (fI b_ v1 g1 self1 v46 g14) (g14.1,g14.2.1,([]:List aI))
noncomputable def qB (v1:(Int×bq)) (g21:(Int×(List aO))) (self21:(Int×(List aO))→M ((List aO)×bq)) (self24:(Int×(List Int))→M ((List aO)×bq)):(Int×(List Int))→M ((List aO)×bq):=fun g24=>
 bif (decide ((0:Int)≤g24.1)) then
  need (InI64 (v1.1 - (1:Int)))<|
  need (0≤g21.1∧g21.1<(g21.2.length:Int))<|
  need (0≤g24.1∧g24.1<((((g21.2.getD g21.1.toNat aY).cO).length:Nat):Int))<|
  need (InI64 ((v1.1 - (1:Int)) - (((g21.2.getD g21.1.toNat aY).cO).getD g24.1.toNat 0)))<|
  need ((g24.2.length+1)*8≤big)<|
  need (InI64 (g24.1 - (1:Int)))<|
  self24 ((g24.1 - (1:Int)),(g24.2++([((v1.1 - (1:Int)) - (((g21.2.getD g21.1.toNat aY).cO).getD g24.1.toNat 0))]:List Int)))
 else
  need (0≤g21.1∧g21.1<(g21.2.length:Int))<|
  need (InI64 (g21.1+(1:Int)))<|
  self21 ((g21.1+(1:Int)),(g21.2.set (g21.1.toNat) (⟨(g21.2.getD g21.1.toNat aY).Limits,(g21.2.getD g21.1.toNat aY).Draws,(g21.2.getD g21.1.toNat aY).Functions,(g21.2.getD g21.1.toNat aY).Resets,(g21.2.getD g21.1.toNat aY).fK,g24.2⟩:aO)))
noncomputable def qC (v1:(Int×bq)) (v68:(Int×bq)) (g20:(Int×Int×(List aO))) (self21:(Int×(List aO))→M ((List aO)×bq)):(Int×(List aO))→M ((List aO)×bq):=fun g21=>
 bif (decide (g21.1<(g20.2.2.length:Int))) then
  need (0≤g21.1∧g21.1<(g21.2.length:Int))<|
  need (InI64 (((((g21.2.getD g21.1.toNat aY).cO).length:Nat):Int) - (1:Int)))<|
  bT (qB v1 g21 self21) ((((((g21.2.getD g21.1.toNat aY).cO).length:Nat):Int) - (1:Int)),([]:List Int))
 else
  ret (g21.2,v68.2)
noncomputable def qD (v1:(Int×bq)) (v68:(Int×bq)) (self20:(Int×Int×(List aO))→M ((List aO)×bq)):(Int×Int×(List aO))→M ((List aO)×bq):=fun g20=>
 bif (decide (g20.1<g20.2.1)) then
  need (0≤g20.2.1∧g20.2.1<(g20.2.2.length:Int))<|
  need (0≤g20.1∧g20.1<(g20.2.2.length:Int))<|
  need (0≤g20.1∧g20.1<(g20.2.2.length:Int))<|
  need (0≤g20.2.1∧g20.2.1<(g20.2.2.length:Int))<|
  need (InI64 (g20.1+(1:Int)))<|
  need (InI64 (g20.2.1 - (1:Int)))<|
  self20 ((g20.1+(1:Int)),(g20.2.1 - (1:Int)),((g20.2.2.set (g20.1.toNat) (g20.2.2.getD g20.2.1.toNat aY)).set (g20.2.1.toNat) (g20.2.2.getD g20.1.toNat aY)))
 else
  bT (qC v1 v68 g20) ((0:Int),g20.2.2)
noncomputable def sM (b_:bF) (v1:(Int×bq)) (self1:(Int×(List Int)×Int×(List aO))→M ((List aO)×bq)):(Int×(List Int)×Int×(List aO))→M ((List aO)×bq):=fun g1=>
 bif (decide (g1.1<v1.1)) then
  need (InI64 ((b_.bS.length:Int) - (1:Int)))<|
  bnd (gL (-1:Int) ((b_.bS.length:Int) - (1:Int)) (⟨g1.2.1,g1.2.2.1⟩:bq)) fun v46=>
  bif ((decide ((0:Int)<(b_.bO.length:Int)))==true) then
   bnd (bM (2:Int) v46.2) fun v66=>
   bif ((decide ((0:Int)<(b_.bO.length:Int)))&&(v66.1==(1:Int))) then
    bnd (nM b_ v66.2) fun v67=>
    need (1*24≤big)<|
    (fT b_ v1 g1 self1 v46) (v67.2.L,v67.2.At,([v67.1]:List bn))
   else
    (fT b_ v1 g1 self1 v46) (v66.2.L,v66.2.At,([]:List bn))
  else
   need ((decide ((0:Int)<(b_.bO.length:Int)))=false)<|
   (fT b_ v1 g1 self1 v46) (v46.2.L,v46.2.At,([]:List bn))
 else
  bif ((decide ((1:Int)<v1.1))==true) then
   bnd (bM (3:Int) (⟨g1.2.1,g1.2.2.1⟩:bq)) fun v68=>
   bif ((decide ((1:Int)<v1.1))&&(v68.1==(2:Int))) then
    need (InI64 (v1.1 - (1:Int)))<|
    bT (qD v1 v68) ((0:Int),(v1.1 - (1:Int)),g1.2.2.2)
   else
    ret (g1.2.2.2,v68.2)
  else
   need ((decide ((1:Int)<v1.1))=false)<|
   ret (g1.2.2.2,(⟨g1.2.1,g1.2.2.1⟩:bq))
noncomputable def kZ (b_:bF) (most_:Int) (o0_:bq):M ((List aO)×bq):=
 need (InI64 (most_+(1:Int)))<|
 bnd (bM (most_+(1:Int)) o0_) fun v1=>
 bT (sM b_ v1) ((0:Int),v1.2.L,v1.2.At,([]:List aO))
noncomputable def LZ (l_:(List Int)) (x_:Int) (self1:Int→M Bool):Int→M Bool:=fun g1=>
 bif (decide (g1<(l_.length:Int))) then
  need (0≤g1∧g1<(l_.length:Int))<|
  bif ((l_.getD g1.toNat 0)==x_) then
   ret true
  else
   need (InI64 (g1+(1:Int)))<|
   self1 (g1+(1:Int))
 else
  ret false
noncomputable def KT (l_:(List Int)) (x_:Int):M Bool:=
 bT (LZ l_ x_) (0:Int)
noncomputable def vX (l_:(List Int)) (lo_:Int) (hi_:Int) (self1:Int→M Bool):Int→M Bool:=fun g1=>
 bif (decide (g1<(l_.length:Int))) then
  need (0≤g1∧g1<(l_.length:Int))<|
  need (((decide ((l_.getD g1.toNat 0)<lo_))||(decide (hi_<(l_.getD g1.toNat 0))))=false→0≤g1∧g1≤(l_.length:Int))<|
  bnd (grd (((decide ((l_.getD g1.toNat 0)<lo_))||(decide (hi_<(l_.getD g1.toNat 0))))=false) (KT (l_.take (g1.toNat)) (l_.getD g1.toNat 0))) fun v3=>
  bif (((decide ((l_.getD g1.toNat 0)<lo_))||(decide (hi_<(l_.getD g1.toNat 0))))||v3) then
   ret false
  else
   need (InI64 (g1+(1:Int)))<|
   self1 (g1+(1:Int))
 else
  ret true
noncomputable def iO (l_:(List Int)) (lo_:Int) (hi_:Int):M Bool:=
 bT (vX l_ lo_ hi_) (0:Int)
noncomputable def GQ (a_:(List Int)) (b_:(List Int)) (self1:Int→M Bool):Int→M Bool:=fun g1=>
 bif (decide (g1<(a_.length:Int))) then
  need (0≤g1∧g1<(a_.length:Int))<|
  need (0≤g1∧g1<(b_.length:Int))<|
  bif ((a_.getD g1.toNat 0) != (b_.getD g1.toNat 0)) then
   ret false
  else
   need (InI64 (g1+(1:Int)))<|
   self1 (g1+(1:Int))
 else
  ret true
noncomputable def yZ (a_:(List Int)) (b_:(List Int)):M Bool:=
 bif ((a_.length:Int) != (b_.length:Int)) then
  ret false
 else
  bT (GQ a_ b_) (0:Int)
noncomputable def rQ (c_:av):M Bool:=
 bif (c_.Kind==(1:Int)) then
  need ((((c_.Parents.length:Int)==(0:Int))&&((c_.Choices.length:Int)==(1:Int)))=true→0≤(0:Int)∧(0:Int)<(c_.Choices.length:Int))<|
  need (((((c_.Parents.length:Int)==(0:Int))&&((c_.Choices.length:Int)==(1:Int)))&&(decide ((1:Int)≤(c_.Choices.getD 0 0))))=true→0≤(0:Int)∧(0:Int)<(c_.Choices.length:Int))<|
  ret (((((c_.Parents.length:Int)==(0:Int))&&((c_.Choices.length:Int)==(1:Int)))&&(decide ((1:Int)≤(c_.Choices.getD 0 0))))&&(decide ((c_.Choices.getD 0 0)≤(4000000000:Int))))
 else
  bif (c_.Kind==(2:Int)) then
   bif (c_.Kind==(2:Int)) then
    bnd (grd ((((c_.Parents.length:Int)==(1:Int))&&(decide ((1:Int)≤(c_.Choices.length:Int))))=true) (iO c_.Choices (1:Int) (64:Int))) fun v1=>
    ret ((((c_.Parents.length:Int)==(1:Int))&&(decide ((1:Int)≤(c_.Choices.length:Int))))&&v1)
   else
    bif (c_.Kind==(4:Int)) then
     need (((decide ((1:Int)≤(c_.Parents.length:Int)))&&(decide ((1:Int)≤(c_.Choices.length:Int))))=true→InI64 ((c_.Parents.length:Int) - (1:Int)))<|
     bnd (grd (((decide ((1:Int)≤(c_.Parents.length:Int)))&&(decide ((1:Int)≤(c_.Choices.length:Int))))=true) (iO c_.Choices (0:Int) ((c_.Parents.length:Int) - (1:Int)))) fun v2=>
     ret (((decide ((1:Int)≤(c_.Parents.length:Int)))&&(decide ((1:Int)≤(c_.Choices.length:Int))))&&v2)
    else
     bif (c_.Kind==(5:Int)) then
      bif (((c_.Parents.length:Int)==(1:Int))==true) then
       bnd (grd (((c_.Parents.length:Int)==(1:Int))=true) (yZ c_.Choices ([(0:Int),(1:Int)]:List Int))) fun v3=>
       ret (((c_.Parents.length:Int)==(1:Int))&&v3)
      else
       ret (((c_.Parents.length:Int)==(1:Int))&&false)
     else
      ret false
  else
   bif (c_.Kind==(3:Int)) then
    bnd (grd ((((c_.Parents.length:Int)==(1:Int))&&(decide ((1:Int)≤(c_.Choices.length:Int))))=true) (iO c_.Choices (1:Int) (64:Int))) fun v4=>
    ret ((((c_.Parents.length:Int)==(1:Int))&&(decide ((1:Int)≤(c_.Choices.length:Int))))&&v4)
   else
    bif (c_.Kind==(4:Int)) then
     need (((decide ((1:Int)≤(c_.Parents.length:Int)))&&(decide ((1:Int)≤(c_.Choices.length:Int))))=true→InI64 ((c_.Parents.length:Int) - (1:Int)))<|
     bnd (grd (((decide ((1:Int)≤(c_.Parents.length:Int)))&&(decide ((1:Int)≤(c_.Choices.length:Int))))=true) (iO c_.Choices (0:Int) ((c_.Parents.length:Int) - (1:Int)))) fun v5=>
     ret (((decide ((1:Int)≤(c_.Parents.length:Int)))&&(decide ((1:Int)≤(c_.Choices.length:Int))))&&v5)
    else
     bif (c_.Kind==(5:Int)) then
      bif (((c_.Parents.length:Int)==(1:Int))==true) then
       bnd (grd (((c_.Parents.length:Int)==(1:Int))=true) (yZ c_.Choices ([(0:Int),(1:Int)]:List Int))) fun v6=>
       ret (((c_.Parents.length:Int)==(1:Int))&&v6)
      else
       ret (((c_.Parents.length:Int)==(1:Int))&&false)
     else
      ret false
noncomputable def jy (g1:(Int×(List Int))) (self1:(Int×(List Int))→M (List Int)):Int→M (List Int):=fun g7=>
 need ((g1.2.length+1)*8≤big)<|
 need (InI64 (g1.1+(1:Int)))<|
 self1 ((g1.1+(1:Int)),(g1.2++([g7]:List Int)))
noncomputable def y7 (l_:(List av)) (g1:(Int×(List Int))) (self1:(Int×(List Int))→M (List Int)) (self6:(Int×Int)→M (List Int)):(Int×Int)→M (List Int):=fun g6=>
 bif (decide (g6.2<((((l_.getD g1.1.toNat ay).Parents).length:Nat):Int))) then
  need (0≤g6.2∧g6.2<((((l_.getD g1.1.toNat ay).Parents).length:Nat):Int))<|
  need (0≤(((l_.getD g1.1.toNat ay).Parents).getD g6.2.toNat 0)∧(((l_.getD g1.1.toNat ay).Parents).getD g6.2.toNat 0)<(g1.2.length:Int))<|
  need (InI64 (g6.2+(1:Int)))<|
  self6 ((if (g1.2.getD ((((l_.getD g1.1.toNat ay).Parents).getD g6.2.toNat 0).toNat) 0) > g6.1 then (g1.2.getD ((((l_.getD g1.1.toNat ay).Parents).getD g6.2.toNat 0).toNat) 0) else g6.1),(g6.2+(1:Int)))
 else
  bif (((l_.getD g1.1.toNat ay).Kind==(2:Int))||((l_.getD g1.1.toNat ay).Kind==(3:Int))) then
   need (InI64 (g6.1+(1:Int)))<|
   (jy g1 self1) (g6.1+(1:Int))
  else
   (jy g1 self1) g6.1
noncomputable def y8 (l_:(List av)) (self1:(Int×(List Int))→M (List Int)):(Int×(List Int))→M (List Int):=fun g1=>
 bif (decide (g1.1<(l_.length:Int))) then
  need (0≤g1.1∧g1.1<(l_.length:Int))<|
  bT (y7 l_ g1 self1) ((0:Int),(0:Int))
 else
  ret g1.2
noncomputable def rR (l_:(List av)):M (List Int):=
 bT (y8 l_) ((0:Int),([]:List Int))
noncomputable def Bp (l_:(List av)) (g2:(Int×Int)) (self2:(Int×Int)→M Int) (self5:Int→M Int):Int→M Int:=fun g5=>
 bif (decide (g5<((((l_.getD g2.2.toNat ay).Parents).length:Nat):Int))) then
  need (0≤g5∧g5<((((l_.getD g2.2.toNat ay).Parents).length:Nat):Int))<|
  bif ((decide ((((l_.getD g2.2.toNat ay).Parents).getD g5.toNat 0)<(0:Int)))||(decide (g2.2≤(((l_.getD g2.2.toNat ay).Parents).getD g5.toNat 0)))) then
   ret (1:Int)
  else
   need (InI64 (g5+(1:Int)))<|
   self5 (g5+(1:Int))
 else
  bnd (rQ (l_.getD g2.2.toNat ay)) fun v3=>
  bif ((((!v3)||(decide ((l_.getD g2.2.toNat ay).Low<(0:Int))))||(decide ((l_.getD g2.2.toNat ay).High<(l_.getD g2.2.toNat ay).Low)))||(decide ((4000000000:Int)<(l_.getD g2.2.toNat ay).High))) then
   ret (1:Int)
  else
   need (InI64 (g2.1*((((l_.getD g2.2.toNat ay).Choices).length:Nat):Int)))<|
   need (InI64 (g2.2+(1:Int)))<|
   self2 ((if (1099511627776:Int)<(g2.1*((((l_.getD g2.2.toNat ay).Choices).length:Nat):Int)) then (1099511627776:Int) else (g2.1*((((l_.getD g2.2.toNat ay).Choices).length:Nat):Int))),(g2.2+(1:Int)))
noncomputable def Bq (v4:(List Int)) (self6:Int→M Int):Int→M Int:=fun g6=>
 bif (decide (g6<(v4.length:Int))) then
  need (0≤g6∧g6<(v4.length:Int))<|
  bif (decide ((4:Int)<(v4.getD g6.toNat 0))) then
   ret (3:Int)
  else
   need (InI64 (g6+(1:Int)))<|
   self6 (g6+(1:Int))
 else
  ret (0:Int)
noncomputable def Br (l_:(List av)) (self2:(Int×Int)→M Int):(Int×Int)→M Int:=fun g2=>
 bif (decide (g2.2<(l_.length:Int))) then
  need (0≤g2.2∧g2.2<(l_.length:Int))<|
  bT (Bp l_ g2 self2) (0:Int)
 else
  bif (decide ((4096:Int)<g2.1)) then
   ret (3:Int)
  else
   bnd (rR l_) fun v4=>
   bT (Bq v4) (0:Int)
noncomputable def Dj (l_:(List av)) (self1:Int→M Int):Int→M Int:=fun g1=>
 bif (decide (g1<(l_.length:Int))) then
  need (0≤g1∧g1<(l_.length:Int))<|
  bif ((decide ((8:Int)<((((l_.getD g1.toNat ay).Parents).length:Nat):Int)))||(decide ((8:Int)<((((l_.getD g1.toNat ay).Choices).length:Nat):Int)))) then
   ret (3:Int)
  else
   need (InI64 (g1+(1:Int)))<|
   self1 (g1+(1:Int))
 else
  bT (Br l_) ((1:Int),(0:Int))
noncomputable def oG (l_:(List av)):M Int:=
 bif (decide ((16:Int)<(l_.length:Int))) then
  ret (3:Int)
 else
  bT (Dj l_) (0:Int)
noncomputable def Bt (l_:(List av)) (m_:(List bn)) (self1:Int→M Bool):Int→M Bool:=fun g1=>
 bif (decide (g1<(m_.length:Int))) then
  need (0≤g1∧g1<(m_.length:Int))<|
  bif (((((decide ((m_.getD g1.toNat cB).Clock<(0:Int)))||(decide ((l_.length:Int)≤(m_.getD g1.toNat cB).Clock)))||(decide ((m_.getD g1.toNat cB).Low<(0:Int))))||(decide ((m_.getD g1.toNat cB).High<(m_.getD g1.toNat cB).Low)))||(decide ((4000000000:Int)<(m_.getD g1.toNat cB).High))) then
   ret false
  else
   need (InI64 (g1+(1:Int)))<|
   self1 (g1+(1:Int))
 else
  ret true
noncomputable def u7 (l_:(List av)) (m_:(List bn)):M Bool:=
 bnd (oG l_) fun v1=>
 bif ((v1 != (0:Int))||(decide ((32:Int)<(m_.length:Int)))) then
  ret false
 else
  bT (Bt l_ m_) (0:Int)
noncomputable def xu (l_:(List av)) (m_:(List bn)):M Int:=
 bnd (oG l_) fun v1=>
 bif (v1 != (0:Int)) then
  ret v1
 else
  bnd (u7 l_ m_) fun v2=>
  bif (!v2) then
   ret (1:Int)
  else
   ret (0:Int)
noncomputable def vg (c_:av) (choice_:Int):M Int:=
 bif (c_.Kind==(1:Int)) then
  ret (-1:Int)
 else
  bif (c_.Kind==(4:Int)) then
   need (0≤choice_∧choice_<(c_.Choices.length:Int))<|
   need (0≤(c_.Choices.getD choice_.toNat 0)∧(c_.Choices.getD choice_.toNat 0)<(c_.Parents.length:Int))<|
   ret (c_.Parents.getD ((c_.Choices.getD choice_.toNat 0).toNat) 0)
  else
   need (0≤(0:Int)∧(0:Int)<(c_.Parents.length:Int))<|
   ret (c_.Parents.getD 0 0)
noncomputable def y9 (self1:(Int×Int)→M Int):(Int×Int)→M Int:=fun g1=>
 bif (g1.2 != (0:Int)) then
  need (g1.2≠0)<|
  self1 (g1.2,(g1.1.tmod g1.2))
 else
  ret g1.1
noncomputable def kM (a_:Int) (b_:Int):M Int:=
 bT y9 (a_,b_)
noncomputable def lN (r_:aP):M Bool:=
 bnd (grd (((((decide ((0:Int)≤r_.Num))&&(decide (r_.Num≤(144115188075855872:Int))))&&(decide ((1:Int)≤r_.Den)))&&(decide (r_.Den≤(16777216:Int))))=true) (kM r_.Num r_.Den)) fun v1=>
 ret (((((decide ((0:Int)≤r_.Num))&&(decide (r_.Num≤(144115188075855872:Int))))&&(decide ((1:Int)≤r_.Den)))&&(decide (r_.Den≤(16777216:Int))))&&(v1==(1:Int)))
noncomputable def pF (k_:Int):M Bool:=
 ret ((decide ((1:Int)≤k_))&&(decide (k_≤(64:Int))))
noncomputable def za (num_:Int) (den_:Int):M (aP×Int):=
 bif ((decide (num_<(0:Int)))||(decide (den_<(1:Int)))) then
  ret ((⟨(0:Int),(0:Int)⟩:aP),(2:Int))
 else
  bnd (kM num_ den_) fun v1=>
  need (v1≠0∧InI64 (num_.tdiv v1))<|
  need (v1≠0∧InI64 (den_.tdiv v1))<|
  bnd (lN (⟨(num_.tdiv v1),(den_.tdiv v1)⟩:aP)) fun v2=>
  bif (!v2) then
   ret ((⟨(0:Int),(0:Int)⟩:aP),(2:Int))
  else
   ret ((⟨(num_.tdiv v1),(den_.tdiv v1)⟩:aP),(0:Int))
noncomputable def Aa (r_:aP) (k_:Int):M (aP×Int):=
 bnd (lN r_) fun v1=>
 bif (!v1) then
  ret ((⟨(0:Int),(0:Int)⟩:aP),(1:Int))
 else
  bnd (pF k_) fun v2=>
  bif (!v2) then
   ret ((⟨(0:Int),(0:Int)⟩:aP),(2:Int))
  else
   need (InI64 (r_.Den*k_))<|
   bnd (za r_.Num (r_.Den*k_)) fun v3=>
   ret (v3.1,v3.2)
noncomputable def xw (r_:aP) (k_:Int):M (aP×Int):=
 bnd (lN r_) fun v1=>
 bif (!v1) then
  ret ((⟨(0:Int),(0:Int)⟩:aP),(1:Int))
 else
  bnd (pF k_) fun v2=>
  bif (!v2) then
   ret ((⟨(0:Int),(0:Int)⟩:aP),(2:Int))
  else
   bnd (kM k_ r_.Den) fun v3=>
   need (v3≠0∧InI64 (k_.tdiv v3))<|
   need ((k_.tdiv v3)≠0∧InI64 ((144115188075855872:Int).tdiv (k_.tdiv v3)))<|
   bif (decide (((144115188075855872:Int).tdiv (k_.tdiv v3))<r_.Num)) then
    ret ((⟨(0:Int),(0:Int)⟩:aP),(2:Int))
   else
    need (v3≠0∧InI64 (k_.tdiv v3))<|
    need (InI64 (r_.Num*(k_.tdiv v3)))<|
    need (v3≠0∧InI64 (r_.Den.tdiv v3))<|
    bnd (za (r_.Num*(k_.tdiv v3)) (r_.Den.tdiv v3)) fun v4=>
    ret (v4.1,v4.2)
noncomputable def fF (g1:(Int×(List aP)×(List Bool))) (self1:(Int×(List aP)×(List Bool))→M ((List aP)×(List Bool))):(Bool×Int×Int)→M ((List aP)×(List Bool)):=fun g7=>
 need ((g1.2.1.length+1)*16≤big)<|
 need ((g1.2.2.length+1)*1≤big)<|
 need (InI64 (g1.1+(1:Int)))<|
 self1 ((g1.1+(1:Int)),(g1.2.1++([(⟨g7.2.1,g7.2.2⟩:aP)]:List aP)),(g1.2.2++([g7.1]:List Bool)))
noncomputable def jV (l_:(List av)) (s_:(List Int)) (g1:(Int×(List aP)×(List Bool))) (self1:(Int×(List aP)×(List Bool))→M ((List aP)×(List Bool))):(Bool×Int×Int)→M ((List aP)×(List Bool)):=fun g6=>
 need (0≤g1.1∧g1.1<(s_.length:Int))<|
 need (0≤(s_.getD g1.1.toNat 0)∧(s_.getD g1.1.toNat 0)<((((l_.getD g1.1.toNat ay).Choices).length:Nat):Int))<|
 bif ((l_.getD g1.1.toNat ay).Kind==(1:Int)) then
  (fF g1 self1) (g6.1,(((l_.getD g1.1.toNat ay).Choices).getD ((s_.getD g1.1.toNat 0).toNat) 0),(1:Int))
 else
  bif ((l_.getD g1.1.toNat ay).Kind==(2:Int)) then
   bnd (Aa (⟨g6.2.1,g6.2.2⟩:aP) (((l_.getD g1.1.toNat ay).Choices).getD ((s_.getD g1.1.toNat 0).toNat) 0)) fun v16=>
   (fF g1 self1) (g6.1,v16.1.Num,v16.1.Den)
  else
   bif ((l_.getD g1.1.toNat ay).Kind==(3:Int)) then
    bnd (xw (⟨g6.2.1,g6.2.2⟩:aP) (((l_.getD g1.1.toNat ay).Choices).getD ((s_.getD g1.1.toNat 0).toNat) 0)) fun v17=>
    (fF g1 self1) (g6.1,v17.1.Num,v17.1.Den)
   else
    bif ((l_.getD g1.1.toNat ay).Kind==(5:Int)) then
     bif ((((l_.getD g1.1.toNat ay).Choices).getD ((s_.getD g1.1.toNat 0).toNat) 0)==(0:Int)) then
      (fF g1 self1) (false,(0:Int),(1:Int))
     else
      (fF g1 self1) (g6.1,g6.2.1,g6.2.2)
    else
     (fF g1 self1) (g6.1,g6.2.1,g6.2.2)
noncomputable def Bu (l_:(List av)) (s_:(List Int)) (self1:(Int×(List aP)×(List Bool))→M ((List aP)×(List Bool))):(Int×(List aP)×(List Bool))→M ((List aP)×(List Bool)):=fun g1=>
 bif (decide (g1.1<(l_.length:Int))) then
  need (0≤g1.1∧g1.1<(l_.length:Int))<|
  need (0≤g1.1∧g1.1<(s_.length:Int))<|
  bnd (vg (l_.getD g1.1.toNat ay) (s_.getD g1.1.toNat 0)) fun v18=>
  bif (decide ((0:Int)≤v18)) then
   need (0≤v18∧v18<(g1.2.1.length:Int))<|
   need (0≤v18∧v18<(g1.2.2.length:Int))<|
   (jV l_ s_ g1 self1) ((g1.2.2.getD v18.toNat false),(g1.2.1.getD v18.toNat bZ).Num,(g1.2.1.getD v18.toNat bZ).Den)
  else
   (jV l_ s_ g1 self1) (true,(0:Int),(1:Int))
 else
  ret (g1.2.1,g1.2.2)
noncomputable def vk (l_:(List av)) (s_:(List Int)):M ((List aP)×(List Bool)):=
 bT (Bu l_ s_) ((0:Int),([]:List aP),([]:List Bool))
noncomputable def pG (r_:aP) (low_:Int) (high_:Int):M Bool:=
 bnd (lN r_) fun v1=>
 bif (!v1) then
  ret false
 else
  need (r_.Den≠0∧InI64 (r_.Num.tdiv r_.Den))<|
  need ((decide (low_≤(r_.Num.tdiv r_.Den)))=true→(decide ((r_.Num.tdiv r_.Den)<high_))=false→((r_.Num.tdiv r_.Den)==high_)=true→r_.Den≠0)<|
  ret ((decide (low_≤(r_.Num.tdiv r_.Den)))&&((decide ((r_.Num.tdiv r_.Den)<high_))||(((r_.Num.tdiv r_.Den)==high_)&&((r_.Num.tmod r_.Den)==(0:Int)))))
noncomputable def GR (l_:(List av)) (r_:(List aP)) (on_:(List Bool)) (self1:Int→M Bool):Int→M Bool:=fun g1=>
 bif (decide (g1<(l_.length:Int))) then
  need (0≤g1∧g1<(l_.length:Int))<|
  need (0≤g1∧g1<(on_.length:Int))<|
  need (((on_.getD g1.toNat false)&&((l_.getD g1.toNat ay).High != (0:Int)))=true→0≤g1∧g1<(r_.length:Int))<|
  bnd (grd (((on_.getD g1.toNat false)&&((l_.getD g1.toNat ay).High != (0:Int)))=true) (pG (r_.getD g1.toNat bZ) ((l_.getD g1.toNat ay).Low) ((l_.getD g1.toNat ay).High))) fun v3=>
  bif (((on_.getD g1.toNat false)&&((l_.getD g1.toNat ay).High != (0:Int)))&&(!v3)) then
   ret false
  else
   need (InI64 (g1+(1:Int)))<|
   self1 (g1+(1:Int))
 else
  ret true
noncomputable def Et (l_:(List av)) (r_:(List aP)) (on_:(List Bool)):M Bool:=
 bT (GR l_ r_ on_) (0:Int)
noncomputable def Fq (l_:(List av)) (m_:(List bn)) (v1:((List aP)×(List Bool))) (self1:Int→M Bool):Int→M Bool:=fun g1=>
 bif (decide (g1<(m_.length:Int))) then
  need (0≤g1∧g1<(m_.length:Int))<|
  need (0≤(m_.getD g1.toNat cB).Clock∧(m_.getD g1.toNat cB).Clock<(v1.2.length:Int))<|
  need ((!(v1.2.getD (((m_.getD g1.toNat cB).Clock).toNat) false))=false→0≤(m_.getD g1.toNat cB).Clock∧(m_.getD g1.toNat cB).Clock<(v1.1.length:Int))<|
  bnd (grd ((!(v1.2.getD (((m_.getD g1.toNat cB).Clock).toNat) false))=false) (pG (v1.1.getD (((m_.getD g1.toNat cB).Clock).toNat) bZ) ((m_.getD g1.toNat cB).Low) ((m_.getD g1.toNat cB).High))) fun v4=>
  bif ((!(v1.2.getD (((m_.getD g1.toNat cB).Clock).toNat) false))||(!v4)) then
   ret false
  else
   need (InI64 (g1+(1:Int)))<|
   self1 (g1+(1:Int))
 else
  bnd (Et l_ v1.1 v1.2) fun v5=>
  ret v5
noncomputable def Ac (l_:(List av)) (s_:(List Int)) (m_:(List bn)):M Bool:=
 bnd (vk l_ s_) fun v1=>
 bT (Fq l_ m_ v1) (0:Int)
noncomputable def xY (l_:(List av)) (g1:(Int×(List Int))) (self1:(Int×(List Int))→M ((List Int)×Bool)):(List Int)→M ((List Int)×Bool):=fun g4=>
 need (0≤g1.1∧g1.1<(g4.length:Int))<|
 need (0≤g1.1∧g1.1<(l_.length:Int))<|
 bif (decide ((g4.getD g1.1.toNat 0)<((((l_.getD g1.1.toNat ay).Choices).length:Nat):Int))) then
  ret (g4,true)
 else
  need (0≤g1.1∧g1.1<(g4.length:Int))<|
  need (InI64 (g1.1 - (1:Int)))<|
  self1 ((g1.1 - (1:Int)),(g4.set (g1.1.toNat) (0:Int)))
noncomputable def Fu (l_:(List av)) (self1:(Int×(List Int))→M ((List Int)×Bool)):(Int×(List Int))→M ((List Int)×Bool):=fun g1=>
 bif (decide ((0:Int)≤g1.1)) then
  need (0≤g1.1∧g1.1<(g1.2.length:Int))<|
  need (InI64 ((g1.2.getD g1.1.toNat 0)+(1:Int)))<|
  need (0≤g1.1∧g1.1<(g1.2.length:Int))<|
  (xY l_ g1 self1) (g1.2.set (g1.1.toNat) ((g1.2.getD g1.1.toNat 0)+(1:Int)))
 else
  ret (([]:List Int),false)
noncomputable def Ad (l_:(List av)) (s_:(List Int)):M ((List Int)×Bool):=
 need ((0+s_.length)*8≤big)<|
 need (InI64 ((l_.length:Int) - (1:Int)))<|
 bT (Fu l_) (((l_.length:Int) - (1:Int)),(([]:List Int)++s_))
noncomputable def pI (l_:(List av)) (g1:((List Int)×Bool×(List (List Int)))) (self1:((List Int)×Bool×(List (List Int)))→M (List (List Int))):(List (List Int))→M (List (List Int)):=fun g7=>
 bnd (Ad l_ g1.1) fun v8=>
 self1 (v8.1,v8.2,g7)
noncomputable def Ae (l_:(List av)) (m_:(List bn)) (g1:((List Int)×Bool×(List (List Int)))) (self1:((List Int)×Bool×(List (List Int)))→M (List (List Int))):Unit→M (List (List Int)):=fun g6=>
 bnd (Ac l_ g1.1 m_) fun v9=>
 bif v9 then
  need ((g1.2.2.length+1)*24≤big)<|
  (pI l_ g1 self1) (g1.2.2++([g1.1]:List (List Int)))
 else
  (pI l_ g1 self1) g1.2.2
noncomputable def GU (l_:(List av)) (m_:(List bn)) (self1:((List Int)×Bool×(List (List Int)))→M (List (List Int))):((List Int)×Bool×(List (List Int)))→M (List (List Int)):=fun g1=>
 bif g1.2.1 then
  (Ae l_ m_ g1 self1) ()
 else
  ret g1.2.2
noncomputable def Eu (l_:(List av)) (m_:(List bn)):M (List (List Int)):=
 need (0≤(l_.length:Int)∧(l_.length:Int)*((8:Nat):Int)≤((big:Nat):Int))<|
 bT (GU l_ m_) ((List.replicate ((l_.length:Int).toNat) 0),true,([]:List (List Int)))
noncomputable def xA (l_:(List av)) (m_:(List bn)):M ((List Int)×Int):=
 bnd (xu l_ m_) fun v1=>
 bif (v1 != (0:Int)) then
  ret (([]:List Int),v1)
 else
  bnd (Eu l_ m_) fun v2=>
  bif ((v2.length:Int)==(0:Int)) then
   ret (([]:List Int),(9:Int))
  else
   need (0≤(0:Int)∧(0:Int)<(v2.length:Int))<|
   ret ((v2.getD 0 []),(0:Int))
noncomputable def lQ (x_:Int) (lo_:Int) (hi_:Int):M Bool:=
 ret ((decide (lo_≤x_))&&(decide (x_≤hi_)))
noncomputable def Bv (l_:(List aj)) (g2:Int) (self2:Int→M Int) (self5:Int→M Int):Int→M Int:=fun g5=>
 bif (decide (g5<((((l_.getD g2.toNat ah).aQ).length:Nat):Int))) then
  need (0≤g5∧g5<((((l_.getD g2.toNat ah).aQ).length:Nat):Int))<|
  bnd (lQ (((l_.getD g2.toNat ah).aQ).getD g5.toNat 0) (1:Int) (5000:Int)) fun v18=>
  need ((!v18)=false→(decide ((0:Int)<g5))=true→InI64 (g5 - (1:Int)))<|
  need ((!v18)=false→(decide ((0:Int)<g5))=true→0≤(g5 - (1:Int))∧(g5 - (1:Int))<((((l_.getD g2.toNat ah).aQ).length:Nat):Int))<|
  bif ((!v18)||((decide ((0:Int)<g5))&&(decide ((((l_.getD g2.toNat ah).aQ).getD g5.toNat 0)≤(((l_.getD g2.toNat ah).aQ).getD ((g5 - (1:Int)).toNat) 0))))) then
   ret (1:Int)
  else
   need (InI64 (g5+(1:Int)))<|
   self5 (g5+(1:Int))
 else
  need (InI64 (g2+(1:Int)))<|
  self2 (g2+(1:Int))
noncomputable def Bw (l_:(List aj)) (self2:Int→M Int):Int→M Int:=fun g2=>
 bif (decide (g2<(l_.length:Int))) then
  need (0≤g2∧g2<(l_.length:Int))<|
  need (InI64 (g2 - (1:Int)))<|
  bnd (lQ ((l_.getD g2.toNat ah).Parent) (-1:Int) (g2 - (1:Int))) fun v13=>
  bnd (grd (((!v13)||(decide (((((l_.getD g2.toNat ah).aQ).length:Nat):Int)<(1:Int))))=false) (lQ ((l_.getD g2.toNat ah).dM) (0:Int) (5000:Int))) fun v14=>
  bnd (grd (((((!v13)||(decide (((((l_.getD g2.toNat ah).aQ).length:Nat):Int)<(1:Int))))||(!v14))||((decide ((l_.getD g2.toNat ah).Parent<(0:Int)))&&((l_.getD g2.toNat ah).dM != (0:Int))))=false) (lQ ((l_.getD g2.toNat ah).dU) (0:Int) (10000:Int))) fun v15=>
  bif (((((!v13)||(decide (((((l_.getD g2.toNat ah).aQ).length:Nat):Int)<(1:Int))))||(!v14))||((decide ((l_.getD g2.toNat ah).Parent<(0:Int)))&&((l_.getD g2.toNat ah).dM != (0:Int))))||(!v15)) then
   ret (1:Int)
  else
   bT (Bv l_ g2 self2) (0:Int)
 else
  ret (0:Int)
noncomputable def Dk (l_:(List aj)) (self1:Int→M Int):Int→M Int:=fun g1=>
 bif (decide (g1<(l_.length:Int))) then
  need (0≤g1∧g1<(l_.length:Int))<|
  bif (decide ((16:Int)<((((l_.getD g1.toNat ah).aQ).length:Nat):Int))) then
   ret (3:Int)
  else
   need (InI64 (g1+(1:Int)))<|
   self1 (g1+(1:Int))
 else
  bT (Bw l_) (0:Int)
noncomputable def oH (l_:(List aj)):M Int:=
 bif (decide ((16:Int)<(l_.length:Int))) then
  ret (3:Int)
 else
  bT (Dk l_) (0:Int)
noncomputable def Dl (l_:(List aj)) (d_:(List aI)) (self1:Int→M Bool):Int→M Bool:=fun g1=>
 bif (decide (g1<(d_.length:Int))) then
  need (0≤g1∧g1<(d_.length:Int))<|
  need (InI64 ((l_.length:Int) - (1:Int)))<|
  bnd (lQ ((d_.getD g1.toNat bK).aM) (0:Int) ((l_.length:Int) - (1:Int))) fun v8=>
  bnd (grd ((!v8)=false) (lQ ((d_.getD g1.toNat bK).Low) (0:Int) ((d_.getD g1.toNat bK).High))) fun v9=>
  bnd (grd ((((!v8)||(!v9))||(decide ((5000:Int)<(d_.getD g1.toNat bK).High)))=false) (lQ ((d_.getD g1.toNat bK).Load) (0:Int) (10000:Int))) fun v10=>
  bif ((((!v8)||(!v9))||(decide ((5000:Int)<(d_.getD g1.toNat bK).High)))||(!v10)) then
   ret false
  else
   need (InI64 (g1+(1:Int)))<|
   self1 (g1+(1:Int))
 else
  ret true
noncomputable def xB (l_:(List aj)) (d_:(List aI)):M Bool:=
 bnd (oH l_) fun v1=>
 bif ((v1 != (0:Int))||(decide ((32:Int)<(d_.length:Int)))) then
  ret false
 else
  bT (Dl l_ d_) (0:Int)
noncomputable def xC (l_:(List aj)) (d_:(List aI)):M Int:=
 bnd (oH l_) fun v1=>
 bif (v1 != (0:Int)) then
  ret v1
 else
  bnd (xB l_ d_) fun v2=>
  bif (!v2) then
   ret (1:Int)
  else
   ret (0:Int)
noncomputable def Fv (l_:(List aj)) (d_:(List aI)) (g1:(Int×(List Bool))) (self1:(Int×(List Bool))→M (List Bool)) (self4:(Int×(List Bool))→M (List Bool)):(Int×(List Bool))→M (List Bool):=fun g4=>
 bif (decide (g4.1<(d_.length:Int))) then
  need (0≤g4.1∧g4.1<(d_.length:Int))<|
  need (0≤g1.1∧g1.1<(g4.2.length:Int))<|
  need (0≤g1.1∧g1.1<(g4.2.length:Int))<|
  need (InI64 (g4.1+(1:Int)))<|
  self4 ((g4.1+(1:Int)),(g4.2.set (g1.1.toNat) ((g4.2.getD g1.1.toNat false)||((d_.getD g4.1.toNat bK).aM==g1.1))))
 else
  need (0≤g1.1∧g1.1<(l_.length:Int))<|
  need (0≤g1.1∧g1.1<(g4.2.length:Int))<|
  bif ((g4.2.getD g1.1.toNat false)&&(decide ((0:Int)≤(l_.getD g1.1.toNat ah).Parent))) then
   need (0≤(l_.getD g1.1.toNat ah).Parent∧(l_.getD g1.1.toNat ah).Parent<(g4.2.length:Int))<|
   need (InI64 (g1.1 - (1:Int)))<|
   self1 ((g1.1 - (1:Int)),(g4.2.set (((l_.getD g1.1.toNat ah).Parent).toNat) true))
  else
   need (InI64 (g1.1 - (1:Int)))<|
   self1 ((g1.1 - (1:Int)),g4.2)
noncomputable def Fw (l_:(List aj)) (d_:(List aI)) (self1:(Int×(List Bool))→M (List Bool)):(Int×(List Bool))→M (List Bool):=fun g1=>
 bif (decide ((0:Int)≤g1.1)) then
  need (0≤g1.1∧g1.1<(g1.2.length:Int))<|
  need ((g1.2.getD g1.1.toNat false)=false→0≤g1.1∧g1.1<(l_.length:Int))<|
  need (0≤g1.1∧g1.1<(g1.2.length:Int))<|
  bT (Fv l_ d_ g1 self1) ((0:Int),(g1.2.set (g1.1.toNat) ((g1.2.getD g1.1.toNat false)||(l_.getD g1.1.toNat ah).Always)))
 else
  ret g1.2
noncomputable def vY (l_:(List aj)) (d_:(List aI)):M (List Bool):=
 need (0≤(l_.length:Int)∧(l_.length:Int)*((1:Nat):Int)≤((big:Nat):Int))<|
 need (InI64 ((l_.length:Int) - (1:Int)))<|
 bT (Fw l_ d_) (((l_.length:Int) - (1:Int)),(List.replicate ((l_.length:Int).toNat) false))
noncomputable def Dn (s_:aj) (v_:Int) (self1:Int→M Int):Int→M Int:=fun g1=>
 bif (decide (g1<(s_.aQ.length:Int))) then
  need (0≤g1∧g1<(s_.aQ.length:Int))<|
  bif (decide (v_≤(s_.aQ.getD g1.toNat 0))) then
   ret g1
  else
   need (InI64 (g1+(1:Int)))<|
   self1 (g1+(1:Int))
 else
  ret (-1:Int)
noncomputable def xD (s_:aj) (v_:Int):M Int:=
 bT (Dn s_ v_) (0:Int)
noncomputable def lS (l_:(List aj)) (r_:bE) (k_:Int):M Int:=
 need (0≤k_∧k_<(l_.length:Int))<|
 need (0≤k_∧k_<(r_.Level.length:Int))<|
 need (0≤(r_.Level.getD k_.toNat 0)∧(r_.Level.getD k_.toNat 0)<((((l_.getD k_.toNat ah).aQ).length:Nat):Int))<|
 ret (((l_.getD k_.toNat ah).aQ).getD ((r_.Level.getD k_.toNat 0).toNat) 0)
noncomputable def Dp (l_:(List aj)) (d_:(List aI)) (g1:(Int×(List Int))) (self1:(Int×(List Int))→M (List Int)) (self4:(Int×(List Int))→M (List Int)):(Int×(List Int))→M (List Int):=fun g4=>
 bif (decide (g4.1<(d_.length:Int))) then
  need (0≤g4.1∧g4.1<(d_.length:Int))<|
  bif ((d_.getD g4.1.toNat bK).aM==g1.1) then
   need (0≤g1.1∧g1.1<(g4.2.length:Int))<|
   need (InI64 ((g4.2.getD g1.1.toNat 0)+(d_.getD g4.1.toNat bK).Load))<|
   need (0≤g1.1∧g1.1<(g4.2.length:Int))<|
   need (InI64 (g4.1+(1:Int)))<|
   self4 ((g4.1+(1:Int)),(g4.2.set (g1.1.toNat) ((g4.2.getD g1.1.toNat 0)+(d_.getD g4.1.toNat bK).Load)))
  else
   need (InI64 (g4.1+(1:Int)))<|
   self4 ((g4.1+(1:Int)),g4.2)
 else
  need (0≤g1.1∧g1.1<(l_.length:Int))<|
  bif (decide ((0:Int)≤(l_.getD g1.1.toNat ah).Parent)) then
   need (0≤(l_.getD g1.1.toNat ah).Parent∧(l_.getD g1.1.toNat ah).Parent<(g4.2.length:Int))<|
   need (0≤g1.1∧g1.1<(g4.2.length:Int))<|
   need (InI64 ((g4.2.getD (((l_.getD g1.1.toNat ah).Parent).toNat) 0)+(g4.2.getD g1.1.toNat 0)))<|
   need (0≤(l_.getD g1.1.toNat ah).Parent∧(l_.getD g1.1.toNat ah).Parent<(g4.2.length:Int))<|
   need (InI64 (g1.1 - (1:Int)))<|
   self1 ((g1.1 - (1:Int)),(g4.2.set (((l_.getD g1.1.toNat ah).Parent).toNat) ((g4.2.getD (((l_.getD g1.1.toNat ah).Parent).toNat) 0)+(g4.2.getD g1.1.toNat 0))))
  else
   need (InI64 (g1.1 - (1:Int)))<|
   self1 ((g1.1 - (1:Int)),g4.2)
noncomputable def Dq (l_:(List aj)) (d_:(List aI)) (self1:(Int×(List Int))→M (List Int)):(Int×(List Int))→M (List Int):=fun g1=>
 bif (decide ((0:Int)≤g1.1)) then
  bT (Dp l_ d_ g1 self1) ((0:Int),g1.2)
 else
  ret g1.2
noncomputable def xE (l_:(List aj)) (d_:(List aI)):M (List Int):=
 need (0≤(l_.length:Int)∧(l_.length:Int)*((8:Nat):Int)≤((big:Nat):Int))<|
 need (InI64 ((l_.length:Int) - (1:Int)))<|
 bT (Dq l_ d_) (((l_.length:Int) - (1:Int)),(List.replicate ((l_.length:Int).toNat) 0))
noncomputable def Bz (l_:(List aj)) (r_:bE) (d_:(List aI)) (self2:Int→M Bool):Int→M Bool:=fun g2=>
 bif (decide (g2<(d_.length:Int))) then
  need (0≤g2∧g2<(d_.length:Int))<|
  bnd (lS l_ r_ ((d_.getD g2.toNat bK).aM)) fun v13=>
  bnd (lQ v13 ((d_.getD g2.toNat bK).Low) ((d_.getD g2.toNat bK).High)) fun v14=>
  bif (!v14) then
   ret false
  else
   need (InI64 (g2+(1:Int)))<|
   self2 (g2+(1:Int))
 else
  ret true
noncomputable def Dr (l_:(List aj)) (r_:bE) (d_:(List aI)) (v1:(List Bool)) (v2:(List Int)) (self1:Int→M Bool):Int→M Bool:=fun g1=>
 bif (decide (g1<(l_.length:Int))) then
  need (0≤g1∧g1<(l_.length:Int))<|
  need (0≤g1∧g1<(v1.length:Int))<|
  need ((v1.getD g1.toNat false)=true→0≤g1∧g1<(r_.On.length:Int))<|
  bif ((v1.getD g1.toNat false)&&(!(r_.On.getD g1.toNat false))) then
   ret false
  else
   need (0≤g1∧g1<(r_.On.length:Int))<|
   bif (!(r_.On.getD g1.toNat false)) then
    need (InI64 (g1+(1:Int)))<|
    self1 (g1+(1:Int))
   else
    need (0≤g1∧g1<(v2.length:Int))<|
    need ((decide ((l_.getD g1.toNat ah).dU<(v2.getD g1.toNat 0)))=false→(decide ((0:Int)≤(l_.getD g1.toNat ah).Parent))=true→0≤(l_.getD g1.toNat ah).Parent∧(l_.getD g1.toNat ah).Parent<(r_.On.length:Int))<|
    bnd (grd ((decide ((l_.getD g1.toNat ah).dU<(v2.getD g1.toNat 0)))=false) (grd ((decide ((0:Int)≤(l_.getD g1.toNat ah).Parent))=true) (grd ((!(r_.On.getD (((l_.getD g1.toNat ah).Parent).toNat) false))=false) (lS l_ r_ ((l_.getD g1.toNat ah).Parent))))) fun v7=>
    bnd (grd ((decide ((l_.getD g1.toNat ah).dU<(v2.getD g1.toNat 0)))=false) (grd ((decide ((0:Int)≤(l_.getD g1.toNat ah).Parent))=true) (grd ((!(r_.On.getD (((l_.getD g1.toNat ah).Parent).toNat) false))=false) (lS l_ r_ g1)))) fun v8=>
    need ((decide ((l_.getD g1.toNat ah).dU<(v2.getD g1.toNat 0)))=false→(decide ((0:Int)≤(l_.getD g1.toNat ah).Parent))=true→(!(r_.On.getD (((l_.getD g1.toNat ah).Parent).toNat) false))=false→InI64 (v8+(l_.getD g1.toNat ah).dM))<|
    bif ((decide ((l_.getD g1.toNat ah).dU<(v2.getD g1.toNat 0)))||((decide ((0:Int)≤(l_.getD g1.toNat ah).Parent))&&((!(r_.On.getD (((l_.getD g1.toNat ah).Parent).toNat) false))||(decide (v7<(v8+(l_.getD g1.toNat ah).dM)))))) then
     ret false
    else
     need (InI64 (g1+(1:Int)))<|
     self1 (g1+(1:Int))
 else
  bT (Bz l_ r_ d_) (0:Int)
noncomputable def xG (l_:(List aj)) (r_:bE) (d_:(List aI)):M Bool:=
 bnd (vY l_ d_) fun v1=>
 bnd (xE l_ d_) fun v2=>
 bT (Dr l_ r_ d_ v1 v2) (0:Int)
noncomputable def tN (l_:(List aj)) (v2:(List Bool)) (g2:(Int×(List Int)×(List Int))) (self2:(Int×(List Int)×(List Int))→M (bE×Int)):(List Int)→M (bE×Int):=fun g5=>
 need (0≤g2.1∧g2.1<(g5.length:Int))<|
 bif (decide ((g5.getD g2.1.toNat 0)<(0:Int))) then
  ret ((⟨([]:List Bool),([]:List Int)⟩:bE),(9:Int))
 else
  need (0≤g2.1∧g2.1<(l_.length:Int))<|
  bif (decide ((0:Int)≤(l_.getD g2.1.toNat ah).Parent)) then
   need (0≤(l_.getD g2.1.toNat ah).Parent∧(l_.getD g2.1.toNat ah).Parent<(g2.2.1.length:Int))<|
   bnd (lS l_ (⟨v2,g5⟩:bE) g2.1) fun v10=>
   need (0≤g2.1∧g2.1<(l_.length:Int))<|
   need (InI64 (v10+(l_.getD g2.1.toNat ah).dM))<|
   need (0≤(l_.getD g2.1.toNat ah).Parent∧(l_.getD g2.1.toNat ah).Parent<(g2.2.1.length:Int))<|
   need (InI64 (g2.1 - (1:Int)))<|
   self2 ((g2.1 - (1:Int)),(g2.2.1.set (((l_.getD g2.1.toNat ah).Parent).toNat) (if (v10+(l_.getD g2.1.toNat ah).dM) > (g2.2.1.getD (((l_.getD g2.1.toNat ah).Parent).toNat) 0) then (v10+(l_.getD g2.1.toNat ah).dM) else (g2.2.1.getD (((l_.getD g2.1.toNat ah).Parent).toNat) 0))),g5)
  else
   need (InI64 (g2.1 - (1:Int)))<|
   self2 ((g2.1 - (1:Int)),g2.2.1,g5)
noncomputable def BA (l_:(List aj)) (d_:(List aI)) (v2:(List Bool)) (self2:(Int×(List Int)×(List Int))→M (bE×Int)):(Int×(List Int)×(List Int))→M (bE×Int):=fun g2=>
 bif (decide ((0:Int)≤g2.1)) then
  need (0≤g2.1∧g2.1<(v2.length:Int))<|
  bif (!(v2.getD g2.1.toNat false)) then
   need (InI64 (g2.1 - (1:Int)))<|
   self2 ((g2.1 - (1:Int)),g2.2.1,g2.2.2)
  else
   need (0≤g2.1∧g2.1<(l_.length:Int))<|
   need (0≤g2.1∧g2.1<(g2.2.1.length:Int))<|
   bnd (xD (l_.getD g2.1.toNat ah) (g2.2.1.getD g2.1.toNat 0)) fun v11=>
   need (0≤g2.1∧g2.1<(g2.2.2.length:Int))<|
   (tN l_ v2 g2 self2) (g2.2.2.set (g2.1.toNat) v11)
 else
  bnd (xG l_ (⟨v2,g2.2.2⟩:bE) d_) fun v12=>
  bif (!v12) then
   ret ((⟨([]:List Bool),([]:List Int)⟩:bE),(9:Int))
  else
   ret ((⟨v2,g2.2.2⟩:bE),(0:Int))
noncomputable def Dt (l_:(List aj)) (d_:(List aI)) (v2:(List Bool)) (self1:(Int×(List Int)×(List Int))→M (bE×Int)):(Int×(List Int)×(List Int))→M (bE×Int):=fun g1=>
 bif (decide (g1.1<(d_.length:Int))) then
  need (0≤g1.1∧g1.1<(d_.length:Int))<|
  need (0≤(d_.getD g1.1.toNat bK).aM∧(d_.getD g1.1.toNat bK).aM<(g1.2.1.length:Int))<|
  need (0≤(d_.getD g1.1.toNat bK).aM∧(d_.getD g1.1.toNat bK).aM<(g1.2.1.length:Int))<|
  need (InI64 (g1.1+(1:Int)))<|
  self1 ((g1.1+(1:Int)),(g1.2.1.set (((d_.getD g1.1.toNat bK).aM).toNat) (if (d_.getD g1.1.toNat bK).Low > (g1.2.1.getD (((d_.getD g1.1.toNat bK).aM).toNat) 0) then (d_.getD g1.1.toNat bK).Low else (g1.2.1.getD (((d_.getD g1.1.toNat bK).aM).toNat) 0))),g1.2.2)
 else
  need (InI64 ((l_.length:Int) - (1:Int)))<|
  bT (BA l_ d_ v2) (((l_.length:Int) - (1:Int)),g1.2.1,g1.2.2)
noncomputable def xH (l_:(List aj)) (d_:(List aI)):M (bE×Int):=
 bnd (xC l_ d_) fun v1=>
 bif (v1 != (0:Int)) then
  ret ((⟨([]:List Bool),([]:List Int)⟩:bE),v1)
 else
  bnd (vY l_ d_) fun v2=>
  need (0≤(l_.length:Int)∧(l_.length:Int)*((8:Nat):Int)≤((big:Nat):Int))<|
  need (0≤(l_.length:Int)∧(l_.length:Int)*((8:Nat):Int)≤((big:Nat):Int))<|
  bT (Dt l_ d_ v2) ((0:Int),(List.replicate ((l_.length:Int).toNat) 0),(List.replicate ((l_.length:Int).toNat) 0))
noncomputable def xZ (s_:ByteArray) (self1:Int→M Bool):Int→M Bool:=fun g1=>
 bif (decide (g1<((s_.size:Nat):Int))) then
  need (0≤g1∧g1<((s_.size:Nat):Int))<|
  need ((decide ((97:Int)≤(dJ s_ g1.toNat)))=true→0≤g1∧g1<((s_.size:Nat):Int))<|
  need (((decide ((97:Int)≤(dJ s_ g1.toNat)))&&(decide ((dJ s_ g1.toNat)≤(122:Int))))=false→0≤g1∧g1<((s_.size:Nat):Int))<|
  need (((decide ((97:Int)≤(dJ s_ g1.toNat)))&&(decide ((dJ s_ g1.toNat)≤(122:Int))))=false→(decide ((48:Int)≤(dJ s_ g1.toNat)))=true→0≤g1∧g1<((s_.size:Nat):Int))<|
  need ((((decide ((97:Int)≤(dJ s_ g1.toNat)))&&(decide ((dJ s_ g1.toNat)≤(122:Int))))||((decide ((48:Int)≤(dJ s_ g1.toNat)))&&(decide ((dJ s_ g1.toNat)≤(57:Int)))))=false→0≤g1∧g1<((s_.size:Nat):Int))<|
  bif (!((((decide ((97:Int)≤(dJ s_ g1.toNat)))&&(decide ((dJ s_ g1.toNat)≤(122:Int))))||((decide ((48:Int)≤(dJ s_ g1.toNat)))&&(decide ((dJ s_ g1.toNat)≤(57:Int)))))||((dJ s_ g1.toNat)==(45:Int)))) then
   ret false
  else
   need (InI64 (g1+(1:Int)))<|
   self1 (g1+(1:Int))
 else
  ret true
noncomputable def lT (s_:ByteArray):M Bool:=
 need (((((s_.size:Nat):Int)==(0:Int))||(decide ((16:Int)<((s_.size:Nat):Int))))=false→0≤(0:Int)∧(0:Int)<((s_.size:Nat):Int))<|
 need ((((((s_.size:Nat):Int)==(0:Int))||(decide ((16:Int)<((s_.size:Nat):Int))))||(decide ((dJ s_ 0)<(97:Int))))=false→0≤(0:Int)∧(0:Int)<((s_.size:Nat):Int))<|
 bif ((((((s_.size:Nat):Int)==(0:Int))||(decide ((16:Int)<((s_.size:Nat):Int))))||(decide ((dJ s_ 0)<(97:Int))))||(decide ((122:Int)<(dJ s_ 0)))) then
  ret false
 else
  bT (xZ s_) (0:Int)
noncomputable def tO (p_:aR) (i_:Int) (g5:Int) (self5:Int→M Int) (self8:Int→M Int):Int→M Int:=fun g8=>
 bif (decide (g8<g5)) then
  need (0≤g8∧g8<((((p_.Groups.getD i_.toNat au).Functions).length:Nat):Int))<|
  need (0≤g5∧g5<((((p_.Groups.getD i_.toNat au).Functions).length:Nat):Int))<|
  bif ((((p_.Groups.getD i_.toNat au).Functions).getD g8.toNat ByteArray.empty).toList==(((p_.Groups.getD i_.toNat au).Functions).getD g5.toNat ByteArray.empty).toList) then
   ret (5:Int)
  else
   need (InI64 (g8+(1:Int)))<|
   self8 (g8+(1:Int))
 else
  need (InI64 (g5+(1:Int)))<|
  self5 (g5+(1:Int))
noncomputable def tQ (p_:aR) (i_:Int) (self5:Int→M Int):Int→M Int:=fun g5=>
 bif (decide (g5<((((p_.Groups.getD i_.toNat au).Functions).length:Nat):Int))) then
  bT (tO p_ i_ g5 self5) (0:Int)
 else
  ret (0:Int)
noncomputable def tT (p_:aR) (i_:Int) (self4:Int→M Int):Int→M Int:=fun g4=>
 bif (decide (g4<((((p_.Groups.getD i_.toNat au).Functions).length:Nat):Int))) then
  need (0≤g4∧g4<((((p_.Groups.getD i_.toNat au).Functions).length:Nat):Int))<|
  bnd (lT (((p_.Groups.getD i_.toNat au).Functions).getD g4.toNat ByteArray.empty)) fun v4=>
  bif (!v4) then
   ret (1:Int)
  else
   need (InI64 (g4+(1:Int)))<|
   self4 (g4+(1:Int))
 else
  bT (tQ p_ i_) (0:Int)
noncomputable def tV (p_:aR) (i_:Int) (self3:Int→M Int):Int→M Int:=fun g3=>
 bif (decide (g3<((((p_.Groups.getD i_.toNat au).bI).length:Nat):Int))) then
  need (0≤g3∧g3<((((p_.Groups.getD i_.toNat au).bI).length:Nat):Int))<|
  need (InI64 (g3 - (1:Int)))<|
  need (0≤(g3 - (1:Int))∧(g3 - (1:Int))<((((p_.Groups.getD i_.toNat au).bI).length:Nat):Int))<|
  bif (decide ((((p_.Groups.getD i_.toNat au).bI).getD g3.toNat 0)≤(((p_.Groups.getD i_.toNat au).bI).getD ((g3 - (1:Int)).toNat) 0))) then
   ret (12:Int)
  else
   need (InI64 (g3+(1:Int)))<|
   self3 (g3+(1:Int))
 else
  bT (tT p_ i_) (0:Int)
noncomputable def tX (p_:aR) (i_:Int) (self2:Int→M Int):Int→M Int:=fun g2=>
 bif (decide (g2<((((p_.Groups.getD i_.toNat au).bI).length:Nat):Int))) then
  need (0≤g2∧g2<((((p_.Groups.getD i_.toNat au).bI).length:Nat):Int))<|
  need ((decide ((((p_.Groups.getD i_.toNat au).bI).getD g2.toNat 0)<(0:Int)))=false→0≤g2∧g2<((((p_.Groups.getD i_.toNat au).bI).length:Nat):Int))<|
  bif ((decide ((((p_.Groups.getD i_.toNat au).bI).getD g2.toNat 0)<(0:Int)))||(decide (p_.bI≤(((p_.Groups.getD i_.toNat au).bI).getD g2.toNat 0)))) then
   ret (2:Int)
  else
   need (InI64 (g2+(1:Int)))<|
   self2 (g2+(1:Int))
 else
  bT (tV p_ i_) (1:Int)
noncomputable def vZ (p_:aR) (i_:Int) (self1:Int→M Int):Int→M Int:=fun g1=>
 bif (decide (g1<i_)) then
  need (0≤g1∧g1<(p_.Groups.length:Int))<|
  bif (((p_.Groups.getD g1.toNat au).Name).toList==((p_.Groups.getD i_.toNat au).Name).toList) then
   ret (5:Int)
  else
   need (InI64 (g1+(1:Int)))<|
   self1 (g1+(1:Int))
 else
  bif ((((((p_.Groups.getD i_.toNat au).bI).length:Nat):Int)==(0:Int))||(((((p_.Groups.getD i_.toNat au).Functions).length:Nat):Int)==(0:Int))) then
   ret (9:Int)
  else
   bif (decide ((8:Int)<((((p_.Groups.getD i_.toNat au).Functions).length:Nat):Int))) then
    ret (3:Int)
   else
    bT (tX p_ i_) (0:Int)
noncomputable def oI (p_:aR) (i_:Int):M Int:=
 need (0≤i_∧i_<(p_.Groups.length:Int))<|
 bnd (lT ((p_.Groups.getD i_.toNat au).Name)) fun v1=>
 bif (!v1) then
  ret (1:Int)
 else
  bT (vZ p_ i_) (0:Int)
noncomputable def wh (p_:aR) (self1:Int→M Int):Int→M Int:=fun g1=>
 bif (decide (g1<(p_.Groups.length:Int))) then
  bnd (oI p_ g1) fun v3=>
  bif (v3 != (0:Int)) then
   ret v3
  else
   need (InI64 (g1+(1:Int)))<|
   self1 (g1+(1:Int))
 else
  ret (0:Int)
noncomputable def lU (p_:aR):M Int:=
 bif ((decide (p_.bI<(0:Int)))||(decide ((64:Int)<p_.bI))) then
  ret (2:Int)
 else
  bif (decide ((24:Int)<(p_.Groups.length:Int))) then
   ret (3:Int)
  else
   bT (wh p_) (0:Int)
noncomputable def Du (l_:(List ByteArray)) (self1:Int→M Bool):Int→M Bool:=fun g1=>
 bif (decide (g1<(l_.length:Int))) then
  need (0≤g1∧g1<(l_.length:Int))<|
  bnd (lT (l_.getD g1.toNat ByteArray.empty)) fun v4=>
  bif (!v4) then
   ret false
  else
   need (InI64 (g1+(1:Int)))<|
   self1 (g1+(1:Int))
 else
  ret true
noncomputable def xI (p_:aR) (l_:(List ByteArray)):M Bool:=
 bnd (lU p_) fun v1=>
 bif ((v1 != (0:Int))||(decide ((10:Int)<(l_.length:Int)))) then
  ret false
 else
  bT (Du l_) (0:Int)
noncomputable def Dv (g_:aV) (function_:ByteArray) (self1:Int→M Int):Int→M Int:=fun g1=>
 bif (decide (g1<(g_.Functions.length:Int))) then
  need (0≤g1∧g1<(g_.Functions.length:Int))<|
  bif ((g_.Functions.getD g1.toNat ByteArray.empty).toList==function_.toList) then
   ret g1
  else
   need (InI64 (g1+(1:Int)))<|
   self1 (g1+(1:Int))
 else
  ret (-1:Int)
noncomputable def sN (g_:aV) (function_:ByteArray):M Int:=
 bT (Dv g_ function_) (0:Int)
noncomputable def wm (a_:(List Int)) (b_:(List Int)) (self1:(Int×Int)→M Bool):(Int×Int)→M Bool:=fun g1=>
 bif ((decide (g1.1<(a_.length:Int)))&&(decide (g1.2<(b_.length:Int)))) then
  need (0≤g1.1∧g1.1<(a_.length:Int))<|
  need (0≤g1.2∧g1.2<(b_.length:Int))<|
  bif ((a_.getD g1.1.toNat 0)==(b_.getD g1.2.toNat 0)) then
   ret true
  else
   need (0≤g1.1∧g1.1<(a_.length:Int))<|
   need (0≤g1.2∧g1.2<(b_.length:Int))<|
   bif (decide ((a_.getD g1.1.toNat 0)<(b_.getD g1.2.toNat 0))) then
    need (InI64 (g1.1+(1:Int)))<|
    self1 ((g1.1+(1:Int)),g1.2)
   else
    need (InI64 (g1.2+(1:Int)))<|
    self1 (g1.1,(g1.2+(1:Int)))
 else
  ret false
noncomputable def oJ (a_:(List Int)) (b_:(List Int)):M Bool:=
 bT (wm a_ b_) ((0:Int),(0:Int))
noncomputable def x9 (p_:aR) (groups_:(List Int)) (g_:Int) (self1:Int→M Bool):Int→M Bool:=fun g1=>
 bif (decide (g1<(groups_.length:Int))) then
  need (0≤g1∧g1<(groups_.length:Int))<|
  need ((decide ((0:Int)≤(groups_.getD g1.toNat 0)))=true→0≤g1∧g1<(groups_.length:Int))<|
  need ((decide ((0:Int)≤(groups_.getD g1.toNat 0)))=true→0≤(groups_.getD g1.toNat 0)∧(groups_.getD g1.toNat 0)<(p_.Groups.length:Int))<|
  need ((decide ((0:Int)≤(groups_.getD g1.toNat 0)))=true→0≤g_∧g_<(p_.Groups.length:Int))<|
  bnd (grd ((decide ((0:Int)≤(groups_.getD g1.toNat 0)))=true) (oJ ((p_.Groups.getD ((groups_.getD g1.toNat 0).toNat) au).bI) ((p_.Groups.getD g_.toNat au).bI))) fun v3=>
  bif ((decide ((0:Int)≤(groups_.getD g1.toNat 0)))&&v3) then
   ret false
  else
   need (InI64 (g1+(1:Int)))<|
   self1 (g1+(1:Int))
 else
  ret true
noncomputable def nX (p_:aR) (groups_:(List Int)) (g_:Int):M Bool:=
 bT (x9 p_ groups_ g_) (0:Int)
noncomputable def Fx (p_:aR) (l_:(List ByteArray)) (groups_:(List Int)) (self1:Int→M Bool):Int→M Bool:=fun g1=>
 bif (decide (g1<(groups_.length:Int))) then
  need (0≤g1∧g1<(groups_.length:Int))<|
  need (((decide ((groups_.getD g1.toNat 0)<(0:Int)))||(decide ((p_.Groups.length:Int)≤(groups_.getD g1.toNat 0))))=false→0≤(groups_.getD g1.toNat 0)∧(groups_.getD g1.toNat 0)<(p_.Groups.length:Int))<|
  need (((decide ((groups_.getD g1.toNat 0)<(0:Int)))||(decide ((p_.Groups.length:Int)≤(groups_.getD g1.toNat 0))))=false→0≤g1∧g1<(l_.length:Int))<|
  bnd (grd (((decide ((groups_.getD g1.toNat 0)<(0:Int)))||(decide ((p_.Groups.length:Int)≤(groups_.getD g1.toNat 0))))=false) (sN (p_.Groups.getD ((groups_.getD g1.toNat 0).toNat) au) (l_.getD g1.toNat ByteArray.empty))) fun v5=>
  need ((((decide ((groups_.getD g1.toNat 0)<(0:Int)))||(decide ((p_.Groups.length:Int)≤(groups_.getD g1.toNat 0))))||(decide (v5<(0:Int))))=false→0≤g1∧g1≤(groups_.length:Int))<|
  bnd (grd ((((decide ((groups_.getD g1.toNat 0)<(0:Int)))||(decide ((p_.Groups.length:Int)≤(groups_.getD g1.toNat 0))))||(decide (v5<(0:Int))))=false) (nX p_ (groups_.take (g1.toNat)) (groups_.getD g1.toNat 0))) fun v6=>
  bif ((((decide ((groups_.getD g1.toNat 0)<(0:Int)))||(decide ((p_.Groups.length:Int)≤(groups_.getD g1.toNat 0))))||(decide (v5<(0:Int))))||(!v6)) then
   ret false
  else
   need (InI64 (g1+(1:Int)))<|
   self1 (g1+(1:Int))
 else
  ret true
noncomputable def Af (p_:aR) (l_:(List ByteArray)) (groups_:(List Int)):M Bool:=
 bif (decide ((l_.length:Int)<(groups_.length:Int))) then
  ret false
 else
  bT (Fx p_ l_ groups_) (0:Int)
noncomputable def Ev (p_:aR) (l_:(List ByteArray)) (given_:(List Int)):M Int:=
 bnd (xI p_ l_) fun v1=>
 bif (!v1) then
  ret (1:Int)
 else
  bnd (Af p_ l_ given_) fun v2=>
  bif (!v2) then
   ret (40:Int)
  else
   ret (0:Int)
noncomputable def tY (p_:aR) (function_:ByteArray) (self1:(Int×(List Int))→M (List Int)):(Int×(List Int))→M (List Int):=fun g1=>
 bif (decide (g1.1<(p_.Groups.length:Int))) then
  need (0≤g1.1∧g1.1<(p_.Groups.length:Int))<|
  bnd (sN (p_.Groups.getD g1.1.toNat au) function_) fun v3=>
  bif (decide ((0:Int)≤v3)) then
   need ((g1.2.length+1)*8≤big)<|
   need (InI64 (g1.1+(1:Int)))<|
   self1 ((g1.1+(1:Int)),(g1.2++([g1.1]:List Int)))
  else
   need (InI64 (g1.1+(1:Int)))<|
   self1 ((g1.1+(1:Int)),g1.2)
 else
  ret g1.2
noncomputable def mD (p_:aR) (function_:ByteArray):M (List Int):=
 bT (tY p_ function_) ((0:Int),([]:List Int))
noncomputable def tZ (self0_:(aR×(List ByteArray)×(List Int))→M ((List Int)×Bool)) (a0_:(aR×(List ByteArray)×(List Int))) (v1:(List Int)) (self1:Int→M ((List Int)×Bool)):Int→M ((List Int)×Bool):=fun g1=>
 bif (decide (g1<(v1.length:Int))) then
  need (0≤g1∧g1<(v1.length:Int))<|
  bnd (nX a0_.1 a0_.2.2 (v1.getD g1.toNat 0)) fun v6=>
  bif (!v6) then
   need (InI64 (g1+(1:Int)))<|
   self1 (g1+(1:Int))
  else
   need (a0_.2.2.length*8≤big)<|
   need (0≤g1∧g1<(v1.length:Int))<|
   need ((a0_.2.2.length+1)*8≤big)<|
   bnd (self0_ (a0_.1,a0_.2.1,(a0_.2.2++([(v1.getD g1.toNat 0)]:List Int)))) fun v7=>
   bif v7.2 then
    ret (v7.1,true)
   else
    need (InI64 (g1+(1:Int)))<|
    self1 (g1+(1:Int))
 else
  ret (([]:List Int),false)
noncomputable def jg (self0_:(aR×(List ByteArray)×(List Int))→M ((List Int)×Bool)):(aR×(List ByteArray)×(List Int))→M ((List Int)×Bool):=fun a0_=>
 bif ((a0_.2.2.length:Int)==(a0_.2.1.length:Int)) then
  need (a0_.2.2.length*8≤big)<|
  ret (a0_.2.2,true)
 else
  need (0≤(a0_.2.2.length:Int)∧(a0_.2.2.length:Int)<(a0_.2.1.length:Int))<|
  bnd (mD a0_.1 (a0_.2.1.getD ((a0_.2.2.length:Int).toNat) ByteArray.empty)) fun v1=>
  bT (tZ self0_ a0_ v1) (0:Int)
noncomputable def mE (p_:aR) (l_:(List ByteArray)) (groups_:(List Int)):M ((List Int)×Bool):=
 bT jg (p_,l_,groups_)
noncomputable def mF (p_:aR) (l_:(List ByteArray)) (given_:(List Int)):M ((List Int)×Int):=
 bnd (Ev p_ l_ given_) fun v1=>
 bif (v1 != (0:Int)) then
  ret (([]:List Int),v1)
 else
  bnd (mE p_ l_ given_) fun v2=>
  bif (!v2.2) then
   ret (([]:List Int),(9:Int))
  else
   ret (v2.1,(0:Int))
noncomputable def uf (l_:(List bV)) (g1:Int) (self1:Int→M Int) (self7:Int→M Int):Int→M Int:=fun g7=>
 need (0≤g1∧g1<(l_.length:Int))<|
 bif (decide (g7<((((l_.getD g1.toNat dReset).After).length:Nat):Int))) then
  need (0≤g1∧g1<(l_.length:Int))<|
  need (0≤g7∧g7<((((l_.getD g1.toNat dReset).After).length:Nat):Int))<|
  need (0≤g1∧g1<(l_.length:Int))<|
  need (InI64 (g7 - (1:Int)))<|
  need (0≤(g7 - (1:Int))∧(g7 - (1:Int))<((((l_.getD g1.toNat dReset).After).length:Nat):Int))<|
  bif (decide ((((l_.getD g1.toNat dReset).After).getD g7.toNat 0)≤(((l_.getD g1.toNat dReset).After).getD ((g7 - (1:Int)).toNat) 0))) then
   ret (12:Int)
  else
   need (InI64 (g7+(1:Int)))<|
   self7 (g7+(1:Int))
 else
  need (InI64 (g1+(1:Int)))<|
  self1 (g1+(1:Int))
noncomputable def wo (l_:(List bV)) (g1:Int) (self1:Int→M Int) (self6:Int→M Int):Int→M Int:=fun g6=>
 need (0≤g1∧g1<(l_.length:Int))<|
 bif (decide (g6<((((l_.getD g1.toNat dReset).After).length:Nat):Int))) then
  need (0≤g1∧g1<(l_.length:Int))<|
  need (0≤g6∧g6<((((l_.getD g1.toNat dReset).After).length:Nat):Int))<|
  need ((decide ((((l_.getD g1.toNat dReset).After).getD g6.toNat 0)<(0:Int)))=false→0≤g1∧g1<(l_.length:Int))<|
  need ((decide ((((l_.getD g1.toNat dReset).After).getD g6.toNat 0)<(0:Int)))=false→0≤g6∧g6<((((l_.getD g1.toNat dReset).After).length:Nat):Int))<|
  bif ((decide ((((l_.getD g1.toNat dReset).After).getD g6.toNat 0)<(0:Int)))||(decide (g1≤(((l_.getD g1.toNat dReset).After).getD g6.toNat 0)))) then
   ret (2:Int)
  else
   need (InI64 (g6+(1:Int)))<|
   self6 (g6+(1:Int))
 else
  bT (uf l_ g1 self1) (1:Int)
noncomputable def wu (l_:(List bV)) (self1:Int→M Int):Int→M Int:=fun g1=>
 bif (decide (g1<(l_.length:Int))) then
  bT (wo l_ g1 self1) (0:Int)
 else
  ret (0:Int)
noncomputable def lV (l_:(List bV)):M Int:=
 bif (decide ((32:Int)<(l_.length:Int))) then
  ret (3:Int)
 else
  bT (wu l_) (0:Int)
noncomputable def qR (l_:(List bV)) (g2:(Int×(List Bool))) (self2:(Int×(List Bool))→M ((List Bool)×Int)) (self5:(Int×(List Bool))→M ((List Bool)×Int)):(Int×(List Bool))→M ((List Bool)×Int):=fun g5=>
 need (0≤g2.1∧g2.1<(l_.length:Int))<|
 need ((decide (g5.1<((((l_.getD g2.1.toNat dReset).After).length:Nat):Int)))=true→0≤g2.1∧g2.1<(g5.2.length:Int))<|
 bif ((decide (g5.1<((((l_.getD g2.1.toNat dReset).After).length:Nat):Int)))&&(g5.2.getD g2.1.toNat false)) then
  need (0≤g2.1∧g2.1<(l_.length:Int))<|
  need (0≤g5.1∧g5.1<((((l_.getD g2.1.toNat dReset).After).length:Nat):Int))<|
  need (0≤(((l_.getD g2.1.toNat dReset).After).getD g5.1.toNat 0)∧(((l_.getD g2.1.toNat dReset).After).getD g5.1.toNat 0)<(g5.2.length:Int))<|
  need (InI64 (g5.1+(1:Int)))<|
  self5 ((g5.1+(1:Int)),(g5.2.set ((((l_.getD g2.1.toNat dReset).After).getD g5.1.toNat 0).toNat) true))
 else
  need (InI64 (g2.1 - (1:Int)))<|
  self2 ((g2.1 - (1:Int)),g5.2)
noncomputable def qU (l_:(List bV)) (self2:(Int×(List Bool))→M ((List Bool)×Int)):(Int×(List Bool))→M ((List Bool)×Int):=fun g2=>
 bif (decide ((0:Int)≤g2.1)) then
  bT (qR l_ g2 self2) ((0:Int),g2.2)
 else
  ret (g2.2,(0:Int))
noncomputable def ug (l_:(List bV)) (lines_:(List Int)) (self1:(Int×(List Bool))→M ((List Bool)×Int)):(Int×(List Bool))→M ((List Bool)×Int):=fun g1=>
 bif (decide (g1.1<(lines_.length:Int))) then
  need (0≤g1.1∧g1.1<(lines_.length:Int))<|
  need ((decide ((lines_.getD g1.1.toNat 0)<(0:Int)))=false→0≤g1.1∧g1.1<(lines_.length:Int))<|
  bif ((decide ((lines_.getD g1.1.toNat 0)<(0:Int)))||(decide ((l_.length:Int)≤(lines_.getD g1.1.toNat 0)))) then
   ret (([]:List Bool),(2:Int))
  else
   need (0≤g1.1∧g1.1<(lines_.length:Int))<|
   need (0≤(lines_.getD g1.1.toNat 0)∧(lines_.getD g1.1.toNat 0)<(g1.2.length:Int))<|
   need (InI64 (g1.1+(1:Int)))<|
   self1 ((g1.1+(1:Int)),(g1.2.set ((lines_.getD g1.1.toNat 0).toNat) true))
 else
  need (InI64 ((l_.length:Int) - (1:Int)))<|
  bT (qU l_) (((l_.length:Int) - (1:Int)),g1.2)
noncomputable def mG (l_:(List bV)) (lines_:(List Int)):M ((List Bool)×Int):=
 bnd (lV l_) fun v1=>
 bif (v1 != (0:Int)) then
  ret (([]:List Bool),(1:Int))
 else
  need (0≤(l_.length:Int)∧(l_.length:Int)*((1:Nat):Int)≤((big:Nat):Int))<|
  bT (ug l_ lines_) ((0:Int),(List.replicate ((l_.length:Int).toNat) false))
noncomputable def Dw (l_:(List bH)) (self1:Int→M Int):Int→M Int:=fun g1=>
 bif (decide (g1<(l_.length:Int))) then
  need (0≤g1∧g1<(l_.length:Int))<|
  need ((decide ((l_.getD g1.toNat dD).Parent<(-1:Int)))=false→0≤g1∧g1<(l_.length:Int))<|
  bif ((decide ((l_.getD g1.toNat dD).Parent<(-1:Int)))||(decide (g1≤(l_.getD g1.toNat dD).Parent))) then
   ret (2:Int)
  else
   need (InI64 (g1+(1:Int)))<|
   self1 (g1+(1:Int))
 else
  ret (0:Int)
noncomputable def sO (l_:(List bH)):M Int:=
 bif (decide ((16:Int)<(l_.length:Int))) then
  ret (3:Int)
 else
  bT (Dw l_) (0:Int)
noncomputable def GV (l_:(List bH)) (users_:(List Int)) (self1:Int→M Int):Int→M Int:=fun g1=>
 bif (decide (g1<(users_.length:Int))) then
  need (0≤g1∧g1<(users_.length:Int))<|
  need ((decide ((users_.getD g1.toNat 0)<(0:Int)))=false→0≤g1∧g1<(users_.length:Int))<|
  bif ((decide ((users_.getD g1.toNat 0)<(0:Int)))||(decide ((l_.length:Int)≤(users_.getD g1.toNat 0)))) then
   ret (2:Int)
  else
   need (InI64 (g1+(1:Int)))<|
   self1 (g1+(1:Int))
 else
  ret (0:Int)
noncomputable def Ew (l_:(List bH)) (users_:(List Int)):M Int:=
 bnd (sO l_) fun v1=>
 bif (v1 != (0:Int)) then
  ret (1:Int)
 else
  bT (GV l_ users_) (0:Int)
noncomputable def vo (l_:(List bH)) (g2:(Int×(List Bool))) (self2:(Int×(List Bool))→M ((List Bool)×Int)):(List Bool)→M ((List Bool)×Int):=fun g5=>
 need (0≤g2.1∧g2.1<(g5.length:Int))<|
 need ((g5.getD g2.1.toNat false)=true→0≤g2.1∧g2.1<(l_.length:Int))<|
 bif ((g5.getD g2.1.toNat false)&&(decide ((0:Int)≤(l_.getD g2.1.toNat dD).Parent))) then
  need (0≤g2.1∧g2.1<(l_.length:Int))<|
  need (0≤(l_.getD g2.1.toNat dD).Parent∧(l_.getD g2.1.toNat dD).Parent<(g5.length:Int))<|
  need (InI64 (g2.1 - (1:Int)))<|
  self2 ((g2.1 - (1:Int)),(g5.set (((l_.getD g2.1.toNat dD).Parent).toNat) true))
 else
  need (InI64 (g2.1 - (1:Int)))<|
  self2 ((g2.1 - (1:Int)),g5)
noncomputable def Ag (l_:(List bH)) (self2:(Int×(List Bool))→M ((List Bool)×Int)):(Int×(List Bool))→M ((List Bool)×Int):=fun g2=>
 bif (decide ((0:Int)≤g2.1)) then
  need (0≤g2.1∧g2.1<(g2.2.length:Int))<|
  need ((g2.2.getD g2.1.toNat false)=false→0≤g2.1∧g2.1<(l_.length:Int))<|
  need (0≤g2.1∧g2.1<(g2.2.length:Int))<|
  (vo l_ g2 self2) (g2.2.set (g2.1.toNat) ((g2.2.getD g2.1.toNat false)||(l_.getD g2.1.toNat dD).Always))
 else
  ret (g2.2,(0:Int))
noncomputable def Dx (l_:(List bH)) (users_:(List Int)) (self1:(Int×(List Bool))→M ((List Bool)×Int)):(Int×(List Bool))→M ((List Bool)×Int):=fun g1=>
 bif (decide (g1.1<(users_.length:Int))) then
  need (0≤g1.1∧g1.1<(users_.length:Int))<|
  need (0≤(users_.getD g1.1.toNat 0)∧(users_.getD g1.1.toNat 0)<(g1.2.length:Int))<|
  need (InI64 (g1.1+(1:Int)))<|
  self1 ((g1.1+(1:Int)),(g1.2.set ((users_.getD g1.1.toNat 0).toNat) true))
 else
  need (InI64 ((l_.length:Int) - (1:Int)))<|
  bT (Ag l_) (((l_.length:Int) - (1:Int)),g1.2)
noncomputable def zh (l_:(List bH)) (users_:(List Int)):M ((List Bool)×Int):=
 bnd (Ew l_ users_) fun v1=>
 bif (v1 != (0:Int)) then
  ret (([]:List Bool),v1)
 else
  need (0≤(l_.length:Int)∧(l_.length:Int)*((1:Nat):Int)≤((big:Nat):Int))<|
  bT (Dx l_ users_) ((0:Int),(List.replicate ((l_.length:Int).toNat) false))
noncomputable def jA (l_:(List aO)) (m_:(List Int)) (g1:(Int×(List bn)×(List aI)×(List ByteArray)×(List Int)×(List Int)×(List Int))) (self1:(Int×(List bn)×(List aI)×(List ByteArray)×(List Int)×(List Int)×(List Int))→M (bX×Bool)) (g6:((List bn)×(List aI)×(List ByteArray)×(List Int)×(List Int))) (self7:(Int×(List Int))→M (bX×Bool)):(Int×(List Int))→M (bX×Bool):=fun g7=>
 bif (decide (g7.1<((((l_.getD ((m_.getD g1.1.toNat 0).toNat) aY).Functions).length:Nat):Int))) then
  need ((g7.2.length+1)*8≤big)<|
  need (InI64 (g7.1+(1:Int)))<|
  self7 ((g7.1+(1:Int)),(g7.2++([(m_.getD g1.1.toNat 0)]:List Int)))
 else
  need (InI64 (g1.1+(1:Int)))<|
  self1 ((g1.1+(1:Int)),g6.1,g6.2.1,g6.2.2.1,g6.2.2.2.1,g6.2.2.2.2,g7.2)
noncomputable def gF (l_:(List aO)) (m_:(List Int)) (g1:(Int×(List bn)×(List aI)×(List ByteArray)×(List Int)×(List Int)×(List Int))) (self1:(Int×(List bn)×(List aI)×(List ByteArray)×(List Int)×(List Int)×(List Int))→M (bX×Bool)):((List bn)×(List aI)×(List ByteArray)×(List Int)×(List Int))→M (bX×Bool):=fun g6=>
 need (0≤(m_.getD g1.1.toNat 0)∧(m_.getD g1.1.toNat 0)<(l_.length:Int))<|
 bT (jA l_ m_ g1 self1 g6) ((0:Int),g1.2.2.2.2.2.2)
noncomputable def pJ (b_:bF) (g1:(Int×(List bn)×(List aI)×(List ByteArray)×(List Int)×(List Int)×(List Int))) (v1:((List Int)×Int)) (g8:((List ByteArray)×Int×(List Bool)×(List Int))) (v3:((List Int)×Int)) (v4:((List Bool)×Int)) (v5:((List Bool)×Int)) (self9:(Int×(List aZ))→M (bX×Bool)):(Int×(List aZ))→M (bX×Bool):=fun g9=>
 bif (decide (g9.1<(v3.1.length:Int))) then
  need (0≤g9.1∧g9.1<(g1.2.2.2.2.2.2.length:Int))<|
  need (0≤g9.1∧g9.1<(v3.1.length:Int))<|
  need (0≤g9.1∧g9.1<(v3.1.length:Int))<|
  need (0≤(v3.1.getD g9.1.toNat 0)∧(v3.1.getD g9.1.toNat 0)<(b_.bD.Groups.length:Int))<|
  need (0≤g9.1∧g9.1<(g8.1.length:Int))<|
  bnd (sN (b_.bD.Groups.getD ((v3.1.getD g9.1.toNat 0).toNat) au) (g8.1.getD g9.1.toNat ByteArray.empty)) fun v8=>
  need ((g9.2.length+1)*24≤big)<|
  need (InI64 (g9.1+(1:Int)))<|
  self9 ((g9.1+(1:Int)),(g9.2++([(⟨(g1.2.2.2.2.2.2.getD g9.1.toNat 0),(⟨(v3.1.getD g9.1.toNat 0),v8⟩:oW)⟩:aZ)]:List aZ)))
 else
  ret ((⟨v1.1,(⟨g8.2.2.1,g8.2.2.2⟩:bE),g9.2,v4.1,v5.1⟩:bX),true)
noncomputable def lg (b_:bF) (g1:(Int×(List bn)×(List aI)×(List ByteArray)×(List Int)×(List Int)×(List Int))) (v1:((List Int)×Int)):((List ByteArray)×Int×(List Bool)×(List Int))→M (bX×Bool):=fun g8=>
 bnd (mF b_.bD g8.1 ([]:List Int)) fun v3=>
 bnd (mG b_.Resets g1.2.2.2.2.1) fun v4=>
 bnd (zh b_.bS g1.2.2.2.2.2.1) fun v5=>
 bif (((((v1.2 != (0:Int))||(g8.2.1 != (0:Int)))||(v3.2 != (0:Int)))||(v4.2 != (0:Int)))||(v5.2 != (0:Int))) then
  ret ((⟨([]:List Int),(⟨([]:List Bool),([]:List Int)⟩:bE),([]:List aZ),([]:List Bool),([]:List Bool)⟩:bX),false)
 else
  bT (pJ b_ g1 v1 g8 v3 v4 v5) ((0:Int),([]:List aZ))
noncomputable def qV (b_:bF) (l_:(List aO)) (m_:(List Int)) (self1:(Int×(List bn)×(List aI)×(List ByteArray)×(List Int)×(List Int)×(List Int))→M (bX×Bool)):(Int×(List bn)×(List aI)×(List ByteArray)×(List Int)×(List Int)×(List Int))→M (bX×Bool):=fun g1=>
 bif (decide (g1.1<(m_.length:Int))) then
  need (0≤g1.1∧g1.1<(m_.length:Int))<|
  need (0≤(m_.getD g1.1.toNat 0)∧(m_.getD g1.1.toNat 0)<(l_.length:Int))<|
  need ((g1.2.1.length+((l_.getD ((m_.getD g1.1.toNat 0).toNat) aY).Limits).length)*24≤big)<|
  need (0≤(m_.getD g1.1.toNat 0)∧(m_.getD g1.1.toNat 0)<(l_.length:Int))<|
  need ((g1.2.2.1.length+((l_.getD ((m_.getD g1.1.toNat 0).toNat) aY).Draws).length)*32≤big)<|
  need (0≤(m_.getD g1.1.toNat 0)∧(m_.getD g1.1.toNat 0)<(l_.length:Int))<|
  need ((g1.2.2.2.1.length+((l_.getD ((m_.getD g1.1.toNat 0).toNat) aY).Functions).length)*16≤big)<|
  need (0≤(m_.getD g1.1.toNat 0)∧(m_.getD g1.1.toNat 0)<(l_.length:Int))<|
  need ((g1.2.2.2.2.1.length+((l_.getD ((m_.getD g1.1.toNat 0).toNat) aY).Resets).length)*8≤big)<|
  need (0≤(m_.getD g1.1.toNat 0)∧(m_.getD g1.1.toNat 0)<(l_.length:Int))<|
  bif (decide ((0:Int)≤(l_.getD ((m_.getD g1.1.toNat 0).toNat) aY).fK)) then
   need (0≤(m_.getD g1.1.toNat 0)∧(m_.getD g1.1.toNat 0)<(l_.length:Int))<|
   need ((g1.2.2.2.2.2.1.length+1)*8≤big)<|
   (gF l_ m_ g1 self1) ((g1.2.1++(l_.getD ((m_.getD g1.1.toNat 0).toNat) aY).Limits),(g1.2.2.1++(l_.getD ((m_.getD g1.1.toNat 0).toNat) aY).Draws),(g1.2.2.2.1++(l_.getD ((m_.getD g1.1.toNat 0).toNat) aY).Functions),(g1.2.2.2.2.1++(l_.getD ((m_.getD g1.1.toNat 0).toNat) aY).Resets),(g1.2.2.2.2.2.1++([(l_.getD ((m_.getD g1.1.toNat 0).toNat) aY).fK]:List Int)))
  else
   (gF l_ m_ g1 self1) ((g1.2.1++(l_.getD ((m_.getD g1.1.toNat 0).toNat) aY).Limits),(g1.2.2.1++(l_.getD ((m_.getD g1.1.toNat 0).toNat) aY).Draws),(g1.2.2.2.1++(l_.getD ((m_.getD g1.1.toNat 0).toNat) aY).Functions),(g1.2.2.2.2.1++(l_.getD ((m_.getD g1.1.toNat 0).toNat) aY).Resets),g1.2.2.2.2.2.1)
 else
  bnd (xA b_.bO g1.2.1) fun v1=>
  bnd (xH b_.bC g1.2.2.1) fun v9=>
  (lg b_ g1 v1) (g1.2.2.2.1,v9.2,v9.1.On,v9.1.Level)
noncomputable def iW (b_:bF) (l_:(List aO)) (m_:(List Int)):M (bX×Bool):=
 bT (qV b_ l_ m_) ((0:Int),([]:List bn),([]:List aI),([]:List ByteArray),([]:List Int),([]:List Int),([]:List Int))
noncomputable def Dy (v1:(bF×bq)) (v2:((List aO)×bq)) (v3:(bX×Bool)) (self1:(Int×(List Int)×Int×(List Int)×(List Bool)×(List Int)×(List aZ)×(List Bool)×(List Bool)×(List Int))→M (bF×(List aO)×(List Int)×bX×Bool×bq)):(Int×(List Int)×Int×(List Int)×(List Bool)×(List Int)×(List aZ)×(List Bool)×(List Bool)×(List Int))→M (bF×(List aO)×(List Int)×bX×Bool×bq):=fun g1=>
 bif (decide (g1.1<(v2.1.length:Int))) then
  need (g1.2.2.2.2.2.2.2.2.2.length*8≤big)<|
  need ((g1.2.2.2.2.2.2.2.2.2.length+1)*8≤big)<|
  bnd (iW v1.1 v2.1 (g1.2.2.2.2.2.2.2.2.2++([g1.1]:List Int))) fun v8=>
  bif ((v3.2&&v8.2)==true) then
   bnd (bM (5:Int) (⟨g1.2.1,g1.2.2.1⟩:bq)) fun v9=>
   bif ((v3.2&&v8.2)&&(decide ((0:Int)<v9.1))) then
    need ((g1.2.2.2.2.2.2.2.2.2.length+1)*8≤big)<|
    need (InI64 (g1.1+(1:Int)))<|
    self1 ((g1.1+(1:Int)),v9.2.L,v9.2.At,v8.1.Setting,v8.1.fC.On,v8.1.fC.Level,v8.1.Uses,v8.1.Released,v8.1.eU,(g1.2.2.2.2.2.2.2.2.2++([g1.1]:List Int)))
   else
    need (InI64 (g1.1+(1:Int)))<|
    self1 ((g1.1+(1:Int)),v9.2.L,v9.2.At,g1.2.2.2.1,g1.2.2.2.2.1,g1.2.2.2.2.2.1,g1.2.2.2.2.2.2.1,g1.2.2.2.2.2.2.2.1,g1.2.2.2.2.2.2.2.2.1,g1.2.2.2.2.2.2.2.2.2)
  else
   need ((v3.2&&v8.2)=false)<|
   need (InI64 (g1.1+(1:Int)))<|
   self1 ((g1.1+(1:Int)),g1.2.1,g1.2.2.1,g1.2.2.2.1,g1.2.2.2.2.1,g1.2.2.2.2.2.1,g1.2.2.2.2.2.2.1,g1.2.2.2.2.2.2.2.1,g1.2.2.2.2.2.2.2.2.1,g1.2.2.2.2.2.2.2.2.2)
 else
  ret (v1.1,v2.1,g1.2.2.2.2.2.2.2.2.2,(⟨g1.2.2.2.1,(⟨g1.2.2.2.2.1,g1.2.2.2.2.2.1⟩:bE),g1.2.2.2.2.2.2.1,g1.2.2.2.2.2.2.2.1,g1.2.2.2.2.2.2.2.2.1⟩:bX),v3.2,(⟨g1.2.1,g1.2.2.1⟩:bq))
noncomputable def xJ (o0_:bq):M (bF×(List aO)×(List Int)×bX×Bool×bq):=
 bnd (nL o0_) fun v1=>
 bnd (kZ v1.1 (5:Int) v1.2) fun v2=>
 bnd (iW v1.1 v2.1 ([]:List Int)) fun v3=>
 bT (Dy v1 v2 v3) ((0:Int),v2.2.L,v2.2.At,v3.1.Setting,v3.1.fC.On,v3.1.fC.Level,v3.1.Uses,v3.1.Released,v3.1.eU,([]:List Int))
noncomputable def xK (b_:bF):M Int:=
 bnd (oG b_.bO) fun v1=>
 bif (v1 != (0:Int)) then
  ret v1
 else
  bnd (oH b_.bC) fun v2=>
  bif (v2 != (0:Int)) then
   ret v2
  else
   bnd (lU b_.bD) fun v3=>
   bif (v3 != (0:Int)) then
    ret v3
   else
    bnd (lV b_.Resets) fun v4=>
    bif (v4 != (0:Int)) then
     ret v4
    else
     bnd (sO b_.bS) fun v5=>
     ret v5
noncomputable def qW (t_:(List Int)) (gone_:Int):M Bool:=
 bif (decide ((400:Int)<(t_.length:Int))) then
  bnd (qQ) fun v1=>
  ret v1
 else
  bnd (Er t_) fun v2=>
  bnd (xJ (⟨v2.1,v2.2⟩:bq)) fun v3=>
  bnd (grd ((!v3.2.2.2.2.1)=false) (xK v3.1)) fun v4=>
  bif ((!v3.2.2.2.2.1)||(v4 != (0:Int))) then
   bnd (qQ) fun v5=>
   ret v5
  else
   bnd (dN v3.1 v3.2.1 v3.2.2.1 v3.2.2.2.1 false) fun v6=>
   bif (v6 != (0:Int)) then
    ret false
   else
    bif ((v3.2.2.1.length:Int)==(0:Int)) then
     bnd (dN v3.1 v3.2.1 v3.2.2.1 v3.2.2.2.1 true) fun v7=>
     bnd (grd ((v7==(0:Int))=true) (qQ)) fun v8=>
     ret ((v7==(0:Int))&&v8)
    else
     need ((v3.2.2.1.length:Int)≠0)<|
     need (0≤((IntKind.i64.wrap gone_).tmod (v3.2.2.1.length:Int))∧((IntKind.i64.wrap gone_).tmod (v3.2.2.1.length:Int))≤(v3.2.2.1.length:Int))<|
     need (((IntKind.i64.wrap gone_).tmod (v3.2.2.1.length:Int)).toNat*8≤big)<|
     need (InI64 (((IntKind.i64.wrap gone_).tmod (v3.2.2.1.length:Int))+(1:Int)))<|
     need (0≤(((IntKind.i64.wrap gone_).tmod (v3.2.2.1.length:Int))+(1:Int))∧(((IntKind.i64.wrap gone_).tmod (v3.2.2.1.length:Int))+(1:Int))≤(v3.2.2.1.length:Int))<|
     need ((((IntKind.i64.wrap gone_).tmod (v3.2.2.1.length:Int)).toNat+(v3.2.2.1.length - (((IntKind.i64.wrap gone_).tmod (v3.2.2.1.length:Int))+(1:Int)).toNat))*8≤big)<|
     bnd (dN v3.1 v3.2.1 v3.2.2.1 v3.2.2.2.1 true) fun v9=>
     bnd (grd ((v9==(0:Int))=true) (dN v3.1 v3.2.1 ((v3.2.2.1.take (((IntKind.i64.wrap gone_).tmod (v3.2.2.1.length:Int)).toNat))++((v3.2.2.1.drop ((((IntKind.i64.wrap gone_).tmod (v3.2.2.1.length:Int))+(1:Int)).toNat)).take ((v3.2.2.1.length - (((IntKind.i64.wrap gone_).tmod (v3.2.2.1.length:Int))+(1:Int)).toNat)))) v3.2.2.2.1 true)) fun v10=>
     bnd (grd (((v9==(0:Int))&&(v10==(0:Int)))=true) (dN v3.1 v3.2.1 ((v3.2.2.1.take (((IntKind.i64.wrap gone_).tmod (v3.2.2.1.length:Int)).toNat))++((v3.2.2.1.drop ((((IntKind.i64.wrap gone_).tmod (v3.2.2.1.length:Int))+(1:Int)).toNat)).take ((v3.2.2.1.length - (((IntKind.i64.wrap gone_).tmod (v3.2.2.1.length:Int))+(1:Int)).toNat)))) v3.2.2.2.1 false)) fun v11=>
     bnd (grd ((((v9==(0:Int))&&(v10==(0:Int)))&&(v11==(0:Int)))=true) (qQ)) fun v12=>
     ret ((((v9==(0:Int))&&(v10==(0:Int)))&&(v11==(0:Int)))&&v12)
end Go.Proofs.YtfblhejmclcdmaaGreatDoor

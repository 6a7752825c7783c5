/- An abstract machine over the model's code, that it is sound; models of the functions and their proofs. -/
import Derived.Test.YtccjmcmolnbiiaaGreatDoorA3
import Derived.Test.YtccjmcmolnbiiaaGreatDoorProg
import Derived.RangeFuncBox
import Derived.RangeFuncLeaves
import Derived.Shelf.Abstract
import Derived.WalkKit
import Derived.OwnWalkIn
import Derived.TacticsInMore
import Derived.LoopNIn
import Derived.LoopIn
import Derived.Test.YtccjmcmolnbiiaaGreatDoorCards
import Derived.Test.YtccjmcmolnbiiaaGreatDoorTie
import Derived.ProofKit
import Derived.OpenShut
import Derived.Carry
import Derived.LaidMore
import Derived.Deep.DeepHandedRow
set_option linter.unusedVariables false
set_option linter.unusedSimpArgs false

namespace Go.Proofs.YtccjmcmolnbiiaaGreatDoor
open Go.Ab
set_option maxRecDepth 100000
noncomputable section
structure bC where
 Clock:Int
 Low:Int
 High:Int
def bM:bC:=⟨0,0,0⟩
instance:Inhabited bC:=⟨bM⟩
structure bL where
 cK:Int
 Low:Int
 High:Int
 Load:Int
def cO:bL:=⟨0,0,0,0⟩
instance:Inhabited bL:=⟨cO⟩
structure aP where
 Limits:(List bC)
 Draws:(List bL)
 Functions:(List ByteArray)
 Resets:(List Int)
 dQ:Int
 bY:(List Int)
def bD:aP:=⟨[],[],[],[],0,[]⟩
instance:Inhabited aP:=⟨bD⟩
structure aY where
 Name:ByteArray
 bK:(List Int)
 Functions:(List ByteArray)
def aU:aY:=⟨ByteArray.empty,[],[]⟩
instance:Inhabited aY:=⟨aU⟩
structure aS where
 Kind:Int
 Parents:(List Int)
 Choices:(List Int)
 Low:Int
 High:Int
def aO:aS:=⟨0,[],[],0,0⟩
instance:Inhabited aS:=⟨aO⟩
structure aK where
 Parent:Int
 bN:(List Int)
 dR:Int
 gD:Int
 Always:Bool
def aC:aK:=⟨0,[],0,0,false⟩
instance:Inhabited aK:=⟨aC⟩
structure bG where
 bK:Int
 Groups:(List aY)
def zG:bG:=⟨0,[]⟩
instance:Inhabited bG:=⟨zG⟩
structure bJ where
 After:(List Int)
def dReset:bJ:=⟨[]⟩
instance:Inhabited bJ:=⟨dReset⟩
structure bF where
 Parent:Int
 Always:Bool
def dD:bF:=⟨0,false⟩
instance:Inhabited bF:=⟨dD⟩
structure bB where
 Clocks:(List aS)
 Supplies:(List aK)
 aT:bG
 Resets:(List bJ)
 bH:(List bF)
def AY:bB:=⟨[],[],zG,[],[]⟩
instance:Inhabited bB:=⟨AY⟩
structure kH where
 bQ:Int
 Function:Int
def dU:kH:=⟨0,0⟩
instance:Inhabited kH:=⟨dU⟩
structure aG where
 Device:Int
 Use:kH
def aN:aG:=⟨0,dU⟩
instance:Inhabited aG:=⟨aN⟩
structure bS where
 BS:Int
 yu:Int
 flow:Int
 BH:Int
 AZ:Bool
def iJ:bS:=⟨0,0,0,0,false⟩
instance:Inhabited bS:=⟨iJ⟩
structure aX where
 Num:Int
 Den:Int
def bR:aX:=⟨0,0⟩
instance:Inhabited aX:=⟨bR⟩
structure bO where
 qX:Int
 Cm:Int
 BU:Int
def ddemand:bO:=⟨0,0,0⟩
instance:Inhabited bO:=⟨ddemand⟩
structure bg where
 On:(List Bool)
 Level:(List Int)
def A8:bg:=⟨[],[]⟩
instance:Inhabited bg:=⟨A8⟩
structure aR where
 Setting:(List Int)
 bZ:bg
 Uses:(List aG)
 Released:(List Bool)
 dh:(List Bool)
def A9:aR:=⟨[],A8,[],[],[]⟩
instance:Inhabited aR:=⟨A9⟩
structure bW where
 aI:bB
 bf:(List aP)
 aD:(List Int)
 aF:aR
 dF:Bool
def BX:bW:=⟨AY,[],[],A9,false⟩
instance:Inhabited bW:=⟨BX⟩
structure aQ where
 bI:(List (List Int))
 mG:(List Int)
 lC:(List Int)
 lD:Int
def Ba:aQ:=⟨[],[],[],0⟩
instance:Inhabited aQ:=⟨Ba⟩
def Bv (X:(Nat→Int)):AV:=.agg (dA 64 0 (nG iV X))
def yw (x:bC):AV:=.agg [iV x.Clock,iV x.Low,iV x.High]
def yU (x:bL):AV:=.agg [iV x.cK,iV x.Low,iV x.High,iV x.Load]
def bT (l:List bC):AV:=.sl 3 l.length false (rowG yw bM l)
def cB (l:List bL):AV:=.sl 4 l.length false (rowG yU cO l)
def cZ (l:List ByteArray):AV:=.sl 1 l.length false (rowG AV.str ByteArray.empty l)
abbrev slInt (l:List Int):AV:=intsV l
def nU (x:aP):AV:=.agg [bT x.Limits,cB x.Draws,cZ x.Functions,slInt x.Resets,iV x.dQ,slInt x.bY]
def tJ (x:aY):AV:=.agg [.str x.Name,slInt x.bK,cZ x.Functions]
def zw (x:aS):AV:=.agg [iV x.Kind,slInt x.Parents,slInt x.Choices,iV x.Low,iV x.High]
def o9 (x:aK):AV:=.agg [iV x.Parent,slInt x.bN,iV x.dR,iV x.gD,.bool x.Always]
def aL (l:List aY):AV:=.sl 3 l.length false (rowG tJ aU l)
def mH (x:bG):AV:=.agg [iV x.bK,aL x.Groups]
def BZ (x:bJ):AV:=.agg [slInt x.After]
def Bw (x:bF):AV:=.agg [iV x.Parent,.bool x.Always]
def aM (l:List aS):AV:=.sl 5 l.length false (rowG zw aO l)
def aH (l:List aK):AV:=.sl 5 l.length false (rowG o9 aC l)
def aZ (l:List bJ):AV:=.sl 1 l.length false (rowG BZ dReset l)
def aV (l:List bF):AV:=.sl 2 l.length false (rowG Bw dD l)
def iA (x:bB):AV:=.agg [aM x.Clocks,aH x.Supplies,iV x.aT.bK,aL x.aT.Groups,aZ x.Resets,aV x.bH]
def Ca (x:kH):AV:=.agg [iV x.bQ,iV x.Function]
def eX (x:aG):AV:=.agg [iV x.Device,iV x.Use.bQ,iV x.Use.Function]
def pq (x:bS):AV:=.agg [iV x.BS,iV x.yu,iV x.flow,iV x.BH,.bool x.AZ]
def iL (x:aX):AV:=.agg [iV x.Num,iV x.Den]
def vdemand (x:bO):AV:=.agg [iV x.qX,iV x.Cm,iV x.BU]
def aJ (l:List Bool):AV:=.sl 1 l.length false (rowG AV.bool false l)
def wC (x:bg):AV:=.agg [aJ x.On,slInt x.Level]
def bn (l:List aG):AV:=.sl 3 l.length false (rowG eX aN l)
def je (x:aR):AV:=.agg [slInt x.Setting,aJ x.bZ.On,slInt x.bZ.Level,bn x.Uses,aJ x.Released,aJ x.dh]
def bq (l:List aP):AV:=.sl 6 l.length false (rowG nU bD l)
def mI (x:bW):AV:=.agg [aM x.aI.Clocks,aH x.aI.Supplies,iV x.aI.aT.bK,aL x.aI.aT.Groups,aZ x.aI.Resets,aV x.aI.bH,bq x.bf,slInt x.aD,slInt x.aF.Setting,aJ x.aF.bZ.On,slInt x.aF.bZ.Level,bn x.aF.Uses,aJ x.aF.Released,aJ x.aF.dh,.bool x.dF]
def jf (l:List (List Int)):AV:=.sl 1 l.length false (rowG slInt [] l)
def uG (l:List Int):AV:=.sl 1 l.length false (rowG (AV.int .u64) 0 l)
def wD (x:aQ):AV:=.agg [jf x.bI,uG x.mG,slInt x.lC,.int .u64 x.lD]
def yV (l:List kH):AV:=.sl 2 l.length false (rowG Ca dU l)
def lT (l:List bS):AV:=.sl 5 l.length false (rowG pq iJ l)
def jg (l:List aX):AV:=.sl 2 l.length false (rowG iL bR l)
def iM (l:List bO):AV:=.sl 3 l.length false (rowG vdemand ddemand l)
def qb (c_:aS):M Bool:=ret ((decide ((8:Int)<(c_.Parents.length:Int)))||(decide ((8:Int)<(c_.Choices.length:Int))))
def jh (s_:(List aS)) (self1:Int→M Int):Int→M Int:=fun g1=>bif (decide (g1<(s_.length:Int))) then need (0≤g1∧g1<(s_.length:Int))<|bnd (qb (s_.getD g1.toNat aO)) fun v3=>bif v3 then ret g1 else need (InI64 (g1+1))<|self1 (g1+1) else ret (-1:Int)
def fq (s_:(List aS)):M Int:=bA (jh s_) 0
def dV (s_:(List aS)):M Bool:=bnd (fq s_) fun v1=>ret (decide ((0:Int)≤v1))
def dn (n_:Int) (lo_:Int) (hi_:Int):M Bool:=ret ((decide (lo_≤n_))&&(decide (n_≤hi_)))
def qc (p_:Int) (a1_:Int):M Bool:=need (InI64 (a1_ - 1))<|bnd (dn p_ 0 (a1_ - 1)) fun v1=>ret (!v1)
def lU (s_:(List Int)) (f_:Int) (self1:Int→M Int):Int→M Int:=fun g1=>bif (decide (g1<(s_.length:Int))) then need (0≤g1∧g1<(s_.length:Int))<|bnd (qc (s_.getD g1.toNat 0) f_) fun v3=>bif v3 then ret g1 else need (InI64 (g1+1))<|self1 (g1+1) else ret (-1:Int)
def iN (s_:(List Int)) (f_:Int):M Int:=bA (lU s_ f_) 0
def fM (s_:(List Int)) (f_:Int):M Bool:=bnd (iN s_ f_) fun v1=>ret (decide ((0:Int)≤v1))
def pE (s_:(List Int)) (v_:Int) (self1:Int→M Int):Int→M Int:=fun g1=>bif (decide (g1<(s_.length:Int))) then need (0≤g1∧g1<(s_.length:Int))<|bif (v_==(s_.getD g1.toNat 0)) then ret g1 else need (InI64 (g1+1))<|self1 (g1+1) else ret (-1:Int)
def slices_Index_int (s_:(List Int)) (v_:Int):M Int:=bA (pE s_ v_) 0
def slices_Contains_int (s_:(List Int)) (v_:Int):M Bool:=bnd (slices_Index_int s_ v_) fun v1=>ret (decide ((0:Int)≤v1))
def qz (l_:(List Int)) (lo_:Int) (hi_:Int) (self1:Int→M Bool):Int→M Bool:=fun g1=>bif (decide (g1<(l_.length:Int))) then need (0≤g1∧g1<(l_.length:Int))<|bnd (dn (l_.getD g1.toNat 0) lo_ hi_) fun v5=>need ((!v5)=false→0≤g1∧g1≤(l_.length:Int))<|bnd (grd ((!v5)=false) (slices_Contains_int (l_.take (g1.toNat)) (l_.getD g1.toNat 0))) fun v6=>bif ((!v5)||v6) then ret false else need (InI64 (g1+1))<|self1 (g1+1) else ret true
def dW (l_:(List Int)) (lo_:Int) (hi_:Int):M Bool:=bA (qz l_ lo_ hi_) 0
def pF (s1_:(List Int)) (s2_:(List Int)) (self1:Int→M Bool):Int→M Bool:=fun g1=>bif (decide (g1<(s1_.length:Int))) then need (0≤g1∧g1<(s1_.length:Int))<|need (0≤g1∧g1<(s2_.length:Int))<|bif ((s1_.getD g1.toNat 0) != (s2_.getD g1.toNat 0)) then ret false else need (InI64 (g1+1))<|self1 (g1+1) else ret true
def slices_Equal_int (s1_:(List Int)) (s2_:(List Int)):M Bool:=bif ((s1_.length:Int) != (s2_.length:Int)) then ret false else bA (pF s1_ s2_) 0
def uH (c_:aS) (at_:Int):M Bool:=bnd (fM c_.Parents at_) fun v1=>bnd (grd (v1=false) (dn c_.High 0 4000000000)) fun v2=>bnd (grd ((v1||(!v2))=false) (dn c_.Low 0 c_.High)) fun v3=>bif ((v1||(!v2))||(!v3)) then ret false else bif (c_.Kind==1) then need ((((c_.Parents.length:Int)==0)&&((c_.Choices.length:Int)==1))=true→0≤(0:Int)∧(0:Int)<(c_.Choices.length:Int))<|bnd (grd ((((c_.Parents.length:Int)==0)&&((c_.Choices.length:Int)==1))=true) (dn (c_.Choices.getD 0 0) 1 4000000000)) fun v4=>ret ((((c_.Parents.length:Int)==0)&&((c_.Choices.length:Int)==1))&&v4) else bif (c_.Kind==2) then bif (c_.Kind==2) then bnd (grd ((((c_.Parents.length:Int)==1)&&(decide ((0:Int)<(c_.Choices.length:Int))))=true) (dW c_.Choices 1 64)) fun v5=>ret ((((c_.Parents.length:Int)==1)&&(decide ((0:Int)<(c_.Choices.length:Int))))&&v5) else bif (c_.Kind==4) then need ((decide ((0:Int)<(c_.Choices.length:Int)))=true→InI64 ((c_.Parents.length:Int) - 1))<|bnd (grd ((decide ((0:Int)<(c_.Choices.length:Int)))=true) (dW c_.Choices 0 ((c_.Parents.length:Int) - 1))) fun v6=>ret ((decide ((0:Int)<(c_.Choices.length:Int)))&&v6) else bif (c_.Kind==5) then bif (((c_.Parents.length:Int)==1)==true) then bnd (grd (((c_.Parents.length:Int)==1)=true) (slices_Equal_int c_.Choices ([0,1]:List Int))) fun v7=>ret (((c_.Parents.length:Int)==1)&&v7) else ret (((c_.Parents.length:Int)==1)&&false) else ret false else bif (c_.Kind==3) then bnd (grd ((((c_.Parents.length:Int)==1)&&(decide ((0:Int)<(c_.Choices.length:Int))))=true) (dW c_.Choices 1 64)) fun v8=>ret ((((c_.Parents.length:Int)==1)&&(decide ((0:Int)<(c_.Choices.length:Int))))&&v8) else bif (c_.Kind==4) then need ((decide ((0:Int)<(c_.Choices.length:Int)))=true→InI64 ((c_.Parents.length:Int) - 1))<|bnd (grd ((decide ((0:Int)<(c_.Choices.length:Int)))=true) (dW c_.Choices 0 ((c_.Parents.length:Int) - 1))) fun v9=>ret ((decide ((0:Int)<(c_.Choices.length:Int)))&&v9) else bif (c_.Kind==5) then bif (((c_.Parents.length:Int)==1)==true) then bnd (grd (((c_.Parents.length:Int)==1)=true) (slices_Equal_int c_.Choices ([0,1]:List Int))) fun v10=>ret (((c_.Parents.length:Int)==1)&&v10) else ret (((c_.Parents.length:Int)==1)&&false) else ret false
def ji (l_:(List aS)) (g2:(Int×Int×(List Int))) (self2:(Int×Int×(List Int))→M Int):(List Int)→M Int:=fun g8=>need (InI64 (g2.1*((((l_.getD g2.2.1.toNat aO).Choices).length:Nat):Int)))<|need ((decide ((4096:Int)<(g2.1*((((l_.getD g2.2.1.toNat aO).Choices).length:Nat):Int))))=false→0≤g2.2.1∧g2.2.1<(g8.length:Int))<|bif ((decide ((4096:Int)<(g2.1*((((l_.getD g2.2.1.toNat aO).Choices).length:Nat):Int))))||(decide ((4:Int)<(g8.getD g2.2.1.toNat 0)))) then ret (3:Int) else need (InI64 (g2.2.1+1))<|self2 ((g2.1*((((l_.getD g2.2.1.toNat aO).Choices).length:Nat):Int)),(g2.2.1+1),g8)
def uW (l_:(List aS)) (g2:(Int×Int×(List Int))) (self2:(Int×Int×(List Int))→M Int) (self7:(Int×(List Int))→M Int):(Int×(List Int))→M Int:=fun g7=>bif (decide (g7.1<((((l_.getD g2.2.1.toNat aO).Parents).length:Nat):Int))) then need (0≤g7.1∧g7.1<((((l_.getD g2.2.1.toNat aO).Parents).length:Nat):Int))<|need (0≤g2.2.1∧g2.2.1<(g7.2.length:Int))<|need (0≤(((l_.getD g2.2.1.toNat aO).Parents).getD g7.1.toNat 0)∧(((l_.getD g2.2.1.toNat aO).Parents).getD g7.1.toNat 0)<(g7.2.length:Int))<|need (0≤g2.2.1∧g2.2.1<(g7.2.length:Int))<|need (InI64 (g7.1+1))<|self7 ((g7.1+1),(g7.2.set (g2.2.1.toNat) (if (g7.2.getD ((((l_.getD g2.2.1.toNat aO).Parents).getD g7.1.toNat 0).toNat) 0) > (g7.2.getD g2.2.1.toNat 0) then (g7.2.getD ((((l_.getD g2.2.1.toNat aO).Parents).getD g7.1.toNat 0).toNat) 0) else (g7.2.getD g2.2.1.toNat 0)))) else bif (((l_.getD g2.2.1.toNat aO).Kind==2)||((l_.getD g2.2.1.toNat aO).Kind==3)) then need (0≤g2.2.1∧g2.2.1<(g7.2.length:Int))<|need (InI64 ((g7.2.getD g2.2.1.toNat 0)+1))<|need (0≤g2.2.1∧g2.2.1<(g7.2.length:Int))<|(ji l_ g2 self2) (g7.2.set (g2.2.1.toNat) ((g7.2.getD g2.2.1.toNat 0)+1)) else (ji l_ g2 self2) g7.2
def uX (l_:(List aS)) (self2:(Int×Int×(List Int))→M Int):(Int×Int×(List Int))→M Int:=fun g2=>bif (decide (g2.2.1<(l_.length:Int))) then need (0≤g2.2.1∧g2.2.1<(l_.length:Int))<|bA (uW l_ g2 self2) (0,g2.2.2) else ret (0:Int)
def wE (l_:(List aS)) (self1:Int→M Int):Int→M Int:=fun g1=>bif (decide (g1<(l_.length:Int))) then need (0≤g1∧g1<(l_.length:Int))<|bnd (uH (l_.getD g1.toNat aO) g1) fun v4=>bif (!v4) then ret (1:Int) else need (InI64 (g1+1))<|self1 (g1+1) else need (0≤(l_.length:Int)∧(l_.length:Int)*((8:Nat):Int)≤((big:Nat):Int))<|bA (uX l_) (1,0,(List.replicate ((l_.length:Int).toNat) 0))
def fO (l_:(List aS)):M Int:=bnd (grd ((decide ((16:Int)<(l_.length:Int)))=false) (dV l_)) fun v1=>bif ((decide ((16:Int)<(l_.length:Int)))||v1) then ret (3:Int) else bA (wE l_) 0
def nV (s_:aK):M Bool:=ret (decide ((16:Int)<(s_.bN.length:Int)))
def jk (s_:(List aK)) (self1:Int→M Int):Int→M Int:=fun g1=>bif (decide (g1<(s_.length:Int))) then need (0≤g1∧g1<(s_.length:Int))<|bnd (nV (s_.getD g1.toNat aC)) fun v3=>bif v3 then ret g1 else need (InI64 (g1+1))<|self1 (g1+1) else ret (-1:Int)
def fA (s_:(List aK)):M Int:=bA (jk s_) 0
def dX (s_:(List aK)):M Bool:=bnd (fA s_) fun v1=>ret (decide ((0:Int)≤v1))
def bX (n_:Int) (lo_:Int) (hi_:Int):M Bool:=ret ((decide (lo_≤n_))&&(decide (n_≤hi_)))
def uY (s_:aK) (self1:Int→M Bool):Int→M Bool:=fun g1=>bif (decide (g1<(s_.bN.length:Int))) then need (0≤g1∧g1<(s_.bN.length:Int))<|bnd (bX (s_.bN.getD g1.toNat 0) 1 5000) fun v6=>need ((!v6)=false→(decide ((0:Int)<g1))=true→InI64 (g1 - 1))<|need ((!v6)=false→(decide ((0:Int)<g1))=true→0≤(g1 - 1)∧(g1 - 1)<(s_.bN.length:Int))<|bif ((!v6)||((decide ((0:Int)<g1))&&(decide ((s_.bN.getD g1.toNat 0)≤(s_.bN.getD ((g1 - 1).toNat) 0))))) then ret false else need (InI64 (g1+1))<|self1 (g1+1) else ret true
def qY (s_:aK) (at_:Int):M Bool:=need (InI64 (at_ - 1))<|bnd (bX s_.Parent (-1:Int) (at_ - 1)) fun v1=>bnd (grd (((!v1)||((s_.bN.length:Int)==0))=false) (bX s_.dR 0 5000)) fun v2=>bnd (grd (((((!v1)||((s_.bN.length:Int)==0))||(!v2))||((decide (s_.Parent<0))&&(s_.dR != 0)))=false) (bX s_.gD 0 10000)) fun v3=>bif (((((!v1)||((s_.bN.length:Int)==0))||(!v2))||((decide (s_.Parent<0))&&(s_.dR != 0)))||(!v3)) then ret false else bA (uY s_) 0
def uZ (l_:(List aK)) (self1:Int→M Int):Int→M Int:=fun g1=>bif (decide (g1<(l_.length:Int))) then need (0≤g1∧g1<(l_.length:Int))<|bnd (qY (l_.getD g1.toNat aC) g1) fun v4=>bif (!v4) then ret (1:Int) else need (InI64 (g1+1))<|self1 (g1+1) else ret (0:Int)
def gF (l_:(List aK)):M Int:=bnd (grd ((decide ((16:Int)<(l_.length:Int)))=false) (dX l_)) fun v1=>bif ((decide ((16:Int)<(l_.length:Int)))||v1) then ret (3:Int) else bA (uZ l_) 0
def yx (s_:ByteArray) (self1:Int→M Bool):Int→M Bool:=fun g1=>bif (decide (g1<((s_.size:Nat):Int))) then need (0≤g1∧g1<((s_.size:Nat):Int))<|bif ((((jN s_ g1.toNat) != 45)&&((decide ((jN s_ g1.toNat)<48))||(decide ((57:Int)<(jN s_ g1.toNat)))))&&((decide ((jN s_ g1.toNat)<97))||(decide ((122:Int)<(jN s_ g1.toNat))))) then ret false else need (InI64 (g1+1))<|self1 (g1+1) else ret true
def lV (s_:ByteArray):M Bool:=need (((s_.toList==({ data:=#[] }:ByteArray).toList)||(decide ((16:Int)<((s_.size:Nat):Int))))=false→0≤(0:Int)∧(0:Int)<((s_.size:Nat):Int))<|need ((((s_.toList==({ data:=#[] }:ByteArray).toList)||(decide ((16:Int)<((s_.size:Nat):Int))))||(decide ((jN s_ 0)<97)))=false→0≤(0:Int)∧(0:Int)<((s_.size:Nat):Int))<|bif ((((s_.toList==({ data:=#[] }:ByteArray).toList)||(decide ((16:Int)<((s_.size:Nat):Int))))||(decide ((jN s_ 0)<97)))||(decide ((122:Int)<(jN s_ 0)))) then ret false else bA (yx s_) 1
def mJ (s_:(List ByteArray)) (v_:ByteArray) (self1:Int→M Int):Int→M Int:=fun g1=>bif (decide (g1<(s_.length:Int))) then need (0≤g1∧g1<(s_.length:Int))<|bif (v_.toList==(s_.getD g1.toNat ByteArray.empty).toList) then ret g1 else need (InI64 (g1+1))<|self1 (g1+1) else ret (-1:Int)
def slices_Index_string (s_:(List ByteArray)) (v_:ByteArray):M Int:=bA (mJ s_ v_) 0
def slices_Contains_string (s_:(List ByteArray)) (v_:ByteArray):M Bool:=bnd (slices_Index_string s_ v_) fun v1=>ret (decide ((0:Int)≤v1))
def wF (g_:aY) (self4:Int→M Int):Int→M Int:=fun g4=>bif (decide (g4<(g_.Functions.length:Int))) then need (0≤g4∧g4<(g_.Functions.length:Int))<|need (0≤g4∧g4≤(g_.Functions.length:Int))<|bnd (slices_Contains_string (g_.Functions.take (g4.toNat)) (g_.Functions.getD g4.toNat ByteArray.empty)) fun v6=>bif v6 then ret (5:Int) else need (InI64 (g4+1))<|self4 (g4+1) else ret (0:Int)
def wG (g_:aY) (self3:Int→M Int):Int→M Int:=fun g3=>bif (decide (g3<(g_.Functions.length:Int))) then need (0≤g3∧g3<(g_.Functions.length:Int))<|bnd (lV (g_.Functions.getD g3.toNat ByteArray.empty)) fun v3=>bif (!v3) then ret (1:Int) else need (InI64 (g3+1))<|self3 (g3+1) else bA (wF g_) 0
def wH (g_:aY) (self2:Int→M Int):Int→M Int:=fun g2=>bif (decide (g2<(g_.bK.length:Int))) then need (0≤g2∧g2<(g_.bK.length:Int))<|need (InI64 (g2 - 1))<|need (0≤(g2 - 1)∧(g2 - 1)<(g_.bK.length:Int))<|bif (decide ((g_.bK.getD g2.toNat 0)≤(g_.bK.getD ((g2 - 1).toNat) 0))) then ret (12:Int) else need (InI64 (g2+1))<|self2 (g2+1) else bA (wG g_) 0
def xB (pins_:Int) (g_:aY) (self1:Int→M Int):Int→M Int:=fun g1=>bif (decide (g1<(g_.bK.length:Int))) then need (0≤g1∧g1<(g_.bK.length:Int))<|bif ((decide ((g_.bK.getD g1.toNat 0)<0))||(decide (pins_≤(g_.bK.getD g1.toNat 0)))) then ret (2:Int) else need (InI64 (g1+1))<|self1 (g1+1) else bA (wH g_) 1
def wI (pins_:Int) (g_:aY):M Int:=bif (((g_.bK.length:Int)==0)||((g_.Functions.length:Int)==0)) then ret (9:Int) else bif (decide ((8:Int)<(g_.Functions.length:Int))) then ret (3:Int) else bA (xB pins_ g_) 0
def xC (p_:bG) (self1:(Int×(jd→Option Int))→M Int):(Int×(jd→Option Int))→M Int:=fun g1=>bif (decide (g1.1<(p_.Groups.length:Int))) then need (0≤g1.1∧g1.1<(p_.Groups.length:Int))<|bnd (lV ((p_.Groups.getD g1.1.toNat aU).Name)) fun v5=>bif (!v5) then ret (1:Int) else bif ((pz g1.2 (.s ((p_.Groups.getD g1.1.toNat aU).Name))) != 0) then ret (5:Int) else bnd (wI p_.bK (p_.Groups.getD g1.1.toNat aU)) fun v6=>bif (v6 != 0) then ret v6 else need (InI64 (g1.1+1))<|self1 ((g1.1+1),(qQ g1.2 (.s ((p_.Groups.getD g1.1.toNat aU).Name)) (bif true then 1 else 0))) else ret (0:Int)
def jO (p_:bG):M Int:=bif ((decide (p_.bK<0))||(decide ((64:Int)<p_.bK))) then ret (2:Int) else bif (decide ((24:Int)<(p_.Groups.length:Int))) then ret (3:Int) else bA (xC p_) (0,(fun _=>none))
def u6 (l_:(List bJ)) (g1:Int) (self1:Int→M Int) (self7:Int→M Int):Int→M Int:=fun g7=>bif (decide (g7<((((l_.getD g1.toNat dReset).After).length:Nat):Int))) then need (0≤g7∧g7<((((l_.getD g1.toNat dReset).After).length:Nat):Int))<|need (InI64 (g7 - 1))<|need (0≤(g7 - 1)∧(g7 - 1)<((((l_.getD g1.toNat dReset).After).length:Nat):Int))<|bif (decide ((((l_.getD g1.toNat dReset).After).getD g7.toNat 0)≤(((l_.getD g1.toNat dReset).After).getD ((g7 - 1).toNat) 0))) then ret (12:Int) else need (InI64 (g7+1))<|self7 (g7+1) else need (InI64 (g1+1))<|self1 (g1+1)
def wJ (l_:(List bJ)) (g1:Int) (self1:Int→M Int) (self6:Int→M Int):Int→M Int:=fun g6=>bif (decide (g6<((((l_.getD g1.toNat dReset).After).length:Nat):Int))) then need (0≤g6∧g6<((((l_.getD g1.toNat dReset).After).length:Nat):Int))<|bif ((decide ((((l_.getD g1.toNat dReset).After).getD g6.toNat 0)<0))||(decide (g1≤(((l_.getD g1.toNat dReset).After).getD g6.toNat 0)))) then ret (2:Int) else need (InI64 (g6+1))<|self6 (g6+1) else bA (u6 l_ g1 self1) 1
def wK (l_:(List bJ)) (self1:Int→M Int):Int→M Int:=fun g1=>bif (decide (g1<(l_.length:Int))) then need (0≤g1∧g1<(l_.length:Int))<|bA (wJ l_ g1 self1) 0 else ret (0:Int)
def kT (l_:(List bJ)):M Int:=bif (decide ((32:Int)<(l_.length:Int))) then ret (3:Int) else bA (wK l_) 0
def u7 (l_:(List bF)) (self1:Int→M Int):Int→M Int:=fun g1=>bif (decide (g1<(l_.length:Int))) then need (0≤g1∧g1<(l_.length:Int))<|bif ((decide ((l_.getD g1.toNat dD).Parent<(-1:Int)))||(decide (g1≤(l_.getD g1.toNat dD).Parent))) then ret (2:Int) else need (InI64 (g1+1))<|self1 (g1+1) else ret (0:Int)
def jJ (l_:(List bF)):M Int:=bif (decide ((16:Int)<(l_.length:Int))) then ret (3:Int) else bA (u7 l_) 0
def nW (b_:bB):M Int:=bnd (fO b_.Clocks) fun v1=>bif (v1 != 0) then ret v1 else bnd (gF b_.Supplies) fun v2=>bif (v2 != 0) then ret v2 else bnd (jO b_.aT) fun v3=>bif (v3 != 0) then ret v3 else bnd (kT b_.Resets) fun v4=>bif (v4 != 0) then ret v4 else bnd (jJ b_.bH) fun v5=>ret v5
def nX (n_:aP):M (List bC):=ret n_.Limits
def lF (l_:(List aP)) (members_:(List Int)) (self1:(Int×(List bC))→M (List bC)):(Int×(List bC))→M (List bC):=fun g1=>bif (decide (g1.1<(members_.length:Int))) then need (0≤g1.1∧g1.1<(members_.length:Int))<|bif ((decide ((0:Int)≤(members_.getD g1.1.toNat 0)))&&(decide ((members_.getD g1.1.toNat 0)<(l_.length:Int)))) then need (0≤(members_.getD g1.1.toNat 0)∧(members_.getD g1.1.toNat 0)<(l_.length:Int))<|bnd (nX (l_.getD ((members_.getD g1.1.toNat 0).toNat) bD)) fun v3=>need ((g1.2.length+v3.length)*24≤big)<|need (InI64 (g1.1+1))<|self1 ((g1.1+1),(g1.2++v3)) else need (InI64 (g1.1+1))<|self1 ((g1.1+1),g1.2) else ret g1.2
def gU (l_:(List aP)) (members_:(List Int)):M (List bC):=bA (lF l_ members_) (0,[])
def qZ (l_:(List aP)) (members_:(List Int)):M (List bC):=bnd (gU l_ members_) fun v1=>ret v1
def qg (n_:aP):M (List bL):=ret n_.Draws
def lW (l_:(List aP)) (members_:(List Int)) (self1:(Int×(List bL))→M (List bL)):(Int×(List bL))→M (List bL):=fun g1=>bif (decide (g1.1<(members_.length:Int))) then need (0≤g1.1∧g1.1<(members_.length:Int))<|bif ((decide ((0:Int)≤(members_.getD g1.1.toNat 0)))&&(decide ((members_.getD g1.1.toNat 0)<(l_.length:Int)))) then need (0≤(members_.getD g1.1.toNat 0)∧(members_.getD g1.1.toNat 0)<(l_.length:Int))<|bnd (qg (l_.getD ((members_.getD g1.1.toNat 0).toNat) bD)) fun v3=>need ((g1.2.length+v3.length)*32≤big)<|need (InI64 (g1.1+1))<|self1 ((g1.1+1),(g1.2++v3)) else need (InI64 (g1.1+1))<|self1 ((g1.1+1),g1.2) else ret g1.2
def iO (l_:(List aP)) (members_:(List Int)):M (List bL):=bA (lW l_ members_) (0,[])
def uI (l_:(List aP)) (members_:(List Int)):M (List bL):=bnd (iO l_ members_) fun v1=>ret v1
def kU (n_:aP):M (List ByteArray):=ret n_.Functions
def mK (l_:(List aP)) (members_:(List Int)) (self1:(Int×(List ByteArray))→M (List ByteArray)):(Int×(List ByteArray))→M (List ByteArray):=fun g1=>bif (decide (g1.1<(members_.length:Int))) then need (0≤g1.1∧g1.1<(members_.length:Int))<|bif ((decide ((0:Int)≤(members_.getD g1.1.toNat 0)))&&(decide ((members_.getD g1.1.toNat 0)<(l_.length:Int)))) then need (0≤(members_.getD g1.1.toNat 0)∧(members_.getD g1.1.toNat 0)<(l_.length:Int))<|bnd (kU (l_.getD ((members_.getD g1.1.toNat 0).toNat) bD)) fun v3=>need ((g1.2.length+v3.length)*16≤big)<|need (InI64 (g1.1+1))<|self1 ((g1.1+1),(g1.2++v3)) else need (InI64 (g1.1+1))<|self1 ((g1.1+1),g1.2) else ret g1.2
def jA (l_:(List aP)) (members_:(List Int)):M (List ByteArray):=bA (mK l_ members_) (0,[])
def mY (l_:(List aP)) (members_:(List Int)):M (List ByteArray):=bnd (jA l_ members_) fun v1=>ret v1
def nY (x_:bC) (a1_:(List aS)):M Bool:=need (InI64 ((a1_.length:Int) - 1))<|bnd (dn x_.Clock 0 ((a1_.length:Int) - 1)) fun v1=>bnd (grd ((!v1)=false) (dn x_.High 0 4000000000)) fun v2=>bnd (grd (((!v1)||(!v2))=false) (dn x_.Low 0 x_.High)) fun v3=>ret (((!v1)||(!v2))||(!v3))
def jl (s_:(List bC)) (f_:(List aS)) (self1:Int→M Int):Int→M Int:=fun g1=>bif (decide (g1<(s_.length:Int))) then need (0≤g1∧g1<(s_.length:Int))<|bnd (nY (s_.getD g1.toNat bM) f_) fun v3=>bif v3 then ret g1 else need (InI64 (g1+1))<|self1 (g1+1) else ret (-1:Int)
def fB (s_:(List bC)) (f_:(List aS)):M Int:=bA (jl s_ f_) 0
def dY (s_:(List bC)) (f_:(List aS)):M Bool:=bnd (fB s_ f_) fun v1=>ret (decide ((0:Int)≤v1))
def mM (l_:(List aS)) (m_:(List bC)):M Bool:=bnd (fO l_) fun v1=>bnd (grd (((v1==(0:Int))&&(decide ((m_.length:Int)≤32)))=true) (dY m_ l_)) fun v2=>ret (((v1==(0:Int))&&(decide ((m_.length:Int)≤32)))&&(!v2))
def q8 (l_:(List aS)) (m_:(List bC)):M Int:=bnd (fO l_) fun v1=>bif (v1 != 0) then ret v1 else bnd (mM l_ m_) fun v2=>bif (!v2) then ret (1:Int) else ret (0:Int)
def xD (l_:(List aS)) (m_:(List bC)) (self2:(Int×(List bS))→M (List bS)):(Int×(List bS))→M (List bS):=fun g2=>bif (decide (g2.1<(l_.length:Int))) then need (0≤g2.1∧g2.1<(l_.length:Int))<|bif ((l_.getD g2.1.toNat aO).High != 0) then need (InI64 ((m_.length:Int)+g2.1))<|need ((g2.2.length+1)*40≤big)<|need (InI64 (g2.1+1))<|self2 ((g2.1+1),(g2.2++([(⟨((m_.length:Int)+g2.1),g2.1,(l_.getD g2.1.toNat aO).Low,(l_.getD g2.1.toNat aO).High,true⟩:bS)]:List bS))) else need (InI64 (g2.1+1))<|self2 ((g2.1+1),g2.2) else ret g2.2
def xE (l_:(List aS)) (m_:(List bC)) (self1:(Int×(List bS))→M (List bS)):(Int×(List bS))→M (List bS):=fun g1=>bif (decide (g1.1<(m_.length:Int))) then need (0≤g1.1∧g1.1<(m_.length:Int))<|need ((g1.2.length+1)*40≤big)<|need (InI64 (g1.1+1))<|self1 ((g1.1+1),(g1.2++([(⟨g1.1,(m_.getD g1.1.toNat bM).Clock,(m_.getD g1.1.toNat bM).Low,(m_.getD g1.1.toNat bM).High,false⟩:bS)]:List bS))) else bA (xD l_ m_) (0,g1.2)
def wL (l_:(List aS)) (m_:(List bC)):M (List bS):=bA (xE l_ m_) (0,[])
def tK (l_:(List aS)) (s_:(List Int)) (self1:Int→M Bool):Int→M Bool:=fun g1=>bif (decide (g1<(s_.length:Int))) then need (0≤g1∧g1<(s_.length:Int))<|need (0≤g1∧g1<(l_.length:Int))<|need (InI64 (((((l_.getD g1.toNat aO).Choices).length:Nat):Int) - 1))<|bnd (dn (s_.getD g1.toNat 0) 0 (((((l_.getD g1.toNat aO).Choices).length:Nat):Int) - 1)) fun v3=>bif (!v3) then ret false else need (InI64 (g1+1))<|self1 (g1+1) else ret true
def iK (l_:(List aS)) (s_:(List Int)):M Bool:=bif ((s_.length:Int) != (l_.length:Int)) then ret false else bA (tK l_ s_) 0
def mO (l_:(List aS)) (s_:(List Int)) (clock_:Int):M Int:=need (0≤clock_∧clock_<(l_.length:Int))<|bif ((l_.getD clock_.toNat aO).Kind==1) then ret (-1:Int) else bif ((l_.getD clock_.toNat aO).Kind==4) then need (0≤clock_∧clock_<(s_.length:Int))<|need (0≤(s_.getD clock_.toNat 0)∧(s_.getD clock_.toNat 0)<((((l_.getD clock_.toNat aO).Choices).length:Nat):Int))<|need (0≤(((l_.getD clock_.toNat aO).Choices).getD ((s_.getD clock_.toNat 0).toNat) 0)∧(((l_.getD clock_.toNat aO).Choices).getD ((s_.getD clock_.toNat 0).toNat) 0)<((((l_.getD clock_.toNat aO).Parents).length:Nat):Int))<|ret (((l_.getD clock_.toNat aO).Parents).getD ((((l_.getD clock_.toNat aO).Choices).getD ((s_.getD clock_.toNat 0).toNat) 0).toNat) 0) else need (0≤(0:Int)∧(0:Int)<((((l_.getD clock_.toNat aO).Parents).length:Nat):Int))<|ret (((l_.getD clock_.toNat aO).Parents).getD 0 0)
def wM (self1:(Int×Int)→M Int):(Int×Int)→M Int:=fun g1=>bif (g1.2 != 0) then need (g1.2≠0)<|self1 (g1.2,(g1.1.tmod g1.2)) else ret g1.1
def iP (a_:Int) (b_:Int):M Int:=bA wM (a_,b_)
def jP (r_:aX):M Bool:=bnd (grd (((((decide ((0:Int)≤r_.Num))&&(decide (r_.Num≤144115188075855872)))&&(decide ((1:Int)≤r_.Den)))&&(decide (r_.Den≤16777216)))=true) (iP r_.Num r_.Den)) fun v1=>ret (((((decide ((0:Int)≤r_.Num))&&(decide (r_.Num≤144115188075855872)))&&(decide ((1:Int)≤r_.Den)))&&(decide (r_.Den≤16777216)))&&(v1==(1:Int)))
def uJ (a00_:Int) (a01_:Int) (a1_:Int):M (Int×Int):=bnd (iP a00_ a1_) fun v1=>need (v1≠0∧InI64 (a00_.tdiv v1))<|need (v1≠0∧InI64 (a1_.tdiv v1))<|need (InI64 (a01_*(a1_.tdiv v1)))<|ret ((a00_.tdiv v1),(a01_*(a1_.tdiv v1)))
def wN (num_:Int) (den_:Int):M (aX×Int):=bif ((decide (num_<0))||(decide (den_<1))) then ret ((⟨0,0⟩:aX),2) else bnd (iP num_ den_) fun v1=>need (v1≠0∧InI64 (num_.tdiv v1))<|need (v1≠0∧InI64 (den_.tdiv v1))<|bnd (jP (⟨(num_.tdiv v1),(den_.tdiv v1)⟩:aX)) fun v2=>bif (!v2) then ret ((⟨0,0⟩:aX),2) else ret ((⟨(num_.tdiv v1),(den_.tdiv v1)⟩:aX),0)
def uK (r_:aX) (k_:Int) (scale0_:Int) (scale1_:Int) (scale2_:Int):M (aX×Int):=bnd (jP r_) fun v1=>bif (!v1) then ret ((⟨0,0⟩:aX),1) else bif ((decide (k_<1))||(decide ((64:Int)<k_))) then ret ((⟨0,0⟩:aX),2) else bnd (uJ scale0_ scale1_ scale2_) fun v2=>bnd (wN v2.1 v2.2) fun v3=>ret (v3.1,v3.2)
def tL (r_:aX) (k_:Int):M (aX×Int):=bnd (uK r_ k_ r_.Num r_.Den k_) fun v1=>ret (v1.1,v1.2)
def q9 (a0_:Int) (a10_:Int) (a11_:Int):M (Int×Int):=bnd (iP a0_ a11_) fun v1=>need (v1≠0∧InI64 (a0_.tdiv v1))<|need ((a0_.tdiv v1)≠0∧InI64 ((144115188075855872:Int).tdiv (a0_.tdiv v1)))<|bif (decide (((144115188075855872:Int).tdiv (a0_.tdiv v1))<a10_)) then ret ((-1:Int),1) else need (v1≠0∧InI64 (a0_.tdiv v1))<|need (InI64 (a10_*(a0_.tdiv v1)))<|need (v1≠0∧InI64 (a11_.tdiv v1))<|ret ((a10_*(a0_.tdiv v1)),(a11_.tdiv v1))
def nZ (r_:aX) (k_:Int) (scale0_:Int) (scale1_:Int) (scale2_:Int):M (aX×Int):=bnd (jP r_) fun v1=>bif (!v1) then ret ((⟨0,0⟩:aX),1) else bif ((decide (k_<1))||(decide ((64:Int)<k_))) then ret ((⟨0,0⟩:aX),2) else bnd (q9 scale0_ scale1_ scale2_) fun v2=>bnd (wN v2.1 v2.2) fun v3=>ret (v3.1,v3.2)
def qA (r_:aX) (k_:Int):M (aX×Int):=bnd (nZ r_ k_ k_ r_.Num r_.Den) fun v1=>ret (v1.1,v1.2)
def wO (l_:(List aS)) (o0_:(List Int)) (self1:(Int×(List aX))→M (List aX)):(Int×(List aX))→M (List aX):=fun g1=>bif (decide (g1.1<(l_.length:Int))) then need (0≤g1.1∧g1.1<(l_.length:Int))<|need (0≤g1.1∧g1.1<(o0_.length:Int))<|need (0≤(o0_.getD g1.1.toNat 0)∧(o0_.getD g1.1.toNat 0)<((((l_.getD g1.1.toNat aO).Choices).length:Nat):Int))<|bnd (mO l_ o0_ g1.1) fun v7=>bif (decide (v7<(0:Int))) then need (0≤g1.1∧g1.1<(g1.2.length:Int))<|need (InI64 (g1.1+1))<|self1 ((g1.1+1),(g1.2.set (g1.1.toNat) (⟨(((l_.getD g1.1.toNat aO).Choices).getD ((o0_.getD g1.1.toNat 0).toNat) 0),1⟩:aX))) else need (0≤v7∧v7<(g1.2.length:Int))<|bif ((((g1.2.getD v7.toNat bR).Num==0)&&(((g1.2.getD v7.toNat bR).Den==1)&&true))||(((l_.getD g1.1.toNat aO).Kind==5)&&((((l_.getD g1.1.toNat aO).Choices).getD ((o0_.getD g1.1.toNat 0).toNat) 0)==0))) then need (0≤g1.1∧g1.1<(g1.2.length:Int))<|need (InI64 (g1.1+1))<|self1 ((g1.1+1),(g1.2.set (g1.1.toNat) (⟨0,1⟩:aX))) else bif ((l_.getD g1.1.toNat aO).Kind==2) then need (0≤v7∧v7<(g1.2.length:Int))<|bnd (tL (g1.2.getD v7.toNat bR) (((l_.getD g1.1.toNat aO).Choices).getD ((o0_.getD g1.1.toNat 0).toNat) 0)) fun v8=>need (0≤g1.1∧g1.1<(g1.2.length:Int))<|need (InI64 (g1.1+1))<|self1 ((g1.1+1),(g1.2.set (g1.1.toNat) v8.1)) else bif ((l_.getD g1.1.toNat aO).Kind==3) then need (0≤v7∧v7<(g1.2.length:Int))<|bnd (qA (g1.2.getD v7.toNat bR) (((l_.getD g1.1.toNat aO).Choices).getD ((o0_.getD g1.1.toNat 0).toNat) 0)) fun v9=>need (0≤g1.1∧g1.1<(g1.2.length:Int))<|need (InI64 (g1.1+1))<|self1 ((g1.1+1),(g1.2.set (g1.1.toNat) v9.1)) else need (0≤v7∧v7<(g1.2.length:Int))<|need (0≤g1.1∧g1.1<(g1.2.length:Int))<|need (InI64 (g1.1+1))<|self1 ((g1.1+1),(g1.2.set (g1.1.toNat) (g1.2.getD v7.toNat bR))) else ret g1.2
def uL (l_:(List aS)) (o0_:(List Int)):M (List aX):=need (0≤(l_.length:Int)∧(l_.length:Int)*((16:Nat):Int)≤((big:Nat):Int))<|bA (wO l_ o0_) (0,(List.replicate ((l_.length:Int).toNat) bR))
def uM (l_:(List aS)) (o0_:(List Int)):M ((List aX)×Int):=bnd (fO l_) fun v1=>bif (v1 != 0) then ret (([]:List aX),v1) else bnd (iK l_ o0_) fun v2=>bif (!v2) then ret (([]:List aX),1) else bnd (uL l_ o0_) fun v3=>ret (v3,0)
def kV (r_:aX) (low_:Int) (high_:Int):M Bool:=bnd (jP r_) fun v1=>bif (!v1) then ret false else need (r_.Den≠0∧InI64 (r_.Num.tdiv r_.Den))<|need (r_.Den≠0)<|ret ((decide (low_≤(r_.Num.tdiv r_.Den)))&&((decide ((r_.Num.tdiv r_.Den)<high_))||(((r_.Num.tdiv r_.Den)==high_)&&((r_.Num.tmod r_.Den)==0))))
def iQ (b_:bS) (r_:aX):M Bool:=bif (r_.Num==0) then ret (!b_.AZ) else bnd (kV r_ b_.flow b_.BH) fun v1=>ret (!v1)
def slices_Clone_int (o0_:(List Int)):M (List Int):=need (o0_.length*8≤big)<|ret o0_
def og (breaks_:Int) (o0_:(List Int)) (o1_:(List Int)) (o2_:Bool):M (Bool×(List Int)×Bool):=bif (breaks_==0) then bnd (slices_Clone_int o0_) fun v1=>ret ((!true),v1,true) else ret ((!o2_),o1_,o2_)
def lX (g1:((List Int)×Bool×(List Int))) (self1:((List Int)×Bool×(List Int))→M ((List Int)×Bool)) (v16:(Bool×(List Int)×Bool)):Int→M ((List Int)×Bool):=fun g12=>bif (decide (g12<(0:Int))) then ret (v16.2.1,v16.2.2) else need (0≤g12∧g12<(g1.2.2.length:Int))<|need (InI64 ((g1.2.2.getD g12.toNat 0)+1))<|need (0≤g12∧g12<(g1.2.2.length:Int))<|need (InI64 (g12+1))<|need (0≤(g12+1)∧(g12+1)≤(g1.2.2.length:Int))<|self1 (v16.2.1,v16.2.2,(uU (g1.2.2.set (g12.toNat) ((g1.2.2.getD g12.toNat 0)+1)) ((0+(g12+1).toNat)) (List.replicate ((g1.2.2.length - (g12+1).toNat)) 0)))
def tN (l_:(List aS)) (g1:((List Int)×Bool×(List Int))) (kk:Int→M ((List Int)×Bool)) (self13:Int→M ((List Int)×Bool)):Int→M ((List Int)×Bool):=fun g13=>need ((decide ((0:Int)≤g13))=true→0≤g13∧g13<(g1.2.2.length:Int))<|need ((decide ((0:Int)≤g13))=true→0≤g13∧g13<(l_.length:Int))<|need ((decide ((0:Int)≤g13))=true→InI64 (((((l_.getD g13.toNat aO).Choices).length:Nat):Int) - 1))<|bif ((decide ((0:Int)≤g13))&&((g1.2.2.getD g13.toNat 0)==(((((l_.getD g13.toNat aO).Choices).length:Nat):Int) - 1))) then need (InI64 (g13 - 1))<|self13 (g13 - 1) else kk g13
def vg (l_:(List aS)) (v1:(List bS)) (g1:((List Int)×Bool×(List Int))) (self1:((List Int)×Bool×(List Int))→M ((List Int)×Bool)) (v12:((List aX)×Int)) (self10:(Int×Int)→M ((List Int)×Bool)):(Int×Int)→M ((List Int)×Bool):=fun g10=>bif (decide (g10.2<(v1.length:Int))) then need (0≤g10.2∧g10.2<(v1.length:Int))<|need (0≤(v1.getD g10.2.toNat iJ).yu∧(v1.getD g10.2.toNat iJ).yu<(v12.1.length:Int))<|bnd (iQ (v1.getD g10.2.toNat iJ) (v12.1.getD (((v1.getD g10.2.toNat iJ).yu).toNat) bR)) fun v15=>bif v15 then need (0≤g10.2)<|need (InI64 (g10.2+1))<|self10 ((Bb .u64 g10.1 (zH .u64 1 g10.2)),(g10.2+1)) else need (InI64 (g10.2+1))<|self10 (g10.1,(g10.2+1)) else bnd (og g10.1 g1.2.2 g1.1 g1.2.1) fun v16=>bif (!v16.1) then ret (v16.2.1,v16.2.2) else need (InI64 ((g1.2.2.length:Int) - 1))<|bA (tN l_ g1 (lX g1 self1 v16)) ((g1.2.2.length:Int) - 1)
def vk (l_:(List aS)) (v1:(List bS)) (self1:((List Int)×Bool×(List Int))→M ((List Int)×Bool)):((List Int)×Bool×(List Int))→M ((List Int)×Bool):=fun g1=>bnd (uM l_ g1.2.2) fun v12=>bA (vg l_ v1 g1 self1 v12) (0,0)
def ru (l_:(List aS)) (m_:(List bC)) (o0_:(List Int)) (o1_:Bool):M ((List Int)×Bool):=bnd (wL l_ m_) fun v1=>need (0≤(l_.length:Int)∧(l_.length:Int)*((8:Nat):Int)≤((big:Nat):Int))<|bA (vk l_ v1) (o0_,o1_,(List.replicate ((l_.length:Int).toNat) 0))
def rz (l_:(List aS)) (m_:(List bC)):M ((List Int)×Int):=bnd (q8 l_ m_) fun v1=>bif (v1 != 0) then ret (([]:List Int),v1) else bnd (ru l_ m_ [] false) fun v2=>bif (!v2.2) then ret (([]:List Int),9) else ret (v2.1,0)
def oh (x_:bL) (a1_:(List aK)):M Bool:=need (InI64 ((a1_.length:Int) - 1))<|bnd (bX x_.cK 0 ((a1_.length:Int) - 1)) fun v1=>bnd (grd ((!v1)=false) (bX x_.High 0 5000)) fun v2=>bnd (grd (((!v1)||(!v2))=false) (bX x_.Low 0 x_.High)) fun v3=>bnd (grd ((((!v1)||(!v2))||(!v3))=false) (bX x_.Load 0 10000)) fun v4=>ret ((((!v1)||(!v2))||(!v3))||(!v4))
def jK (s_:(List bL)) (f_:(List aK)) (self1:Int→M Int):Int→M Int:=fun g1=>bif (decide (g1<(s_.length:Int))) then need (0≤g1∧g1<(s_.length:Int))<|bnd (oh (s_.getD g1.toNat cO) f_) fun v3=>bif v3 then ret g1 else need (InI64 (g1+1))<|self1 (g1+1) else ret (-1:Int)
def fF (s_:(List bL)) (f_:(List aK)):M Int:=bA (jK s_ f_) 0
def d9 (s_:(List bL)) (f_:(List aK)):M Bool:=bnd (fF s_ f_) fun v1=>ret (decide ((0:Int)≤v1))
def mP (l_:(List aK)) (d_:(List bL)):M Bool:=bnd (gF l_) fun v1=>bnd (grd (((v1==(0:Int))&&(decide ((d_.length:Int)≤32)))=true) (d9 d_ l_)) fun v2=>ret (((v1==(0:Int))&&(decide ((d_.length:Int)≤32)))&&(!v2))
def rA (l_:(List aK)) (d_:(List bL)):M Int:=bnd (gF l_) fun v1=>bif (v1 != 0) then ret v1 else bnd (mP l_ d_) fun v2=>bif (!v2) then ret (1:Int) else ret (0:Int)
def mZ (x_:Int) (y_:Int):M (Int×Int):=need (0≤(32:Int))<|need (0≤(32:Int))<|need (0≤(32:Int))<|need (0≤(32:Int))<|need (0≤(32:Int))<|ret ((IntKind.u64.wrap ((IntKind.u64.wrap ((IntKind.u64.wrap ((shrI .u64 x_ 32)*(shrI .u64 y_ 32)))+(shrI .u64 (IntKind.u64.wrap ((IntKind.u64.wrap ((shrI .u64 x_ 32)*(andI .u64 y_ 4294967295)))+(shrI .u64 (IntKind.u64.wrap ((andI .u64 x_ 4294967295)*(andI .u64 y_ 4294967295))) 32))) 32)))+(shrI .u64 (IntKind.u64.wrap ((andI .u64 (IntKind.u64.wrap ((IntKind.u64.wrap ((shrI .u64 x_ 32)*(andI .u64 y_ 4294967295)))+(shrI .u64 (IntKind.u64.wrap ((andI .u64 x_ 4294967295)*(andI .u64 y_ 4294967295))) 32))) 4294967295)+(IntKind.u64.wrap ((andI .u64 x_ 4294967295)*(shrI .u64 y_ 32))))) 32))),(IntKind.u64.wrap (x_*y_)))
def qh (x_:Int) (y_:Int):M (Int×Int):=bnd (mZ x_ y_) fun v1=>ret (v1.1,v1.2)
def kI (self3:(Int×(List bO))→M (List bO)):(Int×(List bO))→M (List bO):=fun g3=>bif (decide (g3.1<(g3.2.length:Int))) then need (0≤g3.1∧g3.1≤(g3.2.length:Int))<|need (0≤g3.1∧((0:Nat):Int)+g3.1≤(g3.2.length:Int))<|need (InI64 (g3.1+(((Nat.min g3.1.toNat (g3.2.length - g3.1.toNat)):Nat):Int)))<|self3 ((g3.1+(((Nat.min g3.1.toNat (g3.2.length - g3.1.toNat)):Nat):Int)),(uU g3.2 ((0+g3.1.toNat)) (g3.2.take ((Nat.min g3.1.toNat (g3.2.length - g3.1.toNat)))))) else ret g3.2
def fC (x_:(List bO)) (v1:(Int×Int)):Unit→M (List bO):=fun g2=>need (0≤(IntKind.i64.wrap v1.2)∧(IntKind.i64.wrap v1.2)*((24:Nat):Int)≤((big:Nat):Int))<|bA kI ((((Nat.min x_.length ((IntKind.i64.wrap v1.2).toNat)):Nat):Int),(uU (List.replicate ((IntKind.i64.wrap v1.2).toNat) ddemand) (0) (x_.take ((Nat.min x_.length ((IntKind.i64.wrap v1.2).toNat))))))
def fD (x_:(List bO)) (count_:Int):Unit→M (List bO):=fun g1=>bnd (qh (IntKind.u64.wrap (x_.length:Int)) (IntKind.u64.wrap count_)) fun v1=>need (((decide ((0:Int)<v1.1))||(decide ((9223372036854775807:Int)<v1.2)))=false)<|(fC x_ v1) ()
def gG (x_:(List bO)) (count_:Int):M (List bO):=need ((decide (count_<0))=false)<|(fD x_ count_) ()
def dw (s_:(List aK)):M (List aK):=ret s_
def ng (v1:(List aK)) (self2:(List Bool)→M (List Bool)) (k2:Nat):(List Bool)→M (List Bool):=fun g5=>need (0≤((v1.length - 1 - k2:Nat):Int)∧((v1.length - 1 - k2:Nat):Int)<(g5.length:Int))<|bif ((g5.getD (((v1.length - 1 - k2:Nat):Int).toNat) false)&&(decide ((0:Int)≤(v1.getD (v1.length - 1 - k2) aC).Parent))) then need (0≤(v1.getD (v1.length - 1 - k2) aC).Parent∧(v1.getD (v1.length - 1 - k2) aC).Parent<(g5.length:Int))<|self2 (g5.set (((v1.getD (v1.length - 1 - k2) aC).Parent).toNat) true) else self2 g5
def vo:(List Bool)→M (List Bool):=fun g2=>ret g2
def vv (v1:(List aK)) (k2:Nat) (self2:(List Bool)→M (List Bool)):(List Bool)→M (List Bool):=fun g2=>need (0≤((v1.length - 1 - k2:Nat):Int)∧((v1.length - 1 - k2:Nat):Int)<(g2.length:Int))<|need (0≤((v1.length - 1 - k2:Nat):Int)∧((v1.length - 1 - k2:Nat):Int)<(g2.length:Int))<|(ng v1 self2 k2) (g2.set (((v1.length - 1 - k2:Nat):Int).toNat) ((g2.getD (((v1.length - 1 - k2:Nat):Int).toNat) false)||(v1.getD (v1.length - 1 - k2) aC).Always))
def wP (l_:(List aK)) (d_:(List bL)) (self1:(Int×(List Bool))→M (List Bool)):(Int×(List Bool))→M (List Bool):=fun g1=>bif (decide (g1.1<(d_.length:Int))) then need (0≤g1.1∧g1.1<(d_.length:Int))<|need (0≤(d_.getD g1.1.toNat cO).cK∧(d_.getD g1.1.toNat cO).cK<(g1.2.length:Int))<|need (InI64 (g1.1+1))<|self1 ((g1.1+1),(g1.2.set (((d_.getD g1.1.toNat cO).cK).toNat) true)) else bnd (dw l_) fun v1=>need (v1.length≤1000000)<|yT v1.length (vv v1) vo v1.length g1.2
def kW (l_:(List aK)) (d_:(List bL)):M (List Bool):=need (0≤(l_.length:Int)∧(l_.length:Int)*((1:Nat):Int)≤((big:Nat):Int))<|bA (wP l_ d_) (0,(List.replicate ((l_.length:Int).toNat) false))
def cmp_isNaN_int (x_:Int):M Bool:=ret (x_ != x_)
def cmp_Less_int (x_:Int) (y_:Int):M Bool:=bnd (cmp_isNaN_int x_) fun v1=>bnd (grd (v1=true) (cmp_isNaN_int y_)) fun v2=>ret ((v1&&(!v2))||(decide (x_<y_)))
def iB (x_:Int):M Bool:=ret (x_ != x_)
def eH (x_:(List Int)) (target_:Int):Int→M (Int×Bool):=fun g2=>need ((decide (g2<(x_.length:Int)))=true→0≤g2∧g2<(x_.length:Int))<|need ((decide (g2<(x_.length:Int)))=true→((x_.getD g2.toNat 0)==target_)=false→0≤g2∧g2<(x_.length:Int))<|bnd (grd ((decide (g2<(x_.length:Int)))=true) (grd (((x_.getD g2.toNat 0)==target_)=false) (iB (x_.getD g2.toNat 0)))) fun v4=>bnd (grd ((decide (g2<(x_.length:Int)))=true) (grd (((x_.getD g2.toNat 0)==target_)=false) (grd (v4=true) (iB target_)))) fun v5=>ret (g2,((decide (g2<(x_.length:Int)))&&(((x_.getD g2.toNat 0)==target_)||(v4&&v5))))
def jQ (x_:(List Int)) (target_:Int) (kk:Int→M (Int×Bool)) (self3:(Int×Int)→M (Int×Bool)):(Int×Int)→M (Int×Bool):=fun g3=>bif (decide (g3.1<g3.2)) then need (InI64 (g3.1+g3.2))<|need (0≤(1:Int))<|need (0≤(IntKind.i64.wrap (shrI .u64 (IntKind.u64.wrap (g3.1+g3.2)) 1))∧(IntKind.i64.wrap (shrI .u64 (IntKind.u64.wrap (g3.1+g3.2)) 1))<(x_.length:Int))<|bnd (cmp_Less_int (x_.getD ((IntKind.i64.wrap (shrI .u64 (IntKind.u64.wrap (g3.1+g3.2)) 1)).toNat) 0) target_) fun v8=>bif v8 then need (InI64 ((IntKind.i64.wrap (shrI .u64 (IntKind.u64.wrap (g3.1+g3.2)) 1))+1))<|self3 (((IntKind.i64.wrap (shrI .u64 (IntKind.u64.wrap (g3.1+g3.2)) 1))+1),g3.2) else self3 (g3.1,(IntKind.i64.wrap (shrI .u64 (IntKind.u64.wrap (g3.1+g3.2)) 1))) else kk g3.1
def slices_BinarySearch_int (x_:(List Int)) (target_:Int):M (Int×Bool):=bA (jQ x_ target_ (eH x_ target_)) (0,(x_.length:Int))
def rC (s_:aK) (voltage_:Int):M (Int×Bool):=bnd (slices_BinarySearch_int s_.bN voltage_) fun v1=>ret (v1.1,(decide (v1.1<(s_.bN.length:Int))))
def qB (v1:(List bO)):(List Int)→M ((List bO)×(List Int)×Int):=fun g2=>ret (v1,g2,(-1:Int))
def qC (v1:(List bO)) (v2:(List Bool)) (v3:(List aK)) (k2:Nat) (self2:(List Int)→M ((List bO)×(List Int)×Int)):(List Int)→M ((List bO)×(List Int)×Int):=fun g2=>need (0≤((v3.length - 1 - k2:Nat):Int)∧((v3.length - 1 - k2:Nat):Int)<(v2.length:Int))<|bif (!(v2.getD (((v3.length - 1 - k2:Nat):Int).toNat) false)) then self2 g2 else need (0≤((v3.length - 1 - k2:Nat):Int)∧((v3.length - 1 - k2:Nat):Int)<(v1.length:Int))<|bnd (rC (v3.getD (v3.length - 1 - k2) aC) ((v1.getD (((v3.length - 1 - k2:Nat):Int).toNat) ddemand).qX)) fun v6=>bif (!v6.2) then ret (v1,g2,((v3.length - 1 - k2:Nat):Int)) else need (0≤((v3.length - 1 - k2:Nat):Int)∧((v3.length - 1 - k2:Nat):Int)<(g2.length:Int))<|need (0≤v6.1∧v6.1<((((v3.getD (v3.length - 1 - k2) aC).bN).length:Nat):Int))<|need (InI64 ((((v3.getD (v3.length - 1 - k2) aC).bN).getD v6.1.toNat 0)+(v3.getD (v3.length - 1 - k2) aC).dR))<|need ((decide ((0:Int)≤(v3.getD (v3.length - 1 - k2) aC).Parent))=true→0≤(v3.getD (v3.length - 1 - k2) aC).Parent∧(v3.getD (v3.length - 1 - k2) aC).Parent<(v1.length:Int))<|need (((decide ((0:Int)≤(v3.getD (v3.length - 1 - k2) aC).Parent))&&(decide ((v1.getD (((v3.getD (v3.length - 1 - k2) aC).Parent).toNat) ddemand).qX<((((v3.getD (v3.length - 1 - k2) aC).bN).getD v6.1.toNat 0)+(v3.getD (v3.length - 1 - k2) aC).dR))))=false)<|self2 (g2.set (((v3.length - 1 - k2:Nat):Int).toNat) v6.1)
def rD (l_:(List aK)) (d_:(List bL)) (v1:(List bO)) (self1:(Int×(List Int))→M ((List bO)×(List Int)×Int)):(Int×(List Int))→M ((List bO)×(List Int)×Int):=fun g1=>bif (decide (g1.1<(d_.length:Int))) then need (0≤g1.1∧g1.1<(d_.length:Int))<|need (0≤(d_.getD g1.1.toNat cO).cK∧(d_.getD g1.1.toNat cO).cK<(v1.length:Int))<|need ((decide ((v1.getD (((d_.getD g1.1.toNat cO).cK).toNat) ddemand).qX<(d_.getD g1.1.toNat cO).Low))=false)<|need (InI64 (g1.1+1))<|self1 ((g1.1+1),g1.2) else bnd (kW l_ d_) fun v2=>bnd (dw l_) fun v3=>need (v3.length≤1000000)<|yT v3.length (qC v1 v2 v3) (qB v1) v3.length g1.2
def ou (l_:(List aK)) (d_:(List bL)):M ((List bO)×(List Int)×Int):=bnd (gG ([(⟨0,(-1:Int),(-1:Int)⟩:bO)]:List bO) (l_.length:Int)) fun v1=>need (0≤(l_.length:Int)∧(l_.length:Int)*((8:Nat):Int)≤((big:Nat):Int))<|bA (rD l_ d_ v1) (0,(List.replicate ((l_.length:Int).toNat) 0))
def vw (l_:(List aK)) (r_:bg) (self1:Int→M Bool):Int→M Bool:=fun g1=>bif (decide (g1<(r_.Level.length:Int))) then need (0≤g1∧g1<(r_.Level.length:Int))<|need (0≤g1∧g1<(l_.length:Int))<|need (InI64 (((((l_.getD g1.toNat aC).bN).length:Nat):Int) - 1))<|bnd (bX (r_.Level.getD g1.toNat 0) 0 (((((l_.getD g1.toNat aC).bN).length:Nat):Int) - 1)) fun v4=>bif (!v4) then ret false else need (InI64 (g1+1))<|self1 (g1+1) else ret true
def rE (l_:(List aK)) (r_:bg):M Bool:=bnd (gF l_) fun v1=>bif (((v1 != 0)||((r_.On.length:Int) != (l_.length:Int)))||((r_.Level.length:Int) != (l_.length:Int))) then ret false else bA (vw l_ r_) 0
def tO:(List Int)→M (List Int):=fun g2=>ret g2
def tQ (v1:(List aK)) (k2:Nat) (self2:(List Int)→M (List Int)):(List Int)→M (List Int):=fun g2=>bif (decide ((0:Int)≤(v1.getD (v1.length - 1 - k2) aC).Parent)) then need (0≤(v1.getD (v1.length - 1 - k2) aC).Parent∧(v1.getD (v1.length - 1 - k2) aC).Parent<(g2.length:Int))<|need (0≤((v1.length - 1 - k2:Nat):Int)∧((v1.length - 1 - k2:Nat):Int)<(g2.length:Int))<|need (InI64 ((g2.getD (((v1.getD (v1.length - 1 - k2) aC).Parent).toNat) 0)+(g2.getD (((v1.length - 1 - k2:Nat):Int).toNat) 0)))<|need (0≤(v1.getD (v1.length - 1 - k2) aC).Parent∧(v1.getD (v1.length - 1 - k2) aC).Parent<(g2.length:Int))<|self2 (g2.set (((v1.getD (v1.length - 1 - k2) aC).Parent).toNat) ((g2.getD (((v1.getD (v1.length - 1 - k2) aC).Parent).toNat) 0)+(g2.getD (((v1.length - 1 - k2:Nat):Int).toNat) 0))) else self2 g2
def vB (l_:(List aK)) (d_:(List bL)) (self1:(Int×(List Int))→M (List Int)):(Int×(List Int))→M (List Int):=fun g1=>bif (decide (g1.1<(d_.length:Int))) then need (0≤g1.1∧g1.1<(d_.length:Int))<|need (0≤(d_.getD g1.1.toNat cO).cK∧(d_.getD g1.1.toNat cO).cK<(g1.2.length:Int))<|need (InI64 ((g1.2.getD (((d_.getD g1.1.toNat cO).cK).toNat) 0)+(d_.getD g1.1.toNat cO).Load))<|need (0≤(d_.getD g1.1.toNat cO).cK∧(d_.getD g1.1.toNat cO).cK<(g1.2.length:Int))<|need (InI64 (g1.1+1))<|self1 ((g1.1+1),(g1.2.set (((d_.getD g1.1.toNat cO).cK).toNat) ((g1.2.getD (((d_.getD g1.1.toNat cO).cK).toNat) 0)+(d_.getD g1.1.toNat cO).Load))) else bnd (dw l_) fun v1=>need (v1.length≤1000000)<|yT v1.length (tQ v1) tO v1.length g1.2
def rF (l_:(List aK)) (d_:(List bL)):M (List Int):=need (0≤(l_.length:Int)∧(l_.length:Int)*((8:Nat):Int)≤((big:Nat):Int))<|bA (vB l_ d_) (0,(List.replicate ((l_.length:Int).toNat) 0))
def oC (x_:bL) (a1_:(List aK)) (a20_:(List Bool)) (a21_:(List Int)):M Bool:=need (0≤x_.cK∧x_.cK<(a1_.length:Int))<|need (0≤x_.cK∧x_.cK<(a21_.length:Int))<|need (0≤(a21_.getD x_.cK.toNat 0)∧(a21_.getD x_.cK.toNat 0)<((((a1_.getD x_.cK.toNat aC).bN).length:Nat):Int))<|bnd (bX (((a1_.getD x_.cK.toNat aC).bN).getD ((a21_.getD x_.cK.toNat 0).toNat) 0) x_.Low x_.High) fun v1=>ret (!v1)
def iC (s_:(List bL)) (f0_:(List aK)) (f1_:(List Bool)) (f2_:(List Int)) (self1:Int→M Int):Int→M Int:=fun g1=>bif (decide (g1<(s_.length:Int))) then need (0≤g1∧g1<(s_.length:Int))<|bnd (oC (s_.getD g1.toNat cO) f0_ f1_ f2_) fun v3=>bif v3 then ret g1 else need (InI64 (g1+1))<|self1 (g1+1) else ret (-1:Int)
def eu (s_:(List bL)) (f0_:(List aK)) (f1_:(List Bool)) (f2_:(List Int)):M Int:=bA (iC s_ f0_ f1_ f2_) 0
def dN (s_:(List bL)) (f0_:(List aK)) (f1_:(List Bool)) (f2_:(List Int)):M Bool:=bnd (eu s_ f0_ f1_ f2_) fun v1=>ret (decide ((0:Int)≤v1))
def vC (l_:(List aK)) (r_:bg) (d_:(List bL)) (v3:(List Bool)) (v4:(List Int)) (self1:Int→M Bool):Int→M Bool:=fun g1=>bif (decide (g1<(l_.length:Int))) then need (0≤g1∧g1<(l_.length:Int))<|need (0≤g1∧g1<(r_.On.length:Int))<|bif (!(r_.On.getD g1.toNat false)) then need (0≤g1∧g1<(v3.length:Int))<|bif (v3.getD g1.toNat false) then ret false else need (InI64 (g1+1))<|self1 (g1+1) else need ((decide ((0:Int)≤(l_.getD g1.toNat aC).Parent))=true→0≤(l_.getD g1.toNat aC).Parent∧(l_.getD g1.toNat aC).Parent<(r_.On.length:Int))<|need ((decide ((0:Int)≤(l_.getD g1.toNat aC).Parent))=true→(!(r_.On.getD (((l_.getD g1.toNat aC).Parent).toNat) false))=false→0≤(l_.getD g1.toNat aC).Parent∧(l_.getD g1.toNat aC).Parent<(l_.length:Int))<|need ((decide ((0:Int)≤(l_.getD g1.toNat aC).Parent))=true→(!(r_.On.getD (((l_.getD g1.toNat aC).Parent).toNat) false))=false→0≤(l_.getD g1.toNat aC).Parent∧(l_.getD g1.toNat aC).Parent<(r_.Level.length:Int))<|need ((decide ((0:Int)≤(l_.getD g1.toNat aC).Parent))=true→(!(r_.On.getD (((l_.getD g1.toNat aC).Parent).toNat) false))=false→0≤(r_.Level.getD (((l_.getD g1.toNat aC).Parent).toNat) 0)∧(r_.Level.getD (((l_.getD g1.toNat aC).Parent).toNat) 0)<((((l_.getD (((l_.getD g1.toNat aC).Parent).toNat) aC).bN).length:Nat):Int))<|need ((decide ((0:Int)≤(l_.getD g1.toNat aC).Parent))=true→(!(r_.On.getD (((l_.getD g1.toNat aC).Parent).toNat) false))=false→0≤g1∧g1<(r_.Level.length:Int))<|need ((decide ((0:Int)≤(l_.getD g1.toNat aC).Parent))=true→(!(r_.On.getD (((l_.getD g1.toNat aC).Parent).toNat) false))=false→0≤(r_.Level.getD g1.toNat 0)∧(r_.Level.getD g1.toNat 0)<((((l_.getD g1.toNat aC).bN).length:Nat):Int))<|need ((decide ((0:Int)≤(l_.getD g1.toNat aC).Parent))=true→(!(r_.On.getD (((l_.getD g1.toNat aC).Parent).toNat) false))=false→InI64 ((((l_.getD g1.toNat aC).bN).getD ((r_.Level.getD g1.toNat 0).toNat) 0)+(l_.getD g1.toNat aC).dR))<|need (((decide ((0:Int)≤(l_.getD g1.toNat aC).Parent))&&((!(r_.On.getD (((l_.getD g1.toNat aC).Parent).toNat) false))||(decide ((((l_.getD (((l_.getD g1.toNat aC).Parent).toNat) aC).bN).getD ((r_.Level.getD (((l_.getD g1.toNat aC).Parent).toNat) 0).toNat) 0)<((((l_.getD g1.toNat aC).bN).getD ((r_.Level.getD g1.toNat 0).toNat) 0)+(l_.getD g1.toNat aC).dR)))))=false→0≤g1∧g1<(v4.length:Int))<|bif (((decide ((0:Int)≤(l_.getD g1.toNat aC).Parent))&&((!(r_.On.getD (((l_.getD g1.toNat aC).Parent).toNat) false))||(decide ((((l_.getD (((l_.getD g1.toNat aC).Parent).toNat) aC).bN).getD ((r_.Level.getD (((l_.getD g1.toNat aC).Parent).toNat) 0).toNat) 0)<((((l_.getD g1.toNat aC).bN).getD ((r_.Level.getD g1.toNat 0).toNat) 0)+(l_.getD g1.toNat aC).dR)))))||(decide ((l_.getD g1.toNat aC).gD<(v4.getD g1.toNat 0)))) then ret false else need (InI64 (g1+1))<|self1 (g1+1) else bnd (dN d_ l_ r_.On r_.Level) fun v5=>ret (!v5)
def mQ (l_:(List aK)) (r_:bg) (d_:(List bL)):M Bool:=bnd (rE l_ r_) fun v1=>bnd (grd ((!v1)=false) (mP l_ d_)) fun v2=>bif ((!v1)||(!v2)) then ret false else bnd (kW l_ d_) fun v3=>bnd (rF l_ d_) fun v4=>bA (vC l_ r_ d_ v3 v4) 0
def rG (l_:(List aK)) (d_:(List bL)):M (bg×Int):=bnd (rA l_ d_) fun v1=>bif (v1 != 0) then ret ((⟨[],[]⟩:bg),v1) else bnd (ou l_ d_) fun v2=>bnd (kW l_ d_) fun v3=>bnd (grd ((decide ((0:Int)≤v2.2.2))=false) (mQ l_ (⟨v3,v2.2.1⟩:bg) d_)) fun v4=>bif ((decide ((0:Int)≤v2.2.2))||(!v4)) then ret ((⟨[],[]⟩:bg),9) else ret ((⟨v3,v2.2.1⟩:bg),0)
def qj (n_:aP):M (List Int):=ret n_.Resets
def pG (l_:(List aP)) (members_:(List Int)) (self1:(Int×(List Int))→M (List Int)):(Int×(List Int))→M (List Int):=fun g1=>bif (decide (g1.1<(members_.length:Int))) then need (0≤g1.1∧g1.1<(members_.length:Int))<|bif ((decide ((0:Int)≤(members_.getD g1.1.toNat 0)))&&(decide ((members_.getD g1.1.toNat 0)<(l_.length:Int)))) then need (0≤(members_.getD g1.1.toNat 0)∧(members_.getD g1.1.toNat 0)<(l_.length:Int))<|bnd (qj (l_.getD ((members_.getD g1.1.toNat 0).toNat) bD)) fun v3=>need ((g1.2.length+v3.length)*8≤big)<|need (InI64 (g1.1+1))<|self1 ((g1.1+1),(g1.2++v3)) else need (InI64 (g1.1+1))<|self1 ((g1.1+1),g1.2) else ret g1.2
def lY (l_:(List aP)) (members_:(List Int)):M (List Int):=bA (pG l_ members_) (0,[])
def tT (l_:(List bJ)) (g2:(Int×(List Bool))) (self2:(Int×(List Bool))→M (List Bool)) (self5:(Int×(List Bool))→M (List Bool)):(Int×(List Bool))→M (List Bool):=fun g5=>bif (decide (g5.1<((((l_.getD g2.1.toNat dReset).After).length:Nat):Int))) then need (0≤g5.1∧g5.1<((((l_.getD g2.1.toNat dReset).After).length:Nat):Int))<|need (0≤(((l_.getD g2.1.toNat dReset).After).getD g5.1.toNat 0)∧(((l_.getD g2.1.toNat dReset).After).getD g5.1.toNat 0)<(g5.2.length:Int))<|need ((g5.2.getD ((((l_.getD g2.1.toNat dReset).After).getD g5.1.toNat 0).toNat) false)=false→0≤g2.1∧g2.1<(g5.2.length:Int))<|need (0≤(((l_.getD g2.1.toNat dReset).After).getD g5.1.toNat 0)∧(((l_.getD g2.1.toNat dReset).After).getD g5.1.toNat 0)<(g5.2.length:Int))<|need (InI64 (g5.1+1))<|self5 ((g5.1+1),(g5.2.set ((((l_.getD g2.1.toNat dReset).After).getD g5.1.toNat 0).toNat) ((g5.2.getD ((((l_.getD g2.1.toNat dReset).After).getD g5.1.toNat 0).toNat) false)||(g5.2.getD g2.1.toNat false)))) else need (InI64 (g2.1 - 1))<|self2 ((g2.1 - 1),g5.2)
def vD (l_:(List bJ)) (self2:(Int×(List Bool))→M (List Bool)):(Int×(List Bool))→M (List Bool):=fun g2=>bif (decide ((0:Int)≤g2.1)) then need (0≤g2.1∧g2.1<(l_.length:Int))<|bA (tT l_ g2 self2) (0,g2.2) else ret g2.2
def vE (l_:(List bJ)) (lines_:(List Int)) (self1:(Int×(List Bool))→M (List Bool)):(Int×(List Bool))→M (List Bool):=fun g1=>bif (decide (g1.1<(lines_.length:Int))) then need (0≤g1.1∧g1.1<(lines_.length:Int))<|need (0≤(lines_.getD g1.1.toNat 0)∧(lines_.getD g1.1.toNat 0)<(g1.2.length:Int))<|need (InI64 (g1.1+1))<|self1 ((g1.1+1),(g1.2.set ((lines_.getD g1.1.toNat 0).toNat) true)) else need (InI64 ((l_.length:Int) - 1))<|bA (vD l_) (((l_.length:Int) - 1),g1.2)
def rH (l_:(List bJ)) (lines_:(List Int)):M (List Bool):=need (0≤(l_.length:Int)∧(l_.length:Int)*((1:Nat):Int)≤((big:Nat):Int))<|bA (vE l_ lines_) (0,(List.replicate ((l_.length:Int).toNat) false))
def vF (l_:(List bJ)) (lines_:(List Int)) (self1:Int→M ((List Bool)×Int)):Int→M ((List Bool)×Int):=fun g1=>bif (decide (g1<(lines_.length:Int))) then need (0≤g1∧g1<(lines_.length:Int))<|bif ((decide ((lines_.getD g1.toNat 0)<0))||(decide ((l_.length:Int)≤(lines_.getD g1.toNat 0)))) then ret (([]:List Bool),2) else need (InI64 (g1+1))<|self1 (g1+1) else bnd (rH l_ lines_) fun v2=>ret (v2,0)
def rJ (l_:(List bJ)) (lines_:(List Int)):M ((List Bool)×Int):=bnd (kT l_) fun v1=>bif (v1 != 0) then ret (([]:List Bool),1) else bA (vF l_ lines_) 0
def ql (n_:aP):M (List Int):=bif (decide (n_.dQ<0)) then ret ([]:List Int) else ret ([n_.dQ]:List Int)
def mR (l_:(List aP)) (members_:(List Int)) (self1:(Int×(List Int))→M (List Int)):(Int×(List Int))→M (List Int):=fun g1=>bif (decide (g1.1<(members_.length:Int))) then need (0≤g1.1∧g1.1<(members_.length:Int))<|bif ((decide ((0:Int)≤(members_.getD g1.1.toNat 0)))&&(decide ((members_.getD g1.1.toNat 0)<(l_.length:Int)))) then need (0≤(members_.getD g1.1.toNat 0)∧(members_.getD g1.1.toNat 0)<(l_.length:Int))<|bnd (ql (l_.getD ((members_.getD g1.1.toNat 0).toNat) bD)) fun v3=>need ((g1.2.length+v3.length)*8≤big)<|need (InI64 (g1.1+1))<|self1 ((g1.1+1),(g1.2++v3)) else need (InI64 (g1.1+1))<|self1 ((g1.1+1),g1.2) else ret g1.2
def jB (l_:(List aP)) (members_:(List Int)):M (List Int):=bA (mR l_ members_) (0,[])
def rM (l_:(List bF)) (users_:(List Int)) (self1:Int→M Int):Int→M Int:=fun g1=>bif (decide (g1<(users_.length:Int))) then need (0≤g1∧g1<(users_.length:Int))<|bif ((decide ((users_.getD g1.toNat 0)<0))||(decide ((l_.length:Int)≤(users_.getD g1.toNat 0)))) then ret (2:Int) else need (InI64 (g1+1))<|self1 (g1+1) else ret (0:Int)
def oD (l_:(List bF)) (users_:(List Int)):M Int:=bnd (jJ l_) fun v1=>bif (v1 != 0) then ret (1:Int) else bA (rM l_ users_) 0
def rO (l_:(List bF)) (g1:(Int×(List Bool))) (self1:(Int×(List Bool))→M ((List Bool)×Int)):(List Bool)→M ((List Bool)×Int):=fun g4=>need (0≤g1.1∧g1.1<(g4.length:Int))<|need ((g4.getD g1.1.toNat false)=true→0≤g1.1∧g1.1<(l_.length:Int))<|bif ((g4.getD g1.1.toNat false)&&(decide ((0:Int)≤(l_.getD g1.1.toNat dD).Parent))) then need (0≤g1.1∧g1.1<(l_.length:Int))<|need (0≤(l_.getD g1.1.toNat dD).Parent∧(l_.getD g1.1.toNat dD).Parent<(g4.length:Int))<|need (InI64 (g1.1 - 1))<|self1 ((g1.1 - 1),(g4.set (((l_.getD g1.1.toNat dD).Parent).toNat) true)) else need (InI64 (g1.1 - 1))<|self1 ((g1.1 - 1),g4)
def yA (l_:(List bF)) (users_:(List Int)) (self1:(Int×(List Bool))→M ((List Bool)×Int)):(Int×(List Bool))→M ((List Bool)×Int):=fun g1=>bif (decide ((0:Int)≤g1.1)) then need (0≤g1.1∧g1.1<(g1.2.length:Int))<|need ((g1.2.getD g1.1.toNat false)=false→0≤g1.1∧g1.1<(l_.length:Int))<|bnd (grd (((g1.2.getD g1.1.toNat false)||(l_.getD g1.1.toNat dD).Always)=false) (slices_Contains_int users_ g1.1)) fun v7=>need (0≤g1.1∧g1.1<(g1.2.length:Int))<|(rO l_ g1 self1) (g1.2.set (g1.1.toNat) (((g1.2.getD g1.1.toNat false)||(l_.getD g1.1.toNat dD).Always)||v7)) else ret (g1.2,0)
def xW (l_:(List bF)) (users_:(List Int)):M ((List Bool)×Int):=bnd (oD l_ users_) fun v1=>bif (v1 != 0) then ret (([]:List Bool),v1) else need (0≤(l_.length:Int)∧(l_.length:Int)*((1:Nat):Int)≤((big:Nat):Int))<|need (InI64 ((l_.length:Int) - 1))<|bA (yA l_ users_) (((l_.length:Int) - 1),(List.replicate ((l_.length:Int).toNat) false))
def vG (b_:bB) (l_:(List aP)) (members_:(List Int)) (uses_:(List aG)) (v4:((List Int)×Int)) (v5:(bg×Int)) (self1:(Int×(List aG))→M ((List Int)×(List Bool)×(List Int)×(List Bool)×(List Bool)×Int×Int×(List aG))):(Int×(List aG))→M ((List Int)×(List Bool)×(List Int)×(List Bool)×(List Bool)×Int×Int×(List aG)):=fun g1=>bif (decide (g1.1<(uses_.length:Int))) then need (0≤g1.1∧g1.1<(uses_.length:Int))<|bnd (slices_Contains_int members_ ((uses_.getD g1.1.toNat aN).Device)) fun v8=>bif v8 then need ((g1.2.length+1)*24≤big)<|need (InI64 (g1.1+1))<|self1 ((g1.1+1),(g1.2++([(⟨(uses_.getD g1.1.toNat aN).Device,((uses_.getD g1.1.toNat aN).Use)⟩:aG)]:List aG))) else need (InI64 (g1.1+1))<|self1 ((g1.1+1),g1.2) else bnd (lY l_ members_) fun v9=>bnd (rJ b_.Resets v9) fun v10=>bnd (jB l_ members_) fun v11=>bnd (xW b_.bH v11) fun v12=>ret (v4.1,v5.1.On,v5.1.Level,v10.1,v12.1,0,0,g1.2)
def iR (b_:bB) (l_:(List aP)) (members_:(List Int)) (uses_:(List aG)):M ((List Int)×(List Bool)×(List Int)×(List Bool)×(List Bool)×Int×Int×(List aG)):=bnd (qZ l_ members_) fun v1=>bnd (uI l_ members_) fun v2=>bif (((decide ((32:Int)<(v1.length:Int)))||(decide ((32:Int)<(v2.length:Int))))==false) then bnd (mY l_ members_) fun v3=>bif (((decide ((32:Int)<(v1.length:Int)))||(decide ((32:Int)<(v2.length:Int))))||(decide ((10:Int)<(v3.length:Int)))) then ret (([]:List Int),[],[],[],[],4,45,[]) else bnd (rz b_.Clocks v1) fun v4=>bif (v4.2 != 0) then ret (([]:List Int),[],[],[],[],1,45,[]) else bnd (rG b_.Supplies v2) fun v5=>bif (v5.2 != 0) then ret (([]:List Int),[],[],[],[],2,45,[]) else bA (vG b_ l_ members_ uses_ v4 v5) (0,[]) else need (((decide ((32:Int)<(v1.length:Int)))||(decide ((32:Int)<(v2.length:Int))))=true)<|ret (([]:List Int),[],[],[],[],4,45,[])
def qD (b_:bB):M (aR×Int):=bnd (nW b_) fun v1=>bif (v1 != 0) then ret ((⟨[],(⟨[],[]⟩:bg),[],[],[]⟩:aR),v1) else bnd (iR b_ [] [] ([]:List aG)) fun v2=>ret ((⟨v2.1,(⟨v2.2.1,v2.2.2.1⟩:bg),v2.2.2.2.2.2.2.2,v2.2.2.2.1,v2.2.2.2.2.1⟩:aR),v2.2.2.2.2.2.2.1)
def fG (x_:Int) (low_:Int) (high_:Int):M Bool:=ret ((decide (low_≤x_))&&(decide (x_≤high_)))
def wQ (n_:aP) (self6:Int→M Int):Int→M Int:=fun g6=>bif (decide (g6<(n_.bY.length:Int))) then need (0≤g6∧g6<(n_.bY.length:Int))<|need (InI64 (g6 - 1))<|need (0≤(g6 - 1)∧(g6 - 1)<(n_.bY.length:Int))<|bif (decide ((n_.bY.getD g6.toNat 0)≤(n_.bY.getD ((g6 - 1).toNat) 0))) then ret (12:Int) else need (InI64 (g6+1))<|self6 (g6+1) else ret (0:Int)
def wR (n_:aP) (devices_:Int) (self5:Int→M Int):Int→M Int:=fun g5=>bif (decide (g5<(n_.bY.length:Int))) then need (0≤g5∧g5<(n_.bY.length:Int))<|need (InI64 (devices_ - 1))<|bnd (fG (n_.bY.getD g5.toNat 0) 0 (devices_ - 1)) fun v19=>bif (!v19) then ret (2:Int) else need (InI64 (g5+1))<|self5 (g5+1) else bA (wQ n_) 1
def wS (b_:bB) (n_:aP) (devices_:Int) (self4:Int→M Int):Int→M Int:=fun g4=>bif (decide (g4<(n_.Resets.length:Int))) then need (0≤g4∧g4<(n_.Resets.length:Int))<|need (InI64 ((b_.Resets.length:Int) - 1))<|bnd (fG (n_.Resets.getD g4.toNat 0) 0 ((b_.Resets.length:Int) - 1)) fun v15=>bif (!v15) then ret (2:Int) else need (InI64 (g4+1))<|self4 (g4+1) else need (InI64 ((b_.bH.length:Int) - 1))<|bnd (fG n_.dQ (-1:Int) ((b_.bH.length:Int) - 1)) fun v16=>bif (!v16) then ret (2:Int) else bA (wR n_ devices_) 0
def wT (b_:bB) (n_:aP) (devices_:Int) (self3:Int→M Int):Int→M Int:=fun g3=>bif (decide (g3<(n_.Functions.length:Int))) then need (0≤g3∧g3<(n_.Functions.length:Int))<|bnd (lV (n_.Functions.getD g3.toNat ByteArray.empty)) fun v12=>bif (!v12) then ret (1:Int) else need (InI64 (g3+1))<|self3 (g3+1) else bA (wS b_ n_ devices_) 0
def wU (b_:bB) (n_:aP) (devices_:Int) (self2:Int→M Int):Int→M Int:=fun g2=>bif (decide (g2<(n_.Draws.length:Int))) then need (0≤g2∧g2<(n_.Draws.length:Int))<|need (InI64 ((b_.Supplies.length:Int) - 1))<|bnd (fG ((n_.Draws.getD g2.toNat cO).cK) 0 ((b_.Supplies.length:Int) - 1)) fun v8=>bnd (grd (((((!v8)||(decide ((n_.Draws.getD g2.toNat cO).Low<0)))||(decide ((n_.Draws.getD g2.toNat cO).High<(n_.Draws.getD g2.toNat cO).Low)))||(decide ((5000:Int)<(n_.Draws.getD g2.toNat cO).High)))=false) (fG ((n_.Draws.getD g2.toNat cO).Load) 0 10000)) fun v9=>bif (((((!v8)||(decide ((n_.Draws.getD g2.toNat cO).Low<0)))||(decide ((n_.Draws.getD g2.toNat cO).High<(n_.Draws.getD g2.toNat cO).Low)))||(decide ((5000:Int)<(n_.Draws.getD g2.toNat cO).High)))||(!v9)) then ret (2:Int) else need (InI64 (g2+1))<|self2 (g2+1) else bA (wT b_ n_ devices_) 0
def xG (b_:bB) (n_:aP) (devices_:Int) (self1:Int→M Int):Int→M Int:=fun g1=>bif (decide (g1<(n_.Limits.length:Int))) then need (0≤g1∧g1<(n_.Limits.length:Int))<|need (InI64 ((b_.Clocks.length:Int) - 1))<|bnd (fG ((n_.Limits.getD g1.toNat bM).Clock) 0 ((b_.Clocks.length:Int) - 1)) fun v3=>bif ((((!v3)||(decide ((n_.Limits.getD g1.toNat bM).Low<0)))||(decide ((n_.Limits.getD g1.toNat bM).High<(n_.Limits.getD g1.toNat bM).Low)))||(decide ((4000000000:Int)<(n_.Limits.getD g1.toNat bM).High))) then ret (2:Int) else need (InI64 (g1+1))<|self1 (g1+1) else bA (wU b_ n_ devices_) 0
def wV (b_:bB) (n_:aP) (devices_:Int):M Int:=bif (((decide ((32:Int)<(n_.Limits.length:Int)))||(decide ((32:Int)<(n_.Draws.length:Int))))||(decide ((10:Int)<(n_.Functions.length:Int)))) then ret (3:Int) else bA (xG b_ n_ devices_) 0
def xH (b_:bB) (l_:(List aP)) (self1:Int→M Int):Int→M Int:=fun g1=>bif (decide (g1<(l_.length:Int))) then need (0≤g1∧g1<(l_.length:Int))<|bnd (wV b_ (l_.getD g1.toNat bD) (l_.length:Int)) fun v4=>bif (v4 != 0) then ret v4 else need (InI64 (g1+1))<|self1 (g1+1) else ret (0:Int)
def qE (b_:bB) (l_:(List aP)):M Int:=bnd (nW b_) fun v1=>bif (v1 != 0) then ret v1 else bif (decide ((12:Int)<(l_.length:Int))) then ret (3:Int) else bA (xH b_ l_) 0
def wW (l_:(List aP)) (members_:(List Int)) (self1:Int→M Int):Int→M Int:=fun g1=>bif (decide (g1<(members_.length:Int))) then need (0≤g1∧g1<(members_.length:Int))<|need (((decide ((members_.getD g1.toNat 0)<0))||(decide ((l_.length:Int)≤(members_.getD g1.toNat 0))))=false→0≤g1∧g1≤(members_.length:Int))<|bnd (grd (((decide ((members_.getD g1.toNat 0)<0))||(decide ((l_.length:Int)≤(members_.getD g1.toNat 0))))=false) (slices_Contains_int (members_.take (g1.toNat)) (members_.getD g1.toNat 0))) fun v4=>bif (((decide ((members_.getD g1.toNat 0)<0))||(decide ((l_.length:Int)≤(members_.getD g1.toNat 0))))||v4) then ret (2:Int) else need (InI64 (g1+1))<|self1 (g1+1) else ret (0:Int)
def uN (b_:bB) (l_:(List aP)) (members_:(List Int)):M Int:=bnd (qE b_ l_) fun v1=>bif (v1 != 0) then ret v1 else bA (wW l_ members_) 0
def qF (l_:(List aP)) (members_:(List Int)) (self1:Int→M Bool):Int→M Bool:=fun g1=>bif (decide (g1<(members_.length:Int))) then need (0≤g1∧g1<(members_.length:Int))<|need (InI64 ((l_.length:Int) - 1))<|bnd (fG (members_.getD g1.toNat 0) 0 ((l_.length:Int) - 1)) fun v5=>need ((!v5)=false→0≤g1∧g1≤(members_.length:Int))<|bnd (grd ((!v5)=false) (slices_Contains_int (members_.take (g1.toNat)) (members_.getD g1.toNat 0))) fun v6=>bif ((!v5)||v6) then ret false else need (InI64 (g1+1))<|self1 (g1+1) else ret true
def ni (l_:(List aP)) (members_:(List Int)):M Bool:=bA (qF l_ members_) 0
def nH (s_:bW) (self2:Int→M Bool):Int→M Bool:=fun g2=>bif (decide (g2<(s_.aF.Uses.length:Int))) then need (0≤g2∧g2<(s_.aF.Uses.length:Int))<|need (InI64 ((s_.bf.length:Int) - 1))<|bnd (fG ((s_.aF.Uses.getD g2.toNat aN).Device) (-1:Int) ((s_.bf.length:Int) - 1)) fun v7=>bif (!v7) then ret false else need (InI64 (g2+1))<|self2 (g2+1) else ret true
def oF (s_:bW) (self1:Int→M Bool):Int→M Bool:=fun g1=>bif (decide (g1<(s_.aI.Clocks.length:Int))) then need (0≤g1∧g1<(s_.aI.Clocks.length:Int))<|need (0≤g1∧g1<(s_.aF.Setting.length:Int))<|need (InI64 (((((s_.aI.Clocks.getD g1.toNat aO).Choices).length:Nat):Int) - 1))<|bnd (fG (s_.aF.Setting.getD g1.toNat 0) 0 (((((s_.aI.Clocks.getD g1.toNat aO).Choices).length:Nat):Int) - 1)) fun v4=>bif (!v4) then ret false else need (InI64 (g1+1))<|self1 (g1+1) else bA (nH s_) 0
def kX (s_:bW):M Bool:=bnd (ni s_.bf s_.aD) fun v1=>bif ((((((!v1)||((s_.aF.Setting.length:Int) != (s_.aI.Clocks.length:Int)))||((s_.aF.bZ.On.length:Int) != (s_.aI.Supplies.length:Int)))||((s_.aF.bZ.Level.length:Int) != (s_.aI.Supplies.length:Int)))||((s_.aF.Released.length:Int) != (s_.aI.Resets.length:Int)))||((s_.aF.dh.length:Int) != (s_.aI.bH.length:Int))) then ret false else bA (oF s_) 0
def rP (l_:(List aS)) (s_:(List Int)) (self1:(Int×(List aX))→M (List aX)):(Int×(List aX))→M (List aX):=fun g1=>bif (decide (g1.1<(l_.length:Int))) then need (0≤g1.1∧g1.1<(l_.length:Int))<|need (0≤g1.1∧g1.1<(s_.length:Int))<|need (0≤(s_.getD g1.1.toNat 0)∧(s_.getD g1.1.toNat 0)<((((l_.getD g1.1.toNat aO).Choices).length:Nat):Int))<|bnd (mO l_ s_ g1.1) fun v7=>bif (decide (v7<(0:Int))) then need (0≤g1.1∧g1.1<(g1.2.length:Int))<|need (InI64 (g1.1+1))<|self1 ((g1.1+1),(g1.2.set (g1.1.toNat) (⟨(((l_.getD g1.1.toNat aO).Choices).getD ((s_.getD g1.1.toNat 0).toNat) 0),1⟩:aX))) else need (0≤v7∧v7<(g1.2.length:Int))<|bif ((((g1.2.getD v7.toNat bR).Num==0)&&(((g1.2.getD v7.toNat bR).Den==1)&&true))||(((l_.getD g1.1.toNat aO).Kind==5)&&((((l_.getD g1.1.toNat aO).Choices).getD ((s_.getD g1.1.toNat 0).toNat) 0)==0))) then need (0≤g1.1∧g1.1<(g1.2.length:Int))<|need (InI64 (g1.1+1))<|self1 ((g1.1+1),(g1.2.set (g1.1.toNat) (⟨0,1⟩:aX))) else bif ((l_.getD g1.1.toNat aO).Kind==2) then need (0≤v7∧v7<(g1.2.length:Int))<|bnd (tL (g1.2.getD v7.toNat bR) (((l_.getD g1.1.toNat aO).Choices).getD ((s_.getD g1.1.toNat 0).toNat) 0)) fun v8=>need (0≤g1.1∧g1.1<(g1.2.length:Int))<|need (InI64 (g1.1+1))<|self1 ((g1.1+1),(g1.2.set (g1.1.toNat) v8.1)) else bif ((l_.getD g1.1.toNat aO).Kind==3) then need (0≤v7∧v7<(g1.2.length:Int))<|bnd (qA (g1.2.getD v7.toNat bR) (((l_.getD g1.1.toNat aO).Choices).getD ((s_.getD g1.1.toNat 0).toNat) 0)) fun v9=>need (0≤g1.1∧g1.1<(g1.2.length:Int))<|need (InI64 (g1.1+1))<|self1 ((g1.1+1),(g1.2.set (g1.1.toNat) v9.1)) else need (0≤v7∧v7<(g1.2.length:Int))<|need (0≤g1.1∧g1.1<(g1.2.length:Int))<|need (InI64 (g1.1+1))<|self1 ((g1.1+1),(g1.2.set (g1.1.toNat) (g1.2.getD v7.toNat bR))) else ret g1.2
def jR (l_:(List aS)) (s_:(List Int)):M (List aX):=need (0≤(l_.length:Int)∧(l_.length:Int)*((16:Nat):Int)≤((big:Nat):Int))<|bA (rP l_ s_) (0,(List.replicate ((l_.length:Int).toNat) bR))
def qm (x_:bC) (a1_:(List aX)):M Bool:=need (0≤x_.Clock∧x_.Clock<(a1_.length:Int))<|need ((((a1_.getD x_.Clock.toNat bR).Num==0)&&(((a1_.getD x_.Clock.toNat bR).Den==1)&&true))=false→0≤x_.Clock∧x_.Clock<(a1_.length:Int))<|bnd (grd ((((a1_.getD x_.Clock.toNat bR).Num==0)&&(((a1_.getD x_.Clock.toNat bR).Den==1)&&true))=false) (kV (a1_.getD x_.Clock.toNat bR) x_.Low x_.High)) fun v1=>ret ((((a1_.getD x_.Clock.toNat bR).Num==0)&&(((a1_.getD x_.Clock.toNat bR).Den==1)&&true))||(!v1))
def gN (s_:(List bC)) (f_:(List aX)) (self1:Int→M Int):Int→M Int:=fun g1=>bif (decide (g1<(s_.length:Int))) then need (0≤g1∧g1<(s_.length:Int))<|bnd (qm (s_.getD g1.toNat bM) f_) fun v3=>bif v3 then ret g1 else need (InI64 (g1+1))<|self1 (g1+1) else ret (-1:Int)
def dZ (s_:(List bC)) (f_:(List aX)):M Int:=bA (gN s_ f_) 0
def dK (s_:(List bC)) (f_:(List aX)):M Bool:=bnd (dZ s_ f_) fun v1=>ret (decide ((0:Int)≤v1))
def wX (l_:(List aS)) (m_:(List bC)) (v3:(List aX)) (self1:Int→M Bool):Int→M Bool:=fun g1=>bif (decide (g1<(l_.length:Int))) then need (0≤g1∧g1<(l_.length:Int))<|need (0≤g1∧g1<(v3.length:Int))<|need (((!(((v3.getD g1.toNat bR).Num==0)&&(((v3.getD g1.toNat bR).Den==1)&&true)))&&((l_.getD g1.toNat aO).High != 0))=true→0≤g1∧g1<(v3.length:Int))<|bnd (grd (((!(((v3.getD g1.toNat bR).Num==0)&&(((v3.getD g1.toNat bR).Den==1)&&true)))&&((l_.getD g1.toNat aO).High != 0))=true) (kV (v3.getD g1.toNat bR) ((l_.getD g1.toNat aO).Low) ((l_.getD g1.toNat aO).High))) fun v6=>bif (((!(((v3.getD g1.toNat bR).Num==0)&&(((v3.getD g1.toNat bR).Den==1)&&true)))&&((l_.getD g1.toNat aO).High != 0))&&(!v6)) then ret false else need (InI64 (g1+1))<|self1 (g1+1) else bnd (dK m_ v3) fun v7=>ret (!v7)
def uO (l_:(List aS)) (s_:(List Int)) (m_:(List bC)):M Bool:=bnd (mM l_ m_) fun v1=>bnd (grd ((!v1)=false) (iK l_ s_)) fun v2=>bif ((!v1)||(!v2)) then ret false else bnd (jR l_ s_) fun v3=>bA (wX l_ m_ v3) 0
def jS (s_:bW):M Bool:=bnd (uO s_.aI.Clocks s_.aF.Setting ([]:List bC)) fun v1=>ret v1
def oG (l_:(List aS)) (s_:(List Int)):M ((List aX)×Int):=bnd (fO l_) fun v1=>bif (v1 != 0) then ret (([]:List aX),v1) else bnd (iK l_ s_) fun v2=>bif (!v2) then ret (([]:List aX),1) else bnd (jR l_ s_) fun v3=>ret (v3,0)
def nI (s_:bW) (v1:((List aX)×Int)) (g1:Int) (self1:Int→M Bool) (self4:Int→M Bool):Int→M Bool:=fun g4=>bif (decide (g4<((((s_.bf.getD ((s_.aD.getD g1.toNat 0).toNat) bD).Limits).length:Nat):Int))) then need (0≤g4∧g4<((((s_.bf.getD ((s_.aD.getD g1.toNat 0).toNat) bD).Limits).length:Nat):Int))<|need (0≤(((s_.bf.getD ((s_.aD.getD g1.toNat 0).toNat) bD).Limits).getD g4.toNat bM).Clock∧(((s_.bf.getD ((s_.aD.getD g1.toNat 0).toNat) bD).Limits).getD g4.toNat bM).Clock<(v1.1.length:Int))<|need (((v1.1.getD (((((s_.bf.getD ((s_.aD.getD g1.toNat 0).toNat) bD).Limits).getD g4.toNat bM).Clock).toNat) bR).Num==0)=false→InI64 ((((s_.bf.getD ((s_.aD.getD g1.toNat 0).toNat) bD).Limits).getD g4.toNat bM).High*(v1.1.getD (((((s_.bf.getD ((s_.aD.getD g1.toNat 0).toNat) bD).Limits).getD g4.toNat bM).Clock).toNat) bR).Den))<|need ((((v1.1.getD (((((s_.bf.getD ((s_.aD.getD g1.toNat 0).toNat) bD).Limits).getD g4.toNat bM).Clock).toNat) bR).Num==0)||(decide (((((s_.bf.getD ((s_.aD.getD g1.toNat 0).toNat) bD).Limits).getD g4.toNat bM).High*(v1.1.getD (((((s_.bf.getD ((s_.aD.getD g1.toNat 0).toNat) bD).Limits).getD g4.toNat bM).Clock).toNat) bR).Den)<(v1.1.getD (((((s_.bf.getD ((s_.aD.getD g1.toNat 0).toNat) bD).Limits).getD g4.toNat bM).Clock).toNat) bR).Num)))=false→(!s_.dF)=true→InI64 ((((s_.bf.getD ((s_.aD.getD g1.toNat 0).toNat) bD).Limits).getD g4.toNat bM).Low*(v1.1.getD (((((s_.bf.getD ((s_.aD.getD g1.toNat 0).toNat) bD).Limits).getD g4.toNat bM).Clock).toNat) bR).Den))<|bif ((((v1.1.getD (((((s_.bf.getD ((s_.aD.getD g1.toNat 0).toNat) bD).Limits).getD g4.toNat bM).Clock).toNat) bR).Num==0)||(decide (((((s_.bf.getD ((s_.aD.getD g1.toNat 0).toNat) bD).Limits).getD g4.toNat bM).High*(v1.1.getD (((((s_.bf.getD ((s_.aD.getD g1.toNat 0).toNat) bD).Limits).getD g4.toNat bM).Clock).toNat) bR).Den)<(v1.1.getD (((((s_.bf.getD ((s_.aD.getD g1.toNat 0).toNat) bD).Limits).getD g4.toNat bM).Clock).toNat) bR).Num)))||((!s_.dF)&&(decide ((v1.1.getD (((((s_.bf.getD ((s_.aD.getD g1.toNat 0).toNat) bD).Limits).getD g4.toNat bM).Clock).toNat) bR).Num<((((s_.bf.getD ((s_.aD.getD g1.toNat 0).toNat) bD).Limits).getD g4.toNat bM).Low*(v1.1.getD (((((s_.bf.getD ((s_.aD.getD g1.toNat 0).toNat) bD).Limits).getD g4.toNat bM).Clock).toNat) bR).Den))))) then ret false else need (InI64 (g4+1))<|self4 (g4+1) else need (InI64 (g1+1))<|self1 (g1+1)
def nJ (s_:bW) (v1:((List aX)×Int)) (self1:Int→M Bool):Int→M Bool:=fun g1=>bif (decide (g1<(s_.aD.length:Int))) then need (0≤g1∧g1<(s_.aD.length:Int))<|need (0≤(s_.aD.getD g1.toNat 0)∧(s_.aD.getD g1.toNat 0)<(s_.bf.length:Int))<|bA (nI s_ v1 g1 self1) 0 else ret true
def jT (s_:bW):M Bool:=bnd (oG s_.aI.Clocks s_.aF.Setting) fun v1=>bif (v1.2 != 0) then ret false else bA (nJ s_ v1) 0
def eD (s_:(List Bool)):M (List Bool):=need (s_.length*1≤big)<|ret s_
def dL (s_:(List Int)):M (List Int):=need (s_.length*8≤big)<|ret s_
def tV (r_:bg):M bg:=bnd (eD r_.On) fun v1=>bnd (dL r_.Level) fun v2=>ret (⟨v1,v2⟩:bg)
def lZ (s_:bW) (self1:(Int×(List bL))→M Bool):(Int×(List bL))→M Bool:=fun g1=>bif (decide (g1.1<(s_.aD.length:Int))) then need (0≤g1.1∧g1.1<(s_.aD.length:Int))<|need (0≤(s_.aD.getD g1.1.toNat 0)∧(s_.aD.getD g1.1.toNat 0)<(s_.bf.length:Int))<|need ((g1.2.length+((s_.bf.getD ((s_.aD.getD g1.1.toNat 0).toNat) bD).Draws).length)*32≤big)<|need (InI64 (g1.1+1))<|self1 ((g1.1+1),(g1.2++(s_.bf.getD ((s_.aD.getD g1.1.toNat 0).toNat) bD).Draws)) else bnd (tV s_.aF.bZ) fun v1=>bnd (mQ s_.aI.Supplies v1 g1.2) fun v2=>ret v2
def iT (s_:bW):M Bool:=bA (lZ s_) (0,[])
def vH (p_:bG) (l_:(List kH)) (g2:(Int×(Nat→Int)×(List Bool))) (self2:(Int×(Nat→Int)×(List Bool))→M ((Nat→Int)×Int)) (self5:(Int×(Nat→Int)×(List Bool))→M ((Nat→Int)×Int)):(Int×(Nat→Int)×(List Bool))→M ((Nat→Int)×Int):=fun g5=>bif (decide (g5.1<((((p_.Groups.getD (((l_.getD g2.1.toNat dU).bQ).toNat) aU).bK).length:Nat):Int))) then need (0≤g5.1∧g5.1<((((p_.Groups.getD (((l_.getD g2.1.toNat dU).bQ).toNat) aU).bK).length:Nat):Int))<|need (0≤(((p_.Groups.getD (((l_.getD g2.1.toNat dU).bQ).toNat) aU).bK).getD g5.1.toNat 0)∧(((p_.Groups.getD (((l_.getD g2.1.toNat dU).bQ).toNat) aU).bK).getD g5.1.toNat 0)<((64:Nat):Int))<|bif (decide ((0:Int)≤(g5.2.1 ((((p_.Groups.getD (((l_.getD g2.1.toNat dU).bQ).toNat) aU).bK).getD g5.1.toNat 0).toNat)))) then ret (g5.2.1,40) else need (0≤(((p_.Groups.getD (((l_.getD g2.1.toNat dU).bQ).toNat) aU).bK).getD g5.1.toNat 0)∧(((p_.Groups.getD (((l_.getD g2.1.toNat dU).bQ).toNat) aU).bK).getD g5.1.toNat 0)<((64:Nat):Int))<|need (InI64 (g5.1+1))<|self5 ((g5.1+1),(upd g5.2.1 ((((p_.Groups.getD (((l_.getD g2.1.toNat dU).bQ).toNat) aU).bK).getD g5.1.toNat 0).toNat) ((l_.getD g2.1.toNat dU).bQ)),g5.2.2) else need (InI64 (g2.1+1))<|self2 ((g2.1+1),g5.2.1,g5.2.2)
def vI (p_:bG) (l_:(List kH)) (self2:(Int×(Nat→Int)×(List Bool))→M ((Nat→Int)×Int)):(Int×(Nat→Int)×(List Bool))→M ((Nat→Int)×Int):=fun g2=>bif (decide (g2.1<(l_.length:Int))) then need (0≤g2.1∧g2.1<(l_.length:Int))<|need ((((decide ((l_.getD g2.1.toNat dU).bQ<0))||(decide ((p_.Groups.length:Int)≤(l_.getD g2.1.toNat dU).bQ)))||(decide ((l_.getD g2.1.toNat dU).Function<0)))=false→0≤(l_.getD g2.1.toNat dU).bQ∧(l_.getD g2.1.toNat dU).bQ<(p_.Groups.length:Int))<|bif ((((decide ((l_.getD g2.1.toNat dU).bQ<0))||(decide ((p_.Groups.length:Int)≤(l_.getD g2.1.toNat dU).bQ)))||(decide ((l_.getD g2.1.toNat dU).Function<0)))||(decide (((((p_.Groups.getD (((l_.getD g2.1.toNat dU).bQ).toNat) aU).Functions).length:Nat):Int)≤(l_.getD g2.1.toNat dU).Function))) then ret (g2.2.1,2) else need (0≤(l_.getD g2.1.toNat dU).bQ∧(l_.getD g2.1.toNat dU).bQ<(g2.2.2.length:Int))<|bif (g2.2.2.getD (((l_.getD g2.1.toNat dU).bQ).toNat) false) then ret (g2.2.1,5) else need (0≤(l_.getD g2.1.toNat dU).bQ∧(l_.getD g2.1.toNat dU).bQ<(g2.2.2.length:Int))<|need (0≤(l_.getD g2.1.toNat dU).bQ∧(l_.getD g2.1.toNat dU).bQ<(p_.Groups.length:Int))<|bA (vH p_ l_ g2 self2) (0,g2.2.1,(g2.2.2.set (((l_.getD g2.1.toNat dU).bQ).toNat) true)) else ret (g2.2.1,0)
def wY (p_:bG) (l_:(List kH)) (self1:(Int×(Nat→Int)×(Nat→Int))→M ((Nat→Int)×Int)):(Int×(Nat→Int)×(Nat→Int))→M ((Nat→Int)×Int):=fun g1=>bif (decide (g1.1<(64:Int))) then need (0≤g1.1∧g1.1<((64:Nat):Int))<|need (InI64 (g1.1+1))<|self1 ((g1.1+1),g1.2.1,(upd g1.2.2 (g1.1.toNat) (-1:Int))) else bnd (jO p_) fun v1=>bif (v1 != 0) then ret (g1.2.2,1) else need (0≤(p_.Groups.length:Int)∧(p_.Groups.length:Int)*((1:Nat):Int)≤((big:Nat):Int))<|bA (vI p_ l_) (0,g1.2.2,(List.replicate ((p_.Groups.length:Int).toNat) false))
def uP (p_:bG) (l_:(List kH)):M ((Nat→Int)×Int):=bA (wY p_ l_) (0,(fun _=>0),(fun _=>0))
def jC (s_:Nat) (o0_:(List Int)):M (List Int):=need (s_≤o0_.length∧s_*8≤big)<|ret (o0_.take s_)
def oH (p_:bG):(Nat→Int)→M ((List Int)×Int):=fun g1=>need (0≤p_.bK∧p_.bK≤((64:Nat):Int))<|bnd (jC p_.bK.toNat ((List.range (64)).map g1)) fun v2=>ret (v2,0)
def uQ (p_:bG) (l_:(List kH)):M ((List Int)×Int):=bnd (uP p_ l_) fun v1=>bif (v1.2 != 0) then ret (([]:List Int),v1.2) else (oH p_) v1.1
def pI (s_:bW) (self1:(Int×(List kH))→M Bool):(Int×(List kH))→M Bool:=fun g1=>bif (decide (g1.1<(s_.aF.Uses.length:Int))) then need (0≤g1.1∧g1.1<(s_.aF.Uses.length:Int))<|need ((g1.2.length+1)*16≤big)<|need (InI64 (g1.1+1))<|self1 ((g1.1+1),(g1.2++([((s_.aF.Uses.getD g1.1.toNat aN).Use)]:List kH))) else bnd (uQ s_.aI.aT g1.2) fun v1=>ret (v1.2==(0:Int))
def l5 (s_:bW):M Bool:=bA (pI s_) (0,[])
def kJ (s_:bW) (g1:Int) (self1:Int→M Bool) (self7:(Int×(jd→Option Int))→M Bool):(Int×(jd→Option Int))→M Bool:=fun g7=>bif (decide (g7.1<((((s_.bf.getD ((s_.aD.getD g1.toNat 0).toNat) bD).Functions).length:Nat):Int))) then need (0≤g7.1∧g7.1<((((s_.bf.getD ((s_.aD.getD g1.toNat 0).toNat) bD).Functions).length:Nat):Int))<|need (InI64 ((pz g7.2 (.s (((s_.bf.getD ((s_.aD.getD g1.toNat 0).toNat) bD).Functions).getD g7.1.toNat ByteArray.empty))) - 1))<|bif (decide ((pz (qQ g7.2 (.s (((s_.bf.getD ((s_.aD.getD g1.toNat 0).toNat) bD).Functions).getD g7.1.toNat ByteArray.empty)) ((pz g7.2 (.s (((s_.bf.getD ((s_.aD.getD g1.toNat 0).toNat) bD).Functions).getD g7.1.toNat ByteArray.empty))) - 1)) (.s (((s_.bf.getD ((s_.aD.getD g1.toNat 0).toNat) bD).Functions).getD g7.1.toNat ByteArray.empty)))<0)) then ret false else need (InI64 (g7.1+1))<|self7 ((g7.1+1),(qQ g7.2 (.s (((s_.bf.getD ((s_.aD.getD g1.toNat 0).toNat) bD).Functions).getD g7.1.toNat ByteArray.empty)) ((pz g7.2 (.s (((s_.bf.getD ((s_.aD.getD g1.toNat 0).toNat) bD).Functions).getD g7.1.toNat ByteArray.empty))) - 1))) else need (InI64 (g1+1))<|self1 (g1+1)
def lG (s_:bW) (g1:Int) (self1:Int→M Bool) (self6:(Int×(jd→Option Int))→M Bool):(Int×(jd→Option Int))→M Bool:=fun g6=>bif (decide (g6.1<(s_.aF.Uses.length:Int))) then need (0≤g6.1∧g6.1<(s_.aF.Uses.length:Int))<|bif ((s_.aF.Uses.getD g6.1.toNat aN).Device==(s_.aD.getD g1.toNat 0)) then need (0≤((s_.aF.Uses.getD g6.1.toNat aN).Use).bQ∧((s_.aF.Uses.getD g6.1.toNat aN).Use).bQ<(s_.aI.aT.Groups.length:Int))<|need (0≤((s_.aF.Uses.getD g6.1.toNat aN).Use).Function∧((s_.aF.Uses.getD g6.1.toNat aN).Use).Function<((((s_.aI.aT.Groups.getD ((((s_.aF.Uses.getD g6.1.toNat aN).Use).bQ).toNat) aU).Functions).length:Nat):Int))<|need (InI64 ((pz g6.2 (.s (((s_.aI.aT.Groups.getD ((((s_.aF.Uses.getD g6.1.toNat aN).Use).bQ).toNat) aU).Functions).getD ((((s_.aF.Uses.getD g6.1.toNat aN).Use).Function).toNat) ByteArray.empty)))+1))<|need (InI64 (g6.1+1))<|self6 ((g6.1+1),(qQ g6.2 (.s (((s_.aI.aT.Groups.getD ((((s_.aF.Uses.getD g6.1.toNat aN).Use).bQ).toNat) aU).Functions).getD ((((s_.aF.Uses.getD g6.1.toNat aN).Use).Function).toNat) ByteArray.empty)) ((pz g6.2 (.s (((s_.aI.aT.Groups.getD ((((s_.aF.Uses.getD g6.1.toNat aN).Use).bQ).toNat) aU).Functions).getD ((((s_.aF.Uses.getD g6.1.toNat aN).Use).Function).toNat) ByteArray.empty)))+1))) else need (InI64 (g6.1+1))<|self6 ((g6.1+1),g6.2) else need (0≤(s_.aD.getD g1.toNat 0)∧(s_.aD.getD g1.toNat 0)<(s_.bf.length:Int))<|bA (kJ s_ g1 self1) (0,g6.2)
def lH (s_:bW) (self1:Int→M Bool):Int→M Bool:=fun g1=>bif (decide (g1<(s_.aD.length:Int))) then need (0≤g1∧g1<(s_.aD.length:Int))<|bA (lG s_ g1 self1) (0,(fun _=>none)) else ret true
def gV (s_:bW):M Bool:=bA (lH s_) 0
def vJ (l_:(List bJ)) (released_:(List Bool)) (g1:Int) (self1:Int→M Bool) (self4:Int→M Bool):Int→M Bool:=fun g4=>bif (decide (g4<((((l_.getD g1.toNat dReset).After).length:Nat):Int))) then need (0≤g4∧g4<((((l_.getD g1.toNat dReset).After).length:Nat):Int))<|need (0≤g1∧g1<(released_.length:Int))<|need ((released_.getD g1.toNat false)=true→0≤(((l_.getD g1.toNat dReset).After).getD g4.toNat 0)∧(((l_.getD g1.toNat dReset).After).getD g4.toNat 0)<(released_.length:Int))<|bif ((released_.getD g1.toNat false)&&(!(released_.getD ((((l_.getD g1.toNat dReset).After).getD g4.toNat 0).toNat) false))) then ret false else need (InI64 (g4+1))<|self4 (g4+1) else need (InI64 (g1+1))<|self1 (g1+1)
def vK (l_:(List bJ)) (released_:(List Bool)) (self1:Int→M Bool):Int→M Bool:=fun g1=>bif (decide (g1<(l_.length:Int))) then need (0≤g1∧g1<(l_.length:Int))<|bA (vJ l_ released_ g1 self1) 0 else ret true
def rQ (l_:(List bJ)) (released_:(List Bool)):M Bool:=bif ((released_.length:Int) != (l_.length:Int)) then ret false else bA (vK l_ released_) 0
def rR (l_:(List bJ)) (released_:(List Bool)):M Bool:=bnd (kT l_) fun v1=>bnd (grd ((v1==(0:Int))=true) (rQ l_ released_)) fun v2=>ret ((v1==(0:Int))&&v2)
def iU (line_:Int) (a10_:(List aS)) (a11_:(List aK)) (a12_:Int) (a13_:(List aY)) (a14_:(List bJ)) (a15_:(List bF)) (a16_:(List aP)) (a17_:(List Int)) (a18_:(List Int)) (a19_:(List Bool)) (a110_:(List Int)) (a111_:(List aG)) (a112_:(List Bool)) (a113_:(List Bool)) (a114_:Bool):M Bool:=need (0≤line_∧line_<(a112_.length:Int))<|ret (!(a112_.getD line_.toNat false))
def jU (s_:(List Int)) (f0_:(List aS)) (f1_:(List aK)) (f2_:Int) (f3_:(List aY)) (f4_:(List bJ)) (f5_:(List bF)) (f6_:(List aP)) (f7_:(List Int)) (f8_:(List Int)) (f9_:(List Bool)) (f10_:(List Int)) (f11_:(List aG)) (f12_:(List Bool)) (f13_:(List Bool)) (f14_:Bool) (self1:Int→M Int):Int→M Int:=fun g1=>bif (decide (g1<(s_.length:Int))) then need (0≤g1∧g1<(s_.length:Int))<|bnd (iU (s_.getD g1.toNat 0) f0_ f1_ f2_ f3_ f4_ f5_ f6_ f7_ f8_ f9_ f10_ f11_ f12_ f13_ f14_) fun v3=>bif v3 then ret g1 else need (InI64 (g1+1))<|self1 (g1+1) else ret (-1:Int)
def fP (s_:(List Int)) (f0_:(List aS)) (f1_:(List aK)) (f2_:Int) (f3_:(List aY)) (f4_:(List bJ)) (f5_:(List bF)) (f6_:(List aP)) (f7_:(List Int)) (f8_:(List Int)) (f9_:(List Bool)) (f10_:(List Int)) (f11_:(List aG)) (f12_:(List Bool)) (f13_:(List Bool)) (f14_:Bool):M Int:=bA (jU s_ f0_ f1_ f2_ f3_ f4_ f5_ f6_ f7_ f8_ f9_ f10_ f11_ f12_ f13_ f14_) 0
def eO (s_:(List Int)) (f0_:(List aS)) (f1_:(List aK)) (f2_:Int) (f3_:(List aY)) (f4_:(List bJ)) (f5_:(List bF)) (f6_:(List aP)) (f7_:(List Int)) (f8_:(List Int)) (f9_:(List Bool)) (f10_:(List Int)) (f11_:(List aG)) (f12_:(List Bool)) (f13_:(List Bool)) (f14_:Bool):M Bool:=bnd (fP s_ f0_ f1_ f2_ f3_ f4_ f5_ f6_ f7_ f8_ f9_ f10_ f11_ f12_ f13_ f14_) fun v1=>ret (decide ((0:Int)≤v1))
def nK (s_:bW) (self1:Int→M Bool):Int→M Bool:=fun g1=>bif (decide (g1<(s_.aD.length:Int))) then need (0≤g1∧g1<(s_.aD.length:Int))<|need (0≤(s_.aD.getD g1.toNat 0)∧(s_.aD.getD g1.toNat 0)<(s_.bf.length:Int))<|bnd (eO ((s_.bf.getD ((s_.aD.getD g1.toNat 0).toNat) bD).Resets) s_.aI.Clocks s_.aI.Supplies s_.aI.aT.bK s_.aI.aT.Groups s_.aI.Resets s_.aI.bH s_.bf s_.aD s_.aF.Setting s_.aF.bZ.On s_.aF.bZ.Level s_.aF.Uses s_.aF.Released s_.aF.dh s_.dF) fun v4=>bif v4 then ret false else need (InI64 (g1+1))<|self1 (g1+1) else ret true
def jV (s_:bW):M Bool:=bnd (rR s_.aI.Resets s_.aF.Released) fun v1=>bif (!v1) then ret false else bA (nK s_) 0
def vL (l_:(List bF)) (on_:(List Bool)) (self1:Int→M Bool):Int→M Bool:=fun g1=>bif (decide (g1<(l_.length:Int))) then need (0≤g1∧g1<(l_.length:Int))<|need (0≤g1∧g1<(on_.length:Int))<|need (((!(on_.getD g1.toNat false))&&(l_.getD g1.toNat dD).Always)=false→0≤g1∧g1<(on_.length:Int))<|need (((!(on_.getD g1.toNat false))&&(l_.getD g1.toNat dD).Always)=false→((on_.getD g1.toNat false)&&(decide ((0:Int)≤(l_.getD g1.toNat dD).Parent)))=true→0≤(l_.getD g1.toNat dD).Parent∧(l_.getD g1.toNat dD).Parent<(on_.length:Int))<|bif (((!(on_.getD g1.toNat false))&&(l_.getD g1.toNat dD).Always)||(((on_.getD g1.toNat false)&&(decide ((0:Int)≤(l_.getD g1.toNat dD).Parent)))&&(!(on_.getD (((l_.getD g1.toNat dD).Parent).toNat) false)))) then ret false else need (InI64 (g1+1))<|self1 (g1+1) else ret true
def rT (l_:(List bF)) (on_:(List Bool)):M Bool:=bif ((on_.length:Int) != (l_.length:Int)) then ret false else bA (vL l_ on_) 0
def rU (l_:(List bF)) (on_:(List Bool)):M Bool:=bnd (jJ l_) fun v1=>bnd (grd ((v1==(0:Int))=true) (rT l_ on_)) fun v2=>ret ((v1==(0:Int))&&v2)
def gW (m_:Int) (a10_:(List aS)) (a11_:(List aK)) (a12_:Int) (a13_:(List aY)) (a14_:(List bJ)) (a15_:(List bF)) (a16_:(List aP)) (a17_:(List Int)) (a18_:(List Int)) (a19_:(List Bool)) (a110_:(List Int)) (a111_:(List aG)) (a112_:(List Bool)) (a113_:(List Bool)) (a114_:Bool):M Bool:=need (0≤m_∧m_<(a16_.length:Int))<|need ((decide ((0:Int)≤(a16_.getD m_.toNat bD).dQ))=true→0≤(a16_.getD m_.toNat bD).dQ∧(a16_.getD m_.toNat bD).dQ<(a113_.length:Int))<|ret ((decide ((0:Int)≤(a16_.getD m_.toNat bD).dQ))&&(!(a113_.getD (((a16_.getD m_.toNat bD).dQ).toNat) false)))
def jW (s_:(List Int)) (f0_:(List aS)) (f1_:(List aK)) (f2_:Int) (f3_:(List aY)) (f4_:(List bJ)) (f5_:(List bF)) (f6_:(List aP)) (f7_:(List Int)) (f8_:(List Int)) (f9_:(List Bool)) (f10_:(List Int)) (f11_:(List aG)) (f12_:(List Bool)) (f13_:(List Bool)) (f14_:Bool) (self1:Int→M Int):Int→M Int:=fun g1=>bif (decide (g1<(s_.length:Int))) then need (0≤g1∧g1<(s_.length:Int))<|bnd (gW (s_.getD g1.toNat 0) f0_ f1_ f2_ f3_ f4_ f5_ f6_ f7_ f8_ f9_ f10_ f11_ f12_ f13_ f14_) fun v3=>bif v3 then ret g1 else need (InI64 (g1+1))<|self1 (g1+1) else ret (-1:Int)
def fQ (s_:(List Int)) (f0_:(List aS)) (f1_:(List aK)) (f2_:Int) (f3_:(List aY)) (f4_:(List bJ)) (f5_:(List bF)) (f6_:(List aP)) (f7_:(List Int)) (f8_:(List Int)) (f9_:(List Bool)) (f10_:(List Int)) (f11_:(List aG)) (f12_:(List Bool)) (f13_:(List Bool)) (f14_:Bool):M Int:=bA (jW s_ f0_ f1_ f2_ f3_ f4_ f5_ f6_ f7_ f8_ f9_ f10_ f11_ f12_ f13_ f14_) 0
def eP (s_:(List Int)) (f0_:(List aS)) (f1_:(List aK)) (f2_:Int) (f3_:(List aY)) (f4_:(List bJ)) (f5_:(List bF)) (f6_:(List aP)) (f7_:(List Int)) (f8_:(List Int)) (f9_:(List Bool)) (f10_:(List Int)) (f11_:(List aG)) (f12_:(List Bool)) (f13_:(List Bool)) (f14_:Bool):M Bool:=bnd (fQ s_ f0_ f1_ f2_ f3_ f4_ f5_ f6_ f7_ f8_ f9_ f10_ f11_ f12_ f13_ f14_) fun v1=>ret (decide ((0:Int)≤v1))
def jD (s_:bW):M Bool:=bnd (rU s_.aI.bH s_.aF.dh) fun v1=>bif (!v1) then ret false else bnd (eP s_.aD s_.aI.Clocks s_.aI.Supplies s_.aI.aT.bK s_.aI.aT.Groups s_.aI.Resets s_.aI.bH s_.bf s_.aD s_.aF.Setting s_.aF.bZ.On s_.aF.bZ.Level s_.aF.Uses s_.aF.Released s_.aF.dh s_.dF) fun v2=>ret (!v2)
def jX (s_:bW):M Int:=need (0≤(0:Int)∧(0:Int)<((8:Nat):Int))<|bnd (kX s_) fun v1=>bif (!v1) then need (InI64 ((0:Int)+1))<|ret ((0:Int)+1) else need (InI64 ((0:Int)+1))<|need (0≤((0:Int)+1)∧((0:Int)+1)<((8:Nat):Int))<|bnd (jS s_) fun v2=>bif (!v2) then need (InI64 (((0:Int)+1)+1))<|ret (((0:Int)+1)+1) else need (InI64 (((0:Int)+1)+1))<|need (0≤(((0:Int)+1)+1)∧(((0:Int)+1)+1)<((8:Nat):Int))<|bnd (jT s_) fun v3=>bif (!v3) then need (InI64 ((((0:Int)+1)+1)+1))<|ret ((((0:Int)+1)+1)+1) else need (InI64 ((((0:Int)+1)+1)+1))<|need (0≤((((0:Int)+1)+1)+1)∧((((0:Int)+1)+1)+1)<((8:Nat):Int))<|bnd (iT s_) fun v4=>bif (!v4) then need (InI64 (((((0:Int)+1)+1)+1)+1))<|ret (((((0:Int)+1)+1)+1)+1) else need (InI64 (((((0:Int)+1)+1)+1)+1))<|need (0≤(((((0:Int)+1)+1)+1)+1)∧(((((0:Int)+1)+1)+1)+1)<((8:Nat):Int))<|bnd (l5 s_) fun v5=>bif (!v5) then need (InI64 ((((((0:Int)+1)+1)+1)+1)+1))<|ret ((((((0:Int)+1)+1)+1)+1)+1) else need (InI64 ((((((0:Int)+1)+1)+1)+1)+1))<|need (0≤((((((0:Int)+1)+1)+1)+1)+1)∧((((((0:Int)+1)+1)+1)+1)+1)<((8:Nat):Int))<|bnd (gV s_) fun v6=>bif (!v6) then need (InI64 (((((((0:Int)+1)+1)+1)+1)+1)+1))<|ret (((((((0:Int)+1)+1)+1)+1)+1)+1) else need (InI64 (((((((0:Int)+1)+1)+1)+1)+1)+1))<|need (0≤(((((((0:Int)+1)+1)+1)+1)+1)+1)∧(((((((0:Int)+1)+1)+1)+1)+1)+1)<((8:Nat):Int))<|bnd (jV s_) fun v7=>bif (!v7) then need (InI64 ((((((((0:Int)+1)+1)+1)+1)+1)+1)+1))<|ret ((((((((0:Int)+1)+1)+1)+1)+1)+1)+1) else need (InI64 ((((((((0:Int)+1)+1)+1)+1)+1)+1)+1))<|need (0≤((((((((0:Int)+1)+1)+1)+1)+1)+1)+1)∧((((((((0:Int)+1)+1)+1)+1)+1)+1)+1)<((8:Nat):Int))<|bnd (jD s_) fun v8=>bif (!v8) then need (InI64 (((((((((0:Int)+1)+1)+1)+1)+1)+1)+1)+1))<|ret (((((((((0:Int)+1)+1)+1)+1)+1)+1)+1)+1) else need (InI64 (((((((((0:Int)+1)+1)+1)+1)+1)+1)+1)+1))<|ret (0:Int)
def rV (b_:bB) (l_:(List aP)) (members_:(List Int)) (g_:aR) (between_:Bool):M Int:=bnd (qE b_ l_) fun v1=>bif (v1 != 0) then ret (1:Int) else bnd (jX (⟨b_,l_,members_,g_,between_⟩:bW)) fun v2=>ret v2
def oI (b_:bB) (l_:(List aP)) (members_:(List Int)) (g_:aR):M Bool:=bnd (rV b_ l_ members_ g_ false) fun v1=>ret (v1==(0:Int))
def jL (b_:bB) (l_:(List aP)) (members_:(List Int)) (g_:aR) (device_:Int):M Int:=bnd (uN b_ l_ members_) fun v1=>bif (v1 != 0) then ret v1 else bnd (oI b_ l_ members_ g_) fun v2=>bif (!v2) then ret (41:Int) else bif ((decide (device_<0))||(decide ((l_.length:Int)≤device_))) then ret (2:Int) else ret (0:Int)
def wZ (b_:bB) (uses_:(List aG)) (more_:(List ByteArray)) (self1:(Int×(List ByteArray)×(List Int))→M ((List ByteArray)×(List Int))):(Int×(List ByteArray)×(List Int))→M ((List ByteArray)×(List Int)):=fun g1=>bif (decide (g1.1<(uses_.length:Int))) then need (0≤g1.1∧g1.1<(uses_.length:Int))<|need (0≤((uses_.getD g1.1.toNat aN).Use).bQ∧((uses_.getD g1.1.toNat aN).Use).bQ<(b_.aT.Groups.length:Int))<|need (0≤((uses_.getD g1.1.toNat aN).Use).Function∧((uses_.getD g1.1.toNat aN).Use).Function<((((b_.aT.Groups.getD ((((uses_.getD g1.1.toNat aN).Use).bQ).toNat) aU).Functions).length:Nat):Int))<|need ((g1.2.1.length+1)*16≤big)<|need ((g1.2.2.length+1)*8≤big)<|need (InI64 (g1.1+1))<|self1 ((g1.1+1),(g1.2.1++([(((b_.aT.Groups.getD ((((uses_.getD g1.1.toNat aN).Use).bQ).toNat) aU).Functions).getD ((((uses_.getD g1.1.toNat aN).Use).Function).toNat) ByteArray.empty)]:List ByteArray)),(g1.2.2++([((uses_.getD g1.1.toNat aN).Use).bQ]:List Int))) else need ((g1.2.1.length+more_.length)*16≤big)<|ret ((g1.2.1++more_),g1.2.2)
def oJ (b_:bB) (uses_:(List aG)) (more_:(List ByteArray)):M ((List ByteArray)×(List Int)):=bA (wZ b_ uses_ more_) (0,[],[])
def nk (f_:ByteArray):M Bool:=bnd (lV f_) fun v1=>ret (!v1)
def jY (s_:(List ByteArray)) (self1:Int→M Int):Int→M Int:=fun g1=>bif (decide (g1<(s_.length:Int))) then need (0≤g1∧g1<(s_.length:Int))<|bnd (nk (s_.getD g1.toNat ByteArray.empty)) fun v3=>bif v3 then ret g1 else need (InI64 (g1+1))<|self1 (g1+1) else ret (-1:Int)
def fT (s_:(List ByteArray)):M Int:=bA (jY s_) 0
def eT (s_:(List ByteArray)):M Bool:=bnd (fT s_) fun v1=>ret (decide ((0:Int)≤v1))
def w9 (p_:bG) (function_:ByteArray) (self1:(Int×(List Int))→M (List Int)):(Int×(List Int))→M (List Int):=fun g1=>bif (decide (g1.1<(p_.Groups.length:Int))) then need (0≤g1.1∧g1.1<(p_.Groups.length:Int))<|bnd (slices_Contains_string ((p_.Groups.getD g1.1.toNat aU).Functions) function_) fun v4=>bif v4 then need ((g1.2.length+1)*8≤big)<|need (InI64 (g1.1+1))<|self1 ((g1.1+1),(g1.2++([g1.1]:List Int))) else need (InI64 (g1.1+1))<|self1 ((g1.1+1),g1.2) else ret g1.2
def uR (p_:bG) (function_:ByteArray):M (List Int):=bnd (jO p_) fun v1=>bif (v1 != 0) then ret ([]:List Int) else bA (w9 p_ function_) (0,[])
def nu (p_:bG) (function_:ByteArray):M (List Int):=bnd (uR p_ function_) fun v1=>ret v1
def rW (p_:bG) (g2:(Int×(List Int))) (self2:(Int×(List Int))→M (aQ×Int)) (self5:(Int×Int)→M (aQ×Int)):(Int×Int)→M (aQ×Int):=fun g5=>bif (decide (g5.2<((((p_.Groups.getD g2.1.toNat aU).bK).length:Nat):Int))) then need (0≤g5.2∧g5.2<((((p_.Groups.getD g2.1.toNat aU).bK).length:Nat):Int))<|need (0≤(((p_.Groups.getD g2.1.toNat aU).bK).getD g5.2.toNat 0))<|need (InI64 (g5.2+1))<|self5 ((Bb .u64 g5.1 (zH .u64 1 (((p_.Groups.getD g2.1.toNat aU).bK).getD g5.2.toNat 0))),(g5.2+1)) else need ((g2.2.length+1)*8≤big)<|need (InI64 (g2.1+1))<|self2 ((g2.1+1),(g2.2++([g5.1]:List Int)))
def rX (given_:(List Int)) (g1:(Int×(List (List Int)))) (g2:(Int×(List Int))) (self6:(Int×Int)→M (aQ×Int)):(Int×Int)→M (aQ×Int):=fun g6=>bif (decide (g6.1<(given_.length:Int))) then need (0≤g6.1∧g6.1<(given_.length:Int))<|need (0≤g6.1∧g6.1<(g1.2.length:Int))<|bnd (slices_Contains_int (g1.2.getD g6.1.toNat []) (given_.getD g6.1.toNat 0)) fun v8=>need ((!v8)=false→0≤(given_.getD g6.1.toNat 0)∧(given_.getD g6.1.toNat 0)<(g2.2.length:Int))<|bif ((!v8)||((andI .u64 g6.2 (g2.2.getD ((given_.getD g6.1.toNat 0).toNat) 0)) != 0)) then ret ((⟨([]:List (List Int)),[],[],0⟩:aQ),40) else need (0≤(given_.getD g6.1.toNat 0)∧(given_.getD g6.1.toNat 0)<(g2.2.length:Int))<|need (InI64 (g6.1+1))<|self6 ((g6.1+1),(Bb .u64 g6.2 (g2.2.getD ((given_.getD g6.1.toNat 0).toNat) 0))) else ret ((⟨g1.2,g2.2,given_,g6.2⟩:aQ),0)
def rY (p_:bG) (l_:(List ByteArray)) (given_:(List Int)) (g1:(Int×(List (List Int)))) (self2:(Int×(List Int))→M (aQ×Int)):(Int×(List Int))→M (aQ×Int):=fun g2=>bif (decide (g2.1<(p_.Groups.length:Int))) then need (0≤g2.1∧g2.1<(p_.Groups.length:Int))<|bA (rW p_ g2 self2) (0,0) else bif (decide ((l_.length:Int)<(given_.length:Int))) then ret ((⟨([]:List (List Int)),[],[],0⟩:aQ),40) else bA (rX given_ g1 g2) (0,0)
def tX (p_:bG) (l_:(List ByteArray)) (given_:(List Int)) (self1:(Int×(List (List Int)))→M (aQ×Int)):(Int×(List (List Int)))→M (aQ×Int):=fun g1=>bif (decide (g1.1<(l_.length:Int))) then need (0≤g1.1∧g1.1<(l_.length:Int))<|bnd (nu p_ (l_.getD g1.1.toNat ByteArray.empty)) fun v5=>need ((g1.2.length+1)*24≤big)<|need (InI64 (g1.1+1))<|self1 ((g1.1+1),(g1.2++([v5]:List (List Int)))) else bA (rY p_ l_ given_ g1) (0,[])
def qo (p_:bG) (l_:(List ByteArray)) (given_:(List Int)):M (aQ×Int):=bnd (jO p_) fun v1=>bnd (grd (((v1 != 0)||(decide ((10:Int)<(l_.length:Int))))=false) (eT l_)) fun v2=>bif (((v1 != 0)||(decide ((10:Int)<(l_.length:Int))))||v2) then ret ((⟨([]:List (List Int)),[],[],0⟩:aQ),1) else bA (tX p_ l_ given_) (0,([]:List (List Int)))
def l6 (x_:aQ) (self1:(Int×(List Int))→M (List Int)):(Int×(List Int))→M (List Int):=fun g1=>bif (decide (g1.1<(x_.bI.length:Int))) then need ((g1.2.length+1)*8≤big)<|need (InI64 (g1.1+1))<|self1 ((g1.1+1),(g1.2++([g1.1]:List Int))) else ret g1.2
def iW (x_:aQ):M (List Int):=bA (l6 x_) ((x_.lC.length:Int),[])
def eU (self0_:(Int×(List Int)×aQ×(List Int))→M (Bool×Nat×(List Int)×aQ×(List Int))) (a0_:(Int×(List Int)×aQ×(List Int))) (g1:(Int×Nat×(List Int)×(List (List Int))×(List Int)×(List Int)×Int×(List Int))) (self1:(Int×Nat×(List Int)×(List (List Int))×(List Int)×(List Int)×Int×(List Int))→M (Bool×Nat×(List Int)×aQ×(List Int))):(List Int)→M (Bool×Nat×(List Int)×aQ×(List Int)):=fun g4=>need (0≤((a0_.2.2.1.bI.getD ((a0_.2.1.getD ((a0_.2.2.2.length:Int).toNat) 0).toNat) []).getD g1.1.toNat 0)∧((a0_.2.2.1.bI.getD ((a0_.2.1.getD ((a0_.2.2.2.length:Int).toNat) 0).toNat) []).getD g1.1.toNat 0)<(g1.2.2.2.2.1.length:Int))<|bnd (self0_ ((Bb .u64 a0_.1 (g1.2.2.2.2.1.getD (((a0_.2.2.1.bI.getD ((a0_.2.1.getD ((a0_.2.2.2.length:Int).toNat) 0).toNat) []).getD g1.1.toNat 0).toNat) 0)),g1.2.2.1,(⟨g1.2.2.2.1,g1.2.2.2.2.1,g1.2.2.2.2.2.1,g1.2.2.2.2.2.2.1⟩:aQ),g4)) fun v3=>need (v3.2.1≤v3.2.2.2.2.length)<|bif v3.1 then ret (true,v3.2.1,v3.2.2.1,v3.2.2.2.1,v3.2.2.2.2) else need (InI64 (((v3.2.1:Nat):Int) - 1))<|need (0≤(((v3.2.1:Nat):Int) - 1)∧((0:Nat):Int)+(((v3.2.1:Nat):Int) - 1)≤(v3.2.2.2.2.length:Int))<|need (InI64 (g1.1+1))<|self1 ((g1.1+1),(((v3.2.1:Nat):Int) - 1).toNat,v3.2.2.1,v3.2.2.2.1.bI,v3.2.2.2.1.mG,v3.2.2.2.1.lC,v3.2.2.2.1.lD,v3.2.2.2.2)
def jZ (self0_:(Int×(List Int)×aQ×(List Int))→M (Bool×Nat×(List Int)×aQ×(List Int))) (a0_:(Int×(List Int)×aQ×(List Int))) (self1:(Int×Nat×(List Int)×(List (List Int))×(List Int)×(List Int)×Int×(List Int))→M (Bool×Nat×(List Int)×aQ×(List Int))):(Int×Nat×(List Int)×(List (List Int))×(List Int)×(List Int)×Int×(List Int))→M (Bool×Nat×(List Int)×aQ×(List Int)):=fun g1=>need (g1.2.1≤g1.2.2.2.2.2.2.2.length)<|bif (decide (g1.1<(((a0_.2.2.1.bI.getD ((a0_.2.1.getD ((a0_.2.2.2.length:Int).toNat) 0).toNat) []).length:Nat):Int))) then need (0≤g1.1∧g1.1<(((a0_.2.2.1.bI.getD ((a0_.2.1.getD ((a0_.2.2.2.length:Int).toNat) 0).toNat) []).length:Nat):Int))<|need (0≤((a0_.2.2.1.bI.getD ((a0_.2.1.getD ((a0_.2.2.2.length:Int).toNat) 0).toNat) []).getD g1.1.toNat 0)∧((a0_.2.2.1.bI.getD ((a0_.2.1.getD ((a0_.2.2.2.length:Int).toNat) 0).toNat) []).getD g1.1.toNat 0)<(g1.2.2.2.2.1.length:Int))<|bif ((andI .u64 a0_.1 (g1.2.2.2.2.1.getD (((a0_.2.2.1.bI.getD ((a0_.2.1.getD ((a0_.2.2.2.length:Int).toNat) 0).toNat) []).getD g1.1.toNat 0).toNat) 0)) != 0) then need (InI64 (g1.1+1))<|self1 ((g1.1+1),g1.2.1,g1.2.2.1,g1.2.2.2.1,g1.2.2.2.2.1,g1.2.2.2.2.2.1,g1.2.2.2.2.2.2.1,g1.2.2.2.2.2.2.2) else need ((g1.2.1+1)*8≤big)<|(eU self0_ a0_ g1 self1) ((g1.2.2.2.2.2.2.2.take (g1.2.1))++([((a0_.2.2.1.bI.getD ((a0_.2.1.getD ((a0_.2.2.2.length:Int).toNat) 0).toNat) []).getD g1.1.toNat 0)]:List Int)) else ret (false,g1.2.1,g1.2.2.1,(⟨g1.2.2.2.1,g1.2.2.2.2.1,g1.2.2.2.2.2.1,g1.2.2.2.2.2.2.1⟩:aQ),g1.2.2.2.2.2.2.2)
def bV (self0_:(Int×(List Int)×aQ×(List Int))→M (Bool×Nat×(List Int)×aQ×(List Int))):(Int×(List Int)×aQ×(List Int))→M (Bool×Nat×(List Int)×aQ×(List Int)):=fun a0_=>bif ((a0_.2.2.2.length:Int)==(a0_.2.1.length:Int)) then ret (true,a0_.2.2.2.length,a0_.2.1,a0_.2.2.1,a0_.2.2.2) else need (0≤(a0_.2.2.2.length:Int)∧(a0_.2.2.2.length:Int)<(a0_.2.1.length:Int))<|need (0≤(a0_.2.1.getD ((a0_.2.2.2.length:Int).toNat) 0)∧(a0_.2.1.getD ((a0_.2.2.2.length:Int).toNat) 0)<(a0_.2.2.1.bI.length:Int))<|bA (jZ self0_ a0_) (0,a0_.2.2.2.length,a0_.2.1,a0_.2.2.1.bI,a0_.2.2.1.mG,a0_.2.2.1.lC,a0_.2.2.1.lD,a0_.2.2.2)
def fU (taken_:Int) (o1_:(List Int)) (o2_:aQ) (o4_:(List Int)):M (Bool×Nat×(List Int)×aQ×(List Int)):=bA bV (taken_,o1_,o2_,o4_)
def gX (x_:aQ) (chosen_:(List Int)):M ((List Int)×Bool):=need ((0:Int)=0∧0≤(chosen_.length:Int)∧(chosen_.length:Int)*((8:Nat):Int)≤((big:Nat):Int))<|bnd (fU x_.lD chosen_ x_ ([]:List Int)) fun v1=>need (v1.2.1≤v1.2.2.2.2.length)<|ret ((v1.2.2.2.2.take (v1.2.1)),v1.1)
def gY (n_:Int):Unit→M (Nat×(List Int)):=fun g1=>need (InI64 (((0:Nat):Int) - ((0:Nat):Int)))<|need (InI64 (n_ - (((0:Nat):Int) - ((0:Nat):Int))))<|bif (decide ((0:Int)<(n_ - (((0:Nat):Int) - ((0:Nat):Int))))) then need (0≤((0:Nat):Int)∧((0:Nat):Int)≤0)<|need (0<(n_ - (((0:Nat):Int) - ((0:Nat):Int)))∧(n_ - (((0:Nat):Int) - ((0:Nat):Int)))*((8:Nat):Int)≤((big:Nat):Int))<|need (0≤((0:Nat):Int)∧((0:Nat):Int)+((0:Nat):Int)≤(((n_ - (((0:Nat):Int) - ((0:Nat):Int))).toNat:Nat):Int))<|ret (0,(List.replicate ((n_ - (((0:Nat):Int) - ((0:Nat):Int))).toNat) 0)) else ret (0,[])
def j3 (n_:Int):M (Nat×(List Int)):=need ((decide (n_<0))=false)<|(gY n_) ()
def nL (slices_:(List (List Int))) (self2:(Nat×Int×(List Int))→M (List Int)):(Nat×Int×(List Int))→M (List Int):=fun g2=>need (g2.1≤g2.2.2.length)<|bif (decide (g2.2.1<(slices_.length:Int))) then need (0≤g2.2.1∧g2.2.1<(slices_.length:Int))<|need ((g2.1+(slices_.getD g2.2.1.toNat []).length)*8≤big)<|need (InI64 (g2.2.1+1))<|self2 ((g2.1+(slices_.getD g2.2.1.toNat []).length),(g2.2.1+1),((g2.2.2.take (g2.1))++(slices_.getD g2.2.1.toNat []))) else ret (g2.2.2.take (g2.1))
def oK (slices_:(List (List Int))) (self1:(Int×Int)→M (List Int)):(Int×Int)→M (List Int):=fun g1=>bif (decide (g1.2<(slices_.length:Int))) then need (0≤g1.2∧g1.2<(slices_.length:Int))<|need (InI64 (g1.1+(((slices_.getD g1.2.toNat []).length:Nat):Int)))<|need ((decide ((g1.1+(((slices_.getD g1.2.toNat []).length:Nat):Int))<0))=false)<|need (InI64 (g1.2+1))<|self1 ((g1.1+(((slices_.getD g1.2.toNat []).length:Nat):Int)),(g1.2+1)) else bnd (j3 g1.1) fun v1=>need (v1.1≤v1.2.length)<|bA (nL slices_) (v1.1,0,v1.2)
def kY (slices_:(List (List Int))):M (List Int):=bA (oK slices_) (0,0)
def j4 (p_:bG) (l_:(List ByteArray)) (given_:(List Int)):M ((List Int)×Int):=bnd (qo p_ l_ given_) fun v1=>bif (v1.2 != 0) then ret (([]:List Int),v1.2) else bnd (iW v1.1) fun v2=>bnd (gX v1.1 v2) fun v3=>bif (!v3.2) then ret (([]:List Int),9) else bnd (kY ([given_,v3.1]:List (List Int))) fun v4=>ret (v4,0)
def gZ (s_:(List aG)):M (List aG):=need (s_.length*24≤big)<|ret s_
def tY (g_:aR):M aR:=bnd (dL g_.Setting) fun v1=>bnd (tV g_.bZ) fun v2=>bnd (gZ g_.Uses) fun v3=>bnd (eD g_.Released) fun v4=>bnd (eD g_.dh) fun v5=>ret (⟨v1,v2,v3,v4,v5⟩:aR)
def tZ (b_:bB) (device_:Int) (v7:((List Int)×(List Bool)×(List Int)×(List Bool)×(List Bool)×Int×Int×(List aG))) (v8:((List ByteArray)×(List Int))) (v9:((List Int)×Int)) (self3:((List Int)×Int×(List aG))→M (aR×Int×Int)):((List Int)×Int×(List aG))→M (aR×Int×Int):=fun g3=>bif (decide (g3.2.1<(((v9.1.length - (v8.2.length:Int).toNat):Nat):Int))) then need (0≤g3.2.1∧g3.2.1<(g3.1.length:Int))<|need (0≤(g3.1.getD g3.2.1.toNat 0)∧(g3.1.getD g3.2.1.toNat 0)<(b_.aT.Groups.length:Int))<|need (InI64 ((v8.2.length:Int)+g3.2.1))<|need (0≤((v8.2.length:Int)+g3.2.1)∧((v8.2.length:Int)+g3.2.1)<(v8.1.length:Int))<|bnd (slices_Index_string ((b_.aT.Groups.getD ((g3.1.getD g3.2.1.toNat 0).toNat) aU).Functions) (v8.1.getD (((v8.2.length:Int)+g3.2.1).toNat) ByteArray.empty)) fun v12=>need ((g3.2.2.length+1)*24≤big)<|need (InI64 (g3.2.1+1))<|self3 (g3.1,(g3.2.1+1),(g3.2.2++([(⟨device_,(⟨(g3.1.getD g3.2.1.toNat 0),v12⟩:kH)⟩:aG)]:List aG))) else bnd (tY (⟨v7.1,(⟨v7.2.1,v7.2.2.1⟩:bg),g3.2.2,v7.2.2.2.1,v7.2.2.2.2.1⟩:aR)) fun v13=>ret (v13,0,0)
def l7 (b_:bB) (l_:(List aP)) (members_:(List Int)) (device_:Int):(List aG)→M (aR×Int×Int):=fun g2=>bnd (dL members_) fun v6=>need ((v6.length+1)*8≤big)<|bnd (iR b_ l_ (v6++([device_]:List Int)) g2) fun v7=>bif (v7.2.2.2.2.2.2.1 != 0) then ret ((⟨[],(⟨[],[]⟩:bg),[],[],[]⟩:aR),v7.2.2.2.2.2.1,v7.2.2.2.2.2.2.1) else need (0≤device_∧device_<(l_.length:Int))<|bnd (oJ b_ g2 ((l_.getD device_.toNat bD).Functions)) fun v8=>bnd (j4 b_.aT v8.1 v8.2) fun v9=>bif (v9.2 != 0) then ret ((⟨[],(⟨[],[]⟩:bg),[],[],[]⟩:aR),3,45) else need (0≤(v8.2.length:Int)∧(v8.2.length:Int)≤(v9.1.length:Int))<|bA (tZ b_ device_ v7 v8 v9) (((v9.1.drop ((v8.2.length:Int).toNat)).take ((v9.1.length - (v8.2.length:Int).toNat))),0,v7.2.2.2.2.2.2.2)
def vM (members_:(List Int)) (g_:aR) (kk:(List aG)→M (aR×Int×Int)) (self4:(Int×(List aG))→M (aR×Int×Int)):(Int×(List aG))→M (aR×Int×Int):=fun g4=>bif (decide (g4.1<(g_.Uses.length:Int))) then need (0≤g4.1∧g4.1<(g_.Uses.length:Int))<|bnd (slices_Contains_int members_ ((g_.Uses.getD g4.1.toNat aN).Device)) fun v16=>bif v16 then need ((g4.2.length+1)*24≤big)<|need (InI64 (g4.1+1))<|self4 ((g4.1+1),(g4.2++([(⟨(g_.Uses.getD g4.1.toNat aN).Device,((g_.Uses.getD g4.1.toNat aN).Use)⟩:aG)]:List aG))) else need (InI64 (g4.1+1))<|self4 ((g4.1+1),g4.2) else kk g4.2
def rZ (b_:bB) (l_:(List aP)) (members_:(List Int)) (g_:aR) (device_:Int):M (aR×Int×Int):=bnd (jL b_ l_ members_ g_ device_) fun v1=>bif (v1 != 0) then ret ((⟨[],(⟨[],[]⟩:bg),[],[],[]⟩:aR),0,v1) else bnd (slices_Contains_int members_ device_) fun v2=>bif v2 then ret ((⟨[],(⟨[],[]⟩:bg),[],[],[]⟩:aR),0,5) else bA (vM members_ g_ (l7 b_ l_ members_ device_)) (0,[])
def pJ (b_:bB) (device_:Int) (v7:((List Int)×(List Bool)×(List Int)×(List Bool)×(List Bool)×Int×Int×(List aG))) (v8:((List ByteArray)×(List Int))) (v9:((List Int)×Int)) (self3:((List Int)×Int×(List aG))→M (aR×Int×Int)):((List Int)×Int×(List aG))→M (aR×Int×Int):=fun g3=>bif (decide (g3.2.1<(((v9.1.length - (v8.2.length:Int).toNat):Nat):Int))) then need (0≤g3.2.1∧g3.2.1<(g3.1.length:Int))<|need (0≤(g3.1.getD g3.2.1.toNat 0)∧(g3.1.getD g3.2.1.toNat 0)<(b_.aT.Groups.length:Int))<|need (InI64 ((v8.2.length:Int)+g3.2.1))<|need (0≤((v8.2.length:Int)+g3.2.1)∧((v8.2.length:Int)+g3.2.1)<(v8.1.length:Int))<|bnd (slices_Index_string ((b_.aT.Groups.getD ((g3.1.getD g3.2.1.toNat 0).toNat) aU).Functions) (v8.1.getD (((v8.2.length:Int)+g3.2.1).toNat) ByteArray.empty)) fun v12=>need ((g3.2.2.length+1)*24≤big)<|need (InI64 (g3.2.1+1))<|self3 (g3.1,(g3.2.1+1),(g3.2.2++([(⟨device_,(⟨(g3.1.getD g3.2.1.toNat 0),v12⟩:kH)⟩:aG)]:List aG))) else bnd (tY (⟨v7.1,(⟨v7.2.1,v7.2.2.1⟩:bg),g3.2.2,v7.2.2.2.1,v7.2.2.2.2.1⟩:aR)) fun v13=>ret (v13,0,0)
def jE (b_:bB) (l_:(List aP)) (device_:Int) (o0_:(List Int)):(List aG)→M (aR×Int×Int):=fun g2=>bnd (slices_Clone_int o0_) fun v6=>need ((v6.length+1)*8≤big)<|bnd (iR b_ l_ (v6++([device_]:List Int)) g2) fun v7=>bif (v7.2.2.2.2.2.2.1 != 0) then ret ((⟨[],(⟨[],[]⟩:bg),[],[],[]⟩:aR),v7.2.2.2.2.2.1,v7.2.2.2.2.2.2.1) else need (0≤device_∧device_<(l_.length:Int))<|bnd (oJ b_ g2 ((l_.getD device_.toNat bD).Functions)) fun v8=>bnd (j4 b_.aT v8.1 v8.2) fun v9=>bif (v9.2 != 0) then ret ((⟨[],(⟨[],[]⟩:bg),[],[],[]⟩:aR),3,45) else need (0≤(v8.2.length:Int)∧(v8.2.length:Int)≤(v9.1.length:Int))<|bA (pJ b_ device_ v7 v8 v9) (((v9.1.drop ((v8.2.length:Int).toNat)).take ((v9.1.length - (v8.2.length:Int).toNat))),0,v7.2.2.2.2.2.2.2)
def qG (g_:aR) (o0_:(List Int)) (kk:(List aG)→M (aR×Int×Int)) (self4:(Int×(List aG))→M (aR×Int×Int)):(Int×(List aG))→M (aR×Int×Int):=fun g4=>bif (decide (g4.1<(g_.Uses.length:Int))) then need (0≤g4.1∧g4.1<(g_.Uses.length:Int))<|bnd (slices_Contains_int o0_ ((g_.Uses.getD g4.1.toNat aN).Device)) fun v16=>bif v16 then need ((g4.2.length+1)*24≤big)<|need (InI64 (g4.1+1))<|self4 ((g4.1+1),(g4.2++([(⟨(g_.Uses.getD g4.1.toNat aN).Device,((g_.Uses.getD g4.1.toNat aN).Use)⟩:aG)]:List aG))) else need (InI64 (g4.1+1))<|self4 ((g4.1+1),g4.2) else kk g4.2
def ny (b_:bB) (l_:(List aP)) (g_:aR) (device_:Int) (o0_:(List Int)):M (aR×Int×Int):=bnd (jL b_ l_ o0_ g_ device_) fun v1=>bif (v1 != 0) then ret ((⟨[],(⟨[],[]⟩:bg),[],[],[]⟩:aR),0,v1) else bnd (slices_Contains_int o0_ device_) fun v2=>bif v2 then ret ((⟨[],(⟨[],[]⟩:bg),[],[],[]⟩:aR),0,5) else bA (qG g_ o0_ (jE b_ l_ device_ o0_)) (0,[])
def jF (o0_:(List Int)):M (List Int):=need (o0_.length*8≤big)<|ret o0_
def j5 (m_:Int) (a1_:Int):M Bool:=ret (m_==a1_)
def j6 (s_:(List Int)) (f_:Int) (self1:Int→M Int):Int→M Int:=fun g1=>bif (decide (g1<(s_.length:Int))) then need (0≤g1∧g1<(s_.length:Int))<|bnd (j5 (s_.getD g1.toNat 0) f_) fun v3=>bif v3 then ret g1 else need (InI64 (g1+1))<|self1 (g1+1) else ret (-1:Int)
def fV (s_:(List Int)) (f_:Int):M Int:=bA (j6 s_ f_) 0
def lI (del_:Int) (self1:(Int×Int×(List Int))→M (Nat×(List Int))):(Int×Int×(List Int))→M (Nat×(List Int)):=fun g1=>bif (decide (g1.2.1<(g1.2.2.length:Int))) then need (0≤g1.2.1∧g1.2.1<(g1.2.2.length:Int))<|bnd (j5 (g1.2.2.getD g1.2.1.toNat 0) del_) fun v4=>bif (!v4) then need (0≤g1.1∧g1.1<(g1.2.2.length:Int))<|need (InI64 (g1.1+1))<|need (InI64 (g1.2.1+1))<|self1 ((g1.1+1),(g1.2.1+1),(g1.2.2.set (g1.1.toNat) (g1.2.2.getD g1.2.1.toNat 0))) else need (InI64 (g1.2.1+1))<|self1 (g1.1,(g1.2.1+1),g1.2.2) else need (0≤g1.1∧g1.1≤(g1.2.2.length:Int))<|need (0≤g1.1∧((0:Nat):Int)+g1.1≤(g1.2.2.length:Int))<|ret (g1.1.toNat,(uU g1.2.2 ((0+g1.1.toNat)) (List.replicate ((g1.2.2.length - g1.1.toNat)) 0)))
def ig (del_:Int) (o0_:(List Int)):M (Nat×(List Int)):=bnd (fV o0_ del_) fun v1=>bif (v1==(-1:Int)) then ret (o0_.length,o0_) else need (InI64 (v1+1))<|bA (lI del_) (v1,(v1+1),o0_)
def r9 (b_:bB) (l_:(List aP)) (g_:aR) (device_:Int) (o0_:(List Int)):M (aR×Int):=bnd (jL b_ l_ o0_ g_ device_) fun v1=>bif (v1 != 0) then ret ((⟨[],(⟨[],[]⟩:bg),[],[],[]⟩:aR),v1) else bnd (slices_Contains_int o0_ device_) fun v2=>bif (!v2) then ret ((⟨[],(⟨[],[]⟩:bg),[],[],[]⟩:aR),4) else bnd (jF o0_) fun v3=>bnd (ig device_ v3) fun v4=>need (v4.1≤v4.2.length)<|bnd (iR b_ l_ (v4.2.take (v4.1)) g_.Uses) fun v5=>ret ((⟨v5.1,(⟨v5.2.1,v5.2.2.1⟩:bg),v5.2.2.2.2.2.2.2,v5.2.2.2.1,v5.2.2.2.2.1⟩:aR),v5.2.2.2.2.2.2.1)
def qH:M Bool:=bnd (qD (⟨[],[],(⟨0,[]⟩:bG),[],[]⟩:bB)) fun v1=>bnd (rZ (⟨[],[],(⟨0,[]⟩:bG),[],[]⟩:bB) ([(⟨[],[],[],[],(-1:Int),[]⟩:aP)]:List aP) [] v1.1 0) fun v2=>bnd (r9 (⟨[],[],(⟨0,[]⟩:bG),[],[]⟩:bB) ([(⟨[],[],[],[],(-1:Int),[]⟩:aP)]:List aP) v2.1 0 ([0]:List Int)) fun v3=>bif (((((v1.2==(0:Int))&&(v2.2.2==(0:Int)))&&(v2.2.1==(0:Int)))&&(v3.2==(0:Int)))==true) then bif (((((v1.2==(0:Int))&&(v2.2.2==(0:Int)))&&(v2.2.1==(0:Int)))&&(v3.2==(0:Int)))==true) then bnd (grd (((((v1.2==(0:Int))&&(v2.2.2==(0:Int)))&&(v2.2.1==(0:Int)))&&(v3.2==(0:Int)))=true) (oI (⟨[],[],(⟨0,[]⟩:bG),[],[]⟩:bB) ([(⟨[],[],[],[],(-1:Int),[]⟩:aP)]:List aP) ([0]:List Int) v2.1)) fun v4=>ret (((((v1.2==(0:Int))&&(v2.2.2==(0:Int)))&&(v2.2.1==(0:Int)))&&(v3.2==(0:Int)))&&v4) else ret (((((v1.2==(0:Int))&&(v2.2.2==(0:Int)))&&(v2.2.1==(0:Int)))&&(v3.2==(0:Int)))&&false) else bif (((((v1.2==(0:Int))&&(v2.2.2==(0:Int)))&&(v2.2.1==(0:Int)))&&(v3.2==(0:Int)))==true) then ret (((((v1.2==(0:Int))&&(v2.2.2==(0:Int)))&&(v2.2.1==(0:Int)))&&(v3.2==(0:Int)))&&false) else ret (((((v1.2==(0:Int))&&(v2.2.2==(0:Int)))&&(v2.2.1==(0:Int)))&&(v3.2==(0:Int)))&&false)
def pK (g1:(Int×(List aP))) (self1:(Int×(List aP))→M Bool) (self4:(Int×(List ByteArray))→M Bool):(Int×(List ByteArray))→M Bool:=fun g4=>bif (decide (g4.1<(3:Int))) then need ((g4.2.length+1)*16≤big)<|need (InI64 (g4.1+1))<|self4 ((g4.1+1),(g4.2++([({ data:=#[117,97,114,116] }:ByteArray)]:List ByteArray))) else need ((g1.2.length+1)*128≤big)<|need (InI64 (g1.1+1))<|self1 ((g1.1+1),(g1.2++([(⟨[],[],g4.2,[],(-1:Int),[]⟩:aP)]:List aP)))
def iX (g6:(List aY)) (v1:(aR×Int)) (g7:((List aP)×Int×(List Int)×(List Bool)×(List Int)×(List aG)×(List Bool)×(List Bool)×(List Int))) (self7:((List aP)×Int×(List Int)×(List Bool)×(List Int)×(List aG)×(List Bool)×(List Bool)×(List Int))→M Bool):Unit→M Bool:=fun g10=>bnd (ny (⟨[],[],(⟨12,g6⟩:bG),[],[]⟩:bB) g7.1 (⟨g7.2.2.1,(⟨g7.2.2.2.1,g7.2.2.2.2.1⟩:bg),g7.2.2.2.2.2.1,g7.2.2.2.2.2.2.1,g7.2.2.2.2.2.2.2.1⟩:aR) g7.2.1 g7.2.2.2.2.2.2.2.2) fun v5=>need (InI64 (g7.2.1+1))<|need (InI64 ((3:Int)*(g7.2.1+1)))<|bif (decide ((10:Int)<((3:Int)*(g7.2.1+1)))) then bnd (grd ((((v1.2==(0:Int))&&(v5.2.2==(45:Int)))&&(v5.2.1==(4:Int)))=true) (qH)) fun v6=>ret ((((v1.2==(0:Int))&&(v5.2.2==(45:Int)))&&(v5.2.1==(4:Int)))&&v6) else need ((((v1.2 != 0)||(v5.2.2 != 0))||(v5.2.1 != 0))=false→InI64 (g7.2.1+1))<|need ((((v1.2 != 0)||(v5.2.2 != 0))||(v5.2.1 != 0))=false→InI64 ((3:Int)*(g7.2.1+1)))<|bif ((((v1.2 != 0)||(v5.2.2 != 0))||(v5.2.1 != 0))||((v5.1.Uses.length:Int) != ((3:Int)*(g7.2.1+1)))) then ret false else need ((g7.2.2.2.2.2.2.2.2.length+1)*8≤big)<|need (InI64 (g7.2.1+1))<|self7 (g7.1,(g7.2.1+1),v5.1.Setting,v5.1.bZ.On,v5.1.bZ.Level,v5.1.Uses,v5.1.Released,v5.1.dh,(g7.2.2.2.2.2.2.2.2++([g7.2.1]:List Int)))
def oL (g1:(Int×(List aP))) (g6:(List aY)) (v1:(aR×Int)) (self7:((List aP)×Int×(List Int)×(List Bool)×(List Int)×(List aG)×(List Bool)×(List Bool)×(List Int))→M Bool):((List aP)×Int×(List Int)×(List Bool)×(List Int)×(List aG)×(List Bool)×(List Bool)×(List Int))→M Bool:=fun g7=>bif (decide (g7.2.1<(g1.2.length:Int))) then (iX g6 v1 g7 self7) () else bnd (qH) fun v7=>ret v7
def iY (g1:(Int×(List aP))):(List aY)→M Bool:=fun g6=>bnd (qD (⟨[],[],(⟨12,g6⟩:bG),[],[]⟩:bB)) fun v1=>bA (oL g1 g6 v1) (g1.2,0,v1.1.Setting,v1.1.bZ.On,v1.1.bZ.Level,v1.1.Uses,v1.1.Released,v1.1.dh,[])
def oM (kk:(List aY)→M Bool) (self11:(Int×(List aY))→M Bool):(Int×(List aY))→M Bool:=fun g11=>bif (decide (g11.1<(12:Int))) then need (InI64 ((97:Int)+g11.1))<|need (({ data:=#[103] }:ByteArray).size+(strOf ([(IntKind.u8.wrap ((97:Int)+g11.1))]:List Int)).size≤9223372036854775807)<|need ((g11.2.length+1)*64≤big)<|need (InI64 (g11.1+1))<|self11 ((g11.1+1),(g11.2++([(⟨(({ data:=#[103] }:ByteArray)++(strOf ([(IntKind.u8.wrap ((97:Int)+g11.1))]:List Int))),([g11.1]:List Int),([({ data:=#[117,97,114,116] }:ByteArray)]:List ByteArray)⟩:aY)]:List aY))) else kk g11.2
def dM (n_:Int) (self1:(Int×(List aP))→M Bool):(Int×(List aP))→M Bool:=fun g1=>bif (decide (g1.1<((1:Int)+((IntKind.i64.wrap n_).tmod 4)))) then bA (pK g1 self1) (0,[]) else bA (oM (iY g1)) (0,[])
def bU (n_:Int):M Bool:=need ((4:Int)≠0)<|need (InI64 ((1:Int)+((IntKind.i64.wrap n_).tmod 4)))<|bA (dM n_) (0,[])
end
end Go.Proofs.YtccjmcmolnbiiaaGreatDoor


namespace Go.Proofs.YtccjmcmolnbiiaaGreatDoor
open Go.Ab
def cfg:Cfg where
 ty:=[(3,⟨1,false,8,[(.int .i64)],(.int .i64)⟩),
 (4,⟨1,false,1,[.bool],.bool⟩),
 (5,⟨1,false,1,[(.int .u8)],(.int .u8)⟩),
 (9,⟨1,false,16,[.str],.str⟩),
 (22,⟨1,false,24,[.slice],(.slice 3)⟩),
 (24,⟨1,false,8,[.ptr],(.pointer 95)⟩),
 (26,⟨1,false,24,[.slice],(.slice 191)⟩),
 (27,⟨1,false,24,[.slice],(.slice 175)⟩),
 (28,⟨1,false,24,[.slice],(.slice 60)⟩),
 (29,⟨2,true,32,[(.int .i64),.slice],(.struct [(0,3),(1,28)])⟩),
 (30,⟨2,true,32,[(.int .i64),.slice],(.struct [(0,3),(1,28)])⟩),
 (31,⟨1,false,24,[.slice],(.slice 133)⟩),
 (32,⟨1,false,24,[.slice],(.slice 136)⟩),
 (33,⟨6,true,128,[.slice,.slice,(.int .i64),.slice,.slice,.slice],(.struct [(0,26),(1,27),(2,30),(4,31),(5,32)])⟩),
 (34,⟨6,true,128,[.slice,.slice,(.int .i64),.slice,.slice,.slice],(.struct [(0,26),(1,27),(2,30),(4,31),(5,32)])⟩),
 (35,⟨1,false,24,[.slice],(.slice 53)⟩),
 (36,⟨1,false,24,[.slice],(.slice 4)⟩),
 (37,⟨2,true,48,[.slice,.slice],(.struct [(0,36),(1,22)])⟩),
 (38,⟨2,true,48,[.slice,.slice],(.struct [(0,36),(1,22)])⟩),
 (39,⟨1,false,24,[.slice],(.slice 57)⟩),
 (40,⟨6,true,144,[.slice,.slice,.slice,.slice,.slice,.slice],(.struct [(0,22),(1,38),(3,39),(4,36),(5,36)])⟩),
 (41,⟨6,true,144,[.slice,.slice,.slice,.slice,.slice,.slice],(.struct [(0,22),(1,38),(3,39),(4,36),(5,36)])⟩),
 (44,⟨1,false,8,[(.int .i64)],(.int .i64)⟩),
 (49,⟨1,false,24,[.slice],(.slice 112)⟩),
 (50,⟨1,false,24,[.slice],(.slice 114)⟩),
 (51,⟨1,false,24,[.slice],(.slice 9)⟩),
 (52,⟨6,true,128,[.slice,.slice,.slice,.slice,(.int .i64),.slice],(.struct [(0,49),(1,50),(2,51),(3,22),(4,3),(5,22)])⟩),
 (53,⟨6,true,128,[.slice,.slice,.slice,.slice,(.int .i64),.slice],(.struct [(0,49),(1,50),(2,51),(3,22),(4,3),(5,22)])⟩),
 (54,⟨2,true,16,[(.int .i64),(.int .i64)],(.struct [(0,3),(1,3)])⟩),
 (55,⟨2,true,16,[(.int .i64),(.int .i64)],(.struct [(0,3),(1,3)])⟩),
 (56,⟨3,true,24,[(.int .i64),(.int .i64),(.int .i64)],(.struct [(0,3),(1,55)])⟩),
 (57,⟨3,true,24,[(.int .i64),(.int .i64),(.int .i64)],(.struct [(0,3),(1,55)])⟩),
 (59,⟨3,true,64,[.str,.slice,.slice],(.struct [(0,9),(1,22),(2,51)])⟩),
 (60,⟨3,true,64,[.str,.slice,.slice],(.struct [(0,9),(1,22),(2,51)])⟩),
 (64,⟨1,false,24,[.slice],(.slice 55)⟩),
 (67,⟨1,false,24,[.slice],(.slice 5)⟩),
 (69,⟨12,true,256,[.slice,.slice,(.int .i64),.slice,.slice,.slice,.slice,.slice,(.int .i64),.slice,.slice,.slice],(.array 2 34)⟩),
 (72,⟨3,true,72,[.slice,.slice,.slice],(.array 3 35)⟩),
 (73,⟨2,true,48,[.slice,.slice],(.array 2 22)⟩),
 (77,⟨18,true,432,[.slice,.slice,.slice,.slice,.slice,.slice,.slice,.slice,.slice,.slice,.slice,.slice,.slice,.slice,.slice,.slice,.slice,.slice],(.array 3 41)⟩),
 (81,⟨2,true,16,[(.int .i64),(.int .i64)],(.array 2 3)⟩),
 (94,⟨2,true,32,[.slice,(.int .i64)],(.struct [(0,22),(1,3)])⟩),
 (95,⟨2,true,32,[.slice,(.int .i64)],(.struct [(0,22),(1,3)])⟩),
 (111,⟨3,true,24,[(.int .i64),(.int .i64),(.int .i64)],(.struct [(0,3),(1,3),(2,3)])⟩),
 (112,⟨3,true,24,[(.int .i64),(.int .i64),(.int .i64)],(.struct [(0,3),(1,3),(2,3)])⟩),
 (113,⟨4,true,32,[(.int .i64),(.int .i64),(.int .i64),(.int .i64)],(.struct [(0,3),(1,3),(2,3),(3,3)])⟩),
 (114,⟨4,true,32,[(.int .i64),(.int .i64),(.int .i64),(.int .i64)],(.struct [(0,3),(1,3),(2,3),(3,3)])⟩),
 (116,⟨1,false,8,[.other],.other⟩),
 (118,⟨1,false,8,[.other],.other⟩),
 (130,⟨1,false,8,[.other],.other⟩),
 (132,⟨1,true,24,[.slice],(.struct [(0,22)])⟩),
 (133,⟨1,true,24,[.slice],(.struct [(0,22)])⟩),
 (135,⟨2,true,16,[(.int .i64),.bool],(.struct [(0,3),(1,4)])⟩),
 (136,⟨2,true,16,[(.int .i64),.bool],(.struct [(0,3),(1,4)])⟩),
 (149,⟨1,false,8,[.other],.other⟩),
 (150,⟨1,false,24,[.slice],(.slice 22)⟩),
 (151,⟨1,false,24,[.slice],(.slice 152)⟩),
 (152,⟨1,false,8,[(.int .u64)],(.int .u64)⟩),
 (153,⟨4,true,80,[.slice,.slice,.slice,(.int .u64)],(.struct [(0,150),(1,151),(2,22),(3,152)])⟩),
 (154,⟨4,true,80,[.slice,.slice,.slice,(.int .u64)],(.struct [(0,150),(1,151),(2,22),(3,152)])⟩),
 (174,⟨5,true,56,[(.int .i64),.slice,(.int .i64),(.int .i64),.bool],(.struct [(0,3),(1,22),(2,3),(3,3),(4,4)])⟩),
 (175,⟨5,true,56,[(.int .i64),.slice,(.int .i64),(.int .i64),.bool],(.struct [(0,3),(1,22),(2,3),(3,3),(4,4)])⟩),
 (178,⟨15,true,328,[.slice,.slice,(.int .i64),.slice,.slice,.slice,.slice,.slice,.slice,.slice,.slice,.slice,.slice,.slice,.bool],(.struct [(0,34),(6,35),(7,22),(8,41),(14,4)])⟩),
 (179,⟨15,true,328,[.slice,.slice,(.int .i64),.slice,.slice,.slice,.slice,.slice,.slice,.slice,.slice,.slice,.slice,.slice,.bool],(.struct [(0,34),(6,35),(7,22),(8,41),(14,4)])⟩),
 (190,⟨5,true,72,[(.int .i64),.slice,.slice,(.int .i64),(.int .i64)],(.struct [(0,3),(1,22),(2,22),(3,3),(4,3)])⟩),
 (191,⟨5,true,72,[(.int .i64),.slice,.slice,(.int .i64),(.int .i64)],(.struct [(0,3),(1,22),(2,22),(3,3),(4,3)])⟩),
 (194,⟨1,false,8,[.other],.other⟩),
 (196,⟨1,false,8,[.other],.other⟩),
 (197,⟨1,false,24,[.slice],(.slice 241)⟩),
 (202,⟨1,false,8,[.other],.other⟩),
 (203,⟨1,false,8,[.other],.other⟩),
 (205,⟨1,false,8,[.other],.other⟩),
 (208,⟨1,false,8,[.other],.other⟩),
 (210,⟨1,false,8,[.other],(.map 9 4)⟩),
 (218,⟨1,false,8,[.other],.other⟩),
 (219,⟨1,false,24,[.slice],(.slice 218)⟩),
 (221,⟨1,false,24,[.slice],(.slice 226)⟩),
 (225,⟨2,true,16,[(.int .i64),(.int .i64)],(.struct [(0,3),(1,3)])⟩),
 (226,⟨2,true,16,[(.int .i64),(.int .i64)],(.struct [(0,3),(1,3)])⟩),
 (232,⟨1,false,24,[.slice],(.slice 237)⟩),
 (236,⟨5,true,40,[(.int .i64),(.int .i64),(.int .i64),(.int .i64),.bool],(.struct [(0,3),(1,3),(2,3),(3,3),(4,4)])⟩),
 (237,⟨5,true,40,[(.int .i64),(.int .i64),(.int .i64),(.int .i64),.bool],(.struct [(0,3),(1,3),(2,3),(3,3),(4,4)])⟩),
 (240,⟨3,true,24,[(.int .i64),(.int .i64),(.int .i64)],(.struct [(0,3),(1,3),(2,3)])⟩),
 (241,⟨3,true,24,[(.int .i64),(.int .i64),(.int .i64)],(.struct [(0,3),(1,3),(2,3)])⟩),
 (248,⟨1,false,8,[.other],.other⟩),
 (256,⟨1,false,8,[.other],(.map 9 3)⟩),
 (261,⟨1,false,8,[.other],.other⟩),
 (263,⟨1,false,8,[(.int .u64)],(.int .u64)⟩),
 (269,⟨64,true,512,[(.int .i64),(.int .i64),(.int .i64),(.int .i64),(.int .i64),(.int .i64),(.int .i64),(.int .i64),(.int .i64),(.int .i64),(.int .i64),(.int .i64),(.int .i64),(.int .i64),(.int .i64),(.int .i64),(.int .i64),(.int .i64),(.int .i64),(.int .i64),(.int .i64),(.int .i64),(.int .i64),(.int .i64),(.int .i64),(.int .i64),(.int .i64),(.int .i64),(.int .i64),(.int .i64),(.int .i64),(.int .i64),(.int .i64),(.int .i64),(.int .i64),(.int .i64),(.int .i64),(.int .i64),(.int .i64),(.int .i64),(.int .i64),(.int .i64),(.int .i64),(.int .i64),(.int .i64),(.int .i64),(.int .i64),(.int .i64),(.int .i64),(.int .i64),(.int .i64),(.int .i64),(.int .i64),(.int .i64),(.int .i64),(.int .i64),(.int .i64),(.int .i64),(.int .i64),(.int .i64),(.int .i64),(.int .i64),(.int .i64),(.int .i64)],(.array 64 3)⟩),
 (270,⟨64,true,512,[(.int .i64),(.int .i64),(.int .i64),(.int .i64),(.int .i64),(.int .i64),(.int .i64),(.int .i64),(.int .i64),(.int .i64),(.int .i64),(.int .i64),(.int .i64),(.int .i64),(.int .i64),(.int .i64),(.int .i64),(.int .i64),(.int .i64),(.int .i64),(.int .i64),(.int .i64),(.int .i64),(.int .i64),(.int .i64),(.int .i64),(.int .i64),(.int .i64),(.int .i64),(.int .i64),(.int .i64),(.int .i64),(.int .i64),(.int .i64),(.int .i64),(.int .i64),(.int .i64),(.int .i64),(.int .i64),(.int .i64),(.int .i64),(.int .i64),(.int .i64),(.int .i64),(.int .i64),(.int .i64),(.int .i64),(.int .i64),(.int .i64),(.int .i64),(.int .i64),(.int .i64),(.int .i64),(.int .i64),(.int .i64),(.int .i64),(.int .i64),(.int .i64),(.int .i64),(.int .i64),(.int .i64),(.int .i64),(.int .i64),(.int .i64)],(.array 64 3)⟩),
 (276,⟨1,false,4,[(.int .u32)],(.int .u32)⟩),
 (283,⟨1,false,8,[.other],.other⟩)]
 eqs:=[(226,[(.int .i64),(.int .i64)])]
 fns:=[(10,⟨[],true⟩),(11,⟨[0],true⟩),(12,⟨[],true⟩),(13,⟨[2],true⟩),(15,⟨[],true⟩),(16,⟨[],true⟩),(17,⟨[],true⟩),(18,⟨[],true⟩),(20,⟨[0],true⟩),(21,⟨[],true⟩),(22,⟨[],true⟩),(23,⟨[],true⟩),(24,⟨[],true⟩),(25,⟨[0],true⟩),(26,⟨[],true⟩),(27,⟨[],true⟩),(30,⟨[0],false⟩),(31,⟨[],true⟩),(32,⟨[2],true⟩),(33,⟨[],true⟩),(35,⟨[],true⟩),(40,⟨[],true⟩),(41,⟨[],true⟩),(42,⟨[0],true⟩),(43,⟨[0],true⟩),(46,⟨[],true⟩),(47,⟨[0],true⟩),(48,⟨[],true⟩),(49,⟨[],true⟩),(51,⟨[],true⟩),(54,⟨[0],false⟩),(55,⟨[0],false⟩),(56,⟨[0],false⟩),(57,⟨[],true⟩),(58,⟨[],true⟩),(59,⟨[],true⟩),(60,⟨[],true⟩),(65,⟨[],true⟩),(66,⟨[],true⟩),(67,⟨[],true⟩),(73,⟨[],true⟩),(74,⟨[],true⟩),(75,⟨[0],true⟩),(79,⟨[0],true⟩),(80,⟨[0],true⟩),(81,⟨[0],true⟩),(82,⟨[0],true⟩),(83,⟨[0],true⟩),(84,⟨[0],false⟩),(85,⟨[0],false⟩),(86,⟨[0],true⟩),(87,⟨[0],true⟩),(89,⟨[],true⟩),(90,⟨[],true⟩),(91,⟨[],true⟩),(92,⟨[],true⟩),(93,⟨[],true⟩),(94,⟨[],true⟩),(95,⟨[],true⟩),(96,⟨[],true⟩),(97,⟨[],true⟩),(98,⟨[],true⟩),(99,⟨[],true⟩),(100,⟨[],true⟩),(101,⟨[],true⟩),(102,⟨[],true⟩),(103,⟨[],true⟩),(114,⟨[],true⟩),(116,⟨[],true⟩),(129,⟨[],true⟩),(132,⟨[],true⟩),(133,⟨[],true⟩),(134,⟨[],true⟩),(136,⟨[2],false⟩),(137,⟨[0,2,3],false⟩),(139,⟨[],true⟩),(140,⟨[],true⟩),(142,⟨[],true⟩),(147,⟨[],true⟩),(148,⟨[1,2,3,4],false⟩),(149,⟨[],true⟩),(163,⟨[],true⟩),(165,⟨[],true⟩),(176,⟨[],true⟩),(182,⟨[],true⟩),(185,⟨[],true⟩),(186,⟨[1],true⟩),(189,⟨[],true⟩),(190,⟨[],true⟩),(193,⟨[],true⟩),(198,⟨[],true⟩),(209,⟨[],true⟩),(211,⟨[1],false⟩),(212,⟨[],true⟩),(225,⟨[1],true⟩),(265,⟨[0],false⟩),(266,⟨[0],false⟩),(267,⟨[0],false⟩),(268,⟨[0],false⟩),(269,⟨[0],false⟩),(272,⟨[0],false⟩)]
 glob:=[(0,[iV (0:Int),iV (1:Int)])]
theorem cfgOK:CfgOK Tryz.prog cfg:=cfgOK_of (by kernel_rfl) (by kernel_rfl) (by kernel_rfl)
abbrev S:=Ab.Spec Tryz.prog cfg
end Go.Proofs.YtccjmcmolnbiiaaGreatDoor









namespace Go.Proofs.YtccjmcmolnbiiaaGreatDoor
open Go.Ab Go.RowKit Go.Shelf
attribute [local go_sem] Oper.semAt_some
set_option maxRecDepth 100000 in
set_option maxHeartbeats 2000000 in
theorem back_in (F:Fence) (n:Nat) (h7:F.fn 229) (hro:F.round=none) (hn:1≤n) (l B O b off len cap:Nat) (hlen:len≤1000000) (Keep:World→Prop)
  (c0 c1 c2 c3 c4:Nat→Value) (v1:Nat→Value) (hv:∀i,v1 i=.agg #[c0 i,c1 i,c2 i,c3 i,c4 i])
  (hB:∀w,Keep w→w.cell? ⟨B,O,none⟩=some (.slice (some ⟨b,off,none⟩) len cap))
  (h0:∀w i,Keep w→i<len→w.cell? ⟨b,off+i*5,none⟩=some (c0 i)) (h1:∀w i,Keep w→i<len→w.cell? ⟨b,off+i*5+1,none⟩=some (c1 i)) (h2:∀w i,Keep w→i<len→w.cell? ⟨b,off+i*5+2,none⟩=some (c2 i))
  (h3:∀w i,Keep w→i<len→w.cell? ⟨b,off+i*5+3,none⟩=some (c3 i)) (h4:∀w i,Keep w→i<len→w.cell? ⟨b,off+i*5+4,none⟩=some (c4 i))
  (J:Nat→World→Prop) (Jx:World→Prop)
  (hY:∀k W,k<len→J k W→YieldAt F (n - 1) Tryz.prog l #[.int .i64 ((len - 1 - k:Nat):Int),v1 (len - 1 - k)] W fun e W'=>
    (e=.returned (.bool true)∧J (k+1) W'∧Keep W')∨(e=.returned (.bool false)∧Jx W'))
  (W:World) (hW:Keep W) (hJ:J 0 W):
  CallsIn F n Tryz.prog 229 #[.func (.yield l) #[] #[],.pointer (some ⟨B,O,none⟩)] W fun e W'=>(∃v,e=.returned v)∧(J len W'∨Jx W'):=by
 refine callsIn_of_wp Tryz.func229 rfl h7 ?_ hro;simp only [Tryz.ntmps229,List.size_toArray,List.length_cons,List.length_nil,Nat.reduceAdd,Nat.reduceSub,Array.replicate_succ,Array.replicate_zero,List.push_toArray,List.append_toArray,List.nil_append,List.cons_append];have hB0:=hB W hW;gi_wp2;gi_loopw [3] (fun i wr=>∃k:Nat,k≤len∧i=.int .i64 ((len:Int) - 1 - k)∧J k wr∧Keep wr)
  (fun i _=>(intOf i+1).toNat)
 case atStart=>exact ⟨0,Nat.zero_le _,by simp,hJ,hW⟩
 case round=>
  obtain ⟨k,hk,rfl,hJs,hkp⟩:=hrel
  by_cases hlt:k<len
  ·obtain ⟨fn,tmps,assign,body,hy,hR⟩:=hY k wr hlt hJs
   have hBr:=hB wr hkp
   obtain ⟨i,hi⟩:∃i:Nat,i=len - 1 - k:=⟨_,rfl⟩
   rw [← hi] at hy
   have hil:i<len:=by omega
   have hii:((len:Int) - 1 - k)=(i:Int):=by omega
   rw [hii]
   have e0:=h0 wr i hkp hil
   have e1:=h1 wr i hkp hil
   have e2:=h2 wr i hkp hil
   have e3:=h3 wr i hkp hil
   have e4:=h4 wr i hkp hil
   rw [hv] at hy
   have A:Aside (i+k+1=len):=by show i+k+1=len; omega
   have hi0:¬ ((i:Int)<0):=by omega
   have hi1:0≤(i:Int):=by omega
   clear hi hii hlt hk
   gi_wp2
   refine hR.mono ?_
   rintro e W3 (⟨rfl,hJ3,hk3⟩ | ⟨rfl,hJx3⟩)
   ·have A':=A.out
    gi_wp2
    go_roundw
    case rel=>exact ⟨k+1,by omega,by have:=A'; simp; omega,hJ3,hk3⟩
    case measure=>simp [intOf]
   ·gi_wp2
    refine bodyPost_ret (results_none rfl _ _ _) rfl ?_
    exact ⟨⟨_,rfl⟩,.inr hJx3⟩
  ·obtain rfl:k=len:=by omega
   have hneg:((k:Int) - 1 - k) = -1:=by omega
   rw [hneg]
   gi_wp2
   go_end0
   exact ⟨⟨_,rfl⟩,.inl hJs⟩
set_option maxRecDepth 100000 in
set_option maxHeartbeats 2000000 in
theorem back_nil_in (F:Fence) (n:Nat) (h7:F.fn 229) (hro:F.round=none) (l B O cap:Nat) (a:Option Addr) (J:World→Prop) (W:World) (hB:W.cell? ⟨B,O,none⟩=some (.slice a 0 cap)) (hJ:J W):
  CallsIn F n Tryz.prog 229 #[.func (.yield l) #[] #[],.pointer (some ⟨B,O,none⟩)] W fun e W'=>(∃v,e=.returned v)∧J W':=by
 refine callsIn_of_wp Tryz.func229 rfl h7 ?_ hro;simp only [Tryz.ntmps229,List.size_toArray,List.length_cons,List.length_nil,Nat.reduceAdd,Nat.reduceSub,Array.replicate_succ,Array.replicate_zero,List.push_toArray,List.append_toArray,List.nil_append,List.cons_append];gi_wp2;gi_loopw [3] (fun i wr=>i=.int .i64 (-1)∧J wr) (fun _ _=>0);case atStart=>exact ⟨by simp,hJ⟩
 case round=>
  obtain ⟨rfl,hJs⟩:=hrel
  gi_wp2
  go_end0
  exact ⟨⟨_,rfl⟩,hJs⟩
theorem callsIn_FW {n n':Nat} {P:Program} {f:FuncId} {args:Array Value} {w:World} {R:Ending→World→Prop} (h:CallsIn (FW none) n P f args w R):CallsIn (FW none) n' P f args w R:=
 ⟨h.1,fun cs _=>h.2 cs (fun _ hd=>by cases hd)⟩
theorem back_iter (l:List aK) (hl:l.length≤1000000):IterSpec Tryz.prog 229 [.ro [aH l]] l.length (fun k=>iV ((l.length - 1 - k:Nat):Int)) (fun k=>o9 (l.getD (l.length - 1 - k) aC)):=by
 refine ⟨enters_of Tryz.func229 (by kernel_rfl) rfl,fun w I lb hI hlb hp=>?_⟩;have h0:=hp 0 (by simp);have hlb1:lb=#[lb.getD 0 Go.undef]:=by
  have:lb.size=1:=hlb;apply Array.ext
  ·simp [this]
  ·intro i h1 h2;have:i=0:=by omega
   subst this;simp [h1]
 rw [hlb1];generalize lb.getD 0 Go.undef=x at h0;clear hlb1 hp hlb;cases h0 with
 | ro B O vs hIB hm hr=>
  have hs:=hr 0 (by simp);have hm0:=hm 0 (by simp);have hs:PRep w I (aH l) (vs 0):=hs;generalize vs 0=sv at hs hm0;cases hs with
  | @sl _ _ _ _ a cap b off cs hcap _ ha hes hcm h1 hcr=>
   by_cases hz:l.length=0
   ·refine ⟨fun _=>.bool true,fun _=>.bool true,fun k hk=>absurd hk om,fun y n J Jx W hW hY hJ=>?_⟩;have hBc:W.cell? ⟨B,O,none⟩=some (.slice a 0 cap):=by
     rw [cell?_of_heap (w:=w) (hW B hIB),← hz];exact hm0
    rw [hz];exact (back_nil_in (FW none) n trivial rfl y B O cap a (fun W=>J 0 W) W hBc hJ).mono fun e W' ⟨h1,h2⟩=>⟨h1,.inl h2⟩
   ·obtain ⟨ha1,hIb⟩:=ha hz;subst ha1;refine ⟨fun k=>.int .i64 ((l.length - 1 - k:Nat):Int),fun k=>.agg #[cs (l.length - 1 - k) 0,cs (l.length - 1 - k) 1,cs (l.length - 1 - k) 2,cs (l.length - 1 - k) 3,cs (l.length - 1 - k) 4],fun k hk=>⟨.int _ _,?_⟩,fun y n J Jx W hW hY hJ=>?_⟩
    ·refine .agg rfl fun j hj=>?_;have hj:j<5:=hj;have:=hcr (l.length - 1 - k) j om hj;have e:nth (o9 (l.getD (l.length - 1 - k) aC)).cells j=nth [iV (l.getD (l.length - 1 - k) aC).Parent,intsV (l.getD (l.length - 1 - k) aC).bN,iV (l.getD (l.length - 1 - k) aC).dR,iV (l.getD (l.length - 1 - k) aC).gD,.bool (l.getD (l.length - 1 - k) aC).Always] j:=rfl;rcases (by omega:j=0∨j=1∨j=2∨j=3∨j=4) with rfl | rfl | rfl | rfl | rfl<;>exact this
    ·have key:∀W':World,(∀b,I b→W'.heap[b]? = w.heap[b]?)→∀i j,i<l.length→j<5→W'.cell? ⟨b,off+(i*5+j),none⟩=some (cs i j):=fun W' hW' i j hi hj=>by
      rw [cell?_of_heap (w:=w) (hW' b hIb)];exact hcm i j hi hj
     refine callsIn_FW (back_in (FW none) (n+1) trivial rfl om y B O b off l.length cap hl (fun W':World=>∀b,I b→W'.heap[b]? = w.heap[b]?) (fun i=>cs i 0) (fun i=>cs i 1) (fun i=>cs i 2) (fun i=>cs i 3) (fun i=>cs i 4) (fun i=>.agg #[cs i 0,cs i 1,cs i 2,cs i 3,cs i 4]) (fun _=>rfl)
      (fun W' hW'=>by rw [cell?_of_heap (w:=w) (hW' B hIB)]; exact hm0) (fun W' i h hi=>key W' h i 0 hi om) (fun W' i h hi=>key W' h i 1 hi om) (fun W' i h hi=>key W' h i 2 hi om) (fun W' i h hi=>key W' h i 3 hi om) (fun W' i h hi=>key W' h i 4 hi om)
      (fun k W1=>J k W1∧∀b,I b→W1.heap[b]? = w.heap[b]?) Jx ?_ W hW ⟨hJ,hW⟩ |>.mono ?_)
     ·rintro k W1 hk ⟨hJ1,hW1⟩;obtain ⟨fn,tmps,assign,body,hy,hR⟩:=hY k W1 hk hJ1;refine ⟨fn,tmps,assign,body,hy,hR.mono ?_⟩;rintro e W' (⟨rfl,h2,h3⟩ | ⟨rfl,h2⟩)
      ·have hW':∀b,I b→W'.heap[b]? = w.heap[b]? := fun b hb=>(h3 b hb).trans (hW1 b hb);exact .inl ⟨rfl,⟨h2,hW'⟩,hW'⟩
      ·exact .inr ⟨rfl,h2⟩
     ·rintro e W' ⟨h1,⟨h2,_⟩ | h2⟩
      ·exact ⟨h1,.inl h2⟩
      ·exact ⟨h1,.inr h2⟩
theorem backward_spec (l:List aK):S 190 [aH l] [] (.fn 229 [.ro [aH l]]) []:=by
 refine spec_of_x (ct:=[]) cfgOK Tryz.func190 rfl rfl (Nat.le_of_ble_eq_true rfl) (by decide +kernel) (Nat.zero_le _) ?_;conv=>whnf
 exact ⟨⟨rfl,LeL.refl _,trivial⟩,trivial⟩
end Go.Proofs.YtccjmcmolnbiiaaGreatDoor









namespace Go.Proofs.YtccjmcmolnbiiaaGreatDoor
open Go.ChangeShapes Go.WideShapes Go.ChangeAt Go.RowKit
open Go.Ab
set_option maxRecDepth 100000
theorem own:ownKnob Tryz.prog.godebug=none:=by kernel_rfl
theorem gOff:Tryz.prog.globalNamed "bringup/clock.off" = some 0:=by kernel_rfl
theorem tOff:(Tryz.prog.globals[0]?).map (·.type)=some 226:=by kernel_rfl
theorem cells35:Tryz.prog.cellsOf 226=2:=by kernel_rfl
theorem cells3:Tryz.prog.cellsOf 3=1:=by kernel_rfl
abbrev laidL:List (String×DataW Unit):=[("bringup/clock.off", Rows.laid_bringup_clock_off)]
theorem of_laid {W:World} (h:laidMetH Tryz.prog laidL W):W.cell? ⟨0,0,none⟩=some (.int .i64 0)∧W.cell? ⟨0,1,none⟩=some (.int .i64 1):=by
 rw [MakeChecks.laidMetH_plain _ _ _ (by kernel_rfl)] at h;obtain ⟨ps,⟨g0,t0,cs0,f0,p0,q0,hg0,ht0,hv0,hd0,_⟩,_,_⟩:=h;obtain rfl:=Option.some.inj (gOff.symm.trans hg0);obtain rfl:=Option.some.inj (tOff.symm.trans ht0);obtain ⟨y0,y1,n,hx,hl,h0,h1⟩:=trod_struct2 Tryz.underlying226 hd0;rw [cells35] at hl;simp only [Prod.mk.injEq,Rows.laid_bringup_clock_off,DataW.agg.injEq,List.cons.injEq] at hx;obtain ⟨k0,e1,e2,_⟩:=DataW.trod_int Tryz.underlying3 h0;obtain ⟨k1,e3,e4,_⟩:=DataW.trod_int Tryz.underlying3 h1;have hk0:k0=0:=by have:=hx.1.1; rw [e2] at this; simpa using this.symm
 have hk1:k1=1:=by have:=hx.1.2.1; rw [e4] at this; simpa using this.symm
 subst hk0; subst hk1;have c0:=World.var?_cell hg0 hv0 0;have c1:=World.var?_cell hg0 hv0 1;obtain ⟨l⟩:=cs0;match l,hl with
 | [a,b],_=>
  rw [cells3] at e1 e3
  simp at e1 e3
  subst e1; subst e3
  exact ⟨by simpa using c0,by simpa using c1⟩
def Old (W:World):Nat→Prop:=fun b=>b<W.heap.size
theorem rel0 {W:World} (h:laidMetH Tryz.prog laidL W):Rel cfg (cxOf W (Old W) (fun _=>none) 0) (hof []) (fun o=>o<0) W (Old W) (fun _=>none):=by
 obtain ⟨h0,h1⟩:=of_laid h;exact {
  dom:=fun o=>by simp [hof]
  used:=fun o p h=>by cases h
  objs:=fun o ob p _ h=>by cases h
  inj:=fun o o' p p' b bo sz b' bo' sz' h=>by cases h
  notI:=fun o p b bo sz h=>by cases h
  lt:=fun o p b bo sz h=>by cases h
  Ilt:=fun b h=>h
  size:=Nat.le_refl _
  frame:=fun _ _ _=>rfl
  new:=fun o p b bo sz h=>by cases h
  glob:=fun g cs hg=>by
   have e:g=0∧cs=[.int .i64 0,.int .i64 1]:=by
    unfold cfg at hg
    simp only [Ab.look] at hg
    cases hb:Nat.beq 0 g with
    | true=>
     rw [hb] at hg
     have:=Nat.eq_of_beq_eq_true hb
     simp at hg
     exact ⟨this.symm,hg.symm⟩
    | false=>rw [hb] at hg; cases hg
   obtain ⟨rfl,rfl⟩:=e
   refine .ro 0 0 (fun j=>match j with | 0=>.int .i64 0 | _=>.int .i64 1) (World.block_lt_of_cell? _ _ h0) (fun j hj=>?_) (fun j hj=>?_)
   ·match j,hj with
    | 0,_=>exact h0
    | 1,_=>exact h1
   ·match j,hj with
    | 0,_=>exact .int _ _
    | 1,_=>exact .int _ _
  I0I:=fun _ h=>h
  II0:=fun _ h=>.inl h
  O0O:=fun _ _=>.inl rfl
  Dm:=fun _ h=>h
  env:=⟨SameEnv.refl _,fun _ _ h=>h.elim⟩
  maps:=fun o kd z f p b bo sz h=>by cases h }
theorem run_law {f:FuncId} {args:List AV} {W:World} {vals:Array Value} (hs:S f args [] (.bool true) []) (hL:laidMetH Tryz.prog laidL W) (hl:vals.size=args.length) (hr:∀j,j<args.length→PRep W (Old W) (nth args j) (vals.getD j Go.undef)):
  Calls Tryz.prog f vals W fun e W'=>e=.returned (.bool true)∧Below W.heap.size W W':=by
 obtain ⟨_,_,hc⟩:=hs;refine (hc W (Old W) (fun _=>none) vals (rel0 hL) hl (fun j hj=>.pure (hr j hj))).mono fun e W' h=>?_;obtain ⟨x,I',O',rfl,hR,hx⟩:=h;have hb:x=.bool true:=hx.bool_inv;subst hb;refine ⟨rfl,⟨hR.env.same.os,hR.env.same.tape,hR.env.same.output,hR.size,fun k hk=>hR.frame k hk ?_⟩⟩;rintro ⟨o,p,bo,sz,h,_⟩;cases h
end Go.Proofs.YtccjmcmolnbiiaaGreatDoor

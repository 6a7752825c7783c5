/- An abstract machine over the model's code, that it is sound; models of the functions and their proofs. -/
import Derived.Test.YtfblhejmclcdmaaGreatDoorA3
set_option linter.unusedVariables false
set_option linter.unusedSimpArgs false

namespace Go.Proofs.YtfblhejmclcdmaaGreatDoor
open Go.Ab
set_option maxRecDepth 100000
structure av where
 Kind:Int
 Parents:(List Int)
 Choices:(List Int)
 Low:Int
 High:Int
def au:av:=⟨0,[],[],0,0⟩
structure aj where
 Parent:Int
 aU:(List Int)
 dO:Int
 eG:Int
 Always:Bool
def ah:aj:=⟨0,[],0,0,false⟩
structure aY where
 Name:ByteArray
 bT:(List Int)
 Functions:(List ByteArray)
def aF:aY:=⟨ByteArray.empty,[],[]⟩
structure bB where
 bT:Int
 Groups:(List aY)
structure cu where
 After:(List Int)
def dReset:cu:=⟨[]⟩
structure bM where
 Parent:Int
 Always:Bool
def fH:bM:=⟨0,false⟩
structure bQ where
 bY:(List av)
 bH:(List aj)
 bE:bB
 Resets:(List cu)
 cK:(List bM)
structure bC where
 Clock:Int
 Low:Int
 High:Int
def cB:bC:=⟨0,0,0⟩
structure aM where
 bn:Int
 Low:Int
 High:Int
 Load:Int
def bL:aM:=⟨0,0,0,0⟩
structure aV where
 Limits:(List bC)
 Draws:(List aM)
 Functions:(List ByteArray)
 Resets:(List Int)
 iF:Int
 bA:(List Int)
def bJ:aV:=⟨[],[],[],[],0,[]⟩
structure bF where
 On:(List Bool)
 Level:(List Int)
def QU:bF:=⟨[],[]⟩
structure ql where
 eH:Int
 Function:Int
def kU:ql:=⟨0,0⟩
structure aL where
 Device:Int
 Use:ql
def bS:aL:=⟨0,kU⟩
structure bq where
 Setting:(List Int)
 Rails:bF
 Uses:(List aL)
 Released:(List Bool)
 Powered:(List Bool)
structure dP where
 Kind:Int
 Unit:Int
 Value:Int
def tu:dP:=⟨0,0,0⟩
structure dJ where
 aR:bQ
 bX:(List aV)
 aI:(List Int)
 aK:bq
 ji:Bool
structure aP where
 Num:Int
 Den:Int
def bZ:aP:=⟨0,0⟩
structure aZ where
 L:(List Int)
 At:Int
def aas (X:(Nat→Int)):AV:=.agg (gY 64 0 (Cr iV X))
abbrev aC (l:List Int):AV:=YH l
def Di (x:av):AV:=.agg [iV x.Kind,aC x.Parents,aC x.Choices,iV x.Low,iV x.High]
def uL (x:aj):AV:=.agg [iV x.Parent,aC x.aU,iV x.dO,iV x.eG,.bool x.Always]
def fP (l:List ByteArray):AV:=.sl 1 l.length false (aX AV.str ByteArray.empty l)
def jX (x:aY):AV:=.agg [.str x.Name,aC x.bT,fP x.Functions]
def aT (l:List aY):AV:=.sl 3 l.length false (aX jX aF l)
def lu (x:bB):AV:=.agg [iV x.bT,aT x.Groups]
def YM (x:cu):AV:=.agg [aC x.After]
def Wi (x:bM):AV:=.agg [iV x.Parent,.bool x.Always]
def aN (l:List av):AV:=.sl 5 l.length false (aX Di au l)
def aJ (l:List aj):AV:=.sl 5 l.length false (aX uL ah l)
def bO (l:List cu):AV:=.sl 1 l.length false (aX YM dReset l)
def bG (l:List bM):AV:=.sl 2 l.length false (aX Wi fH l)
def vX (x:bQ):AV:=.agg [aN x.bY,aJ x.bH,iV x.bE.bT,aT x.bE.Groups,bO x.Resets,bG x.cK]
def tC (x:bC):AV:=.agg [iV x.Clock,iV x.Low,iV x.High]
def Bg (x:aM):AV:=.agg [iV x.bn,iV x.Low,iV x.High,iV x.Load]
def eT (l:List bC):AV:=.sl 3 l.length false (aX tC cB l)
def dR (l:List aM):AV:=.sl 4 l.length false (aX Bg bL l)
def Dj (x:aV):AV:=.agg [eT x.Limits,dR x.Draws,fP x.Functions,aC x.Resets,iV x.iF,aC x.bA]
def aS (l:List Bool):AV:=.sl 1 l.length false (aX AV.bool false l)
def Dk (x:bF):AV:=.agg [aS x.On,aC x.Level]
def acG (x:ql):AV:=.agg [iV x.eH,iV x.Function]
def gF (x:aL):AV:=.agg [iV x.Device,iV x.Use.eH,iV x.Use.Function]
def dx (l:List aL):AV:=.sl 3 l.length false (aX gF bS l)
def yG (x:bq):AV:=.agg [aC x.Setting,aS x.Rails.On,aC x.Rails.Level,dx x.Uses,aS x.Released,aS x.Powered]
def GJ (x:dP):AV:=.agg [iV x.Kind,iV x.Unit,iV x.Value]
def eu (l:List aV):AV:=.sl 6 l.length false (aX Dj bJ l)
def Am (x:dJ):AV:=.agg [aN x.aR.bY,aJ x.aR.bH,iV x.aR.bE.bT,aT x.aR.bE.Groups,bO x.aR.Resets,bG x.aR.cK,eu x.bX,aC x.aI,aC x.aK.Setting,aS x.aK.Rails.On,aC x.aK.Rails.Level,dx x.aK.Uses,aS x.aK.Released,aS x.aK.Powered,.bool x.ji]
def lU (x:aP):AV:=.agg [iV x.Num,iV x.Den]
def abR (l:List (List Int)):AV:=.sl 1 l.length false (aX aC [] l)
def Sy (l:List ql):AV:=.sl 2 l.length false (aX acG kU l)
def qP (l:List aP):AV:=.sl 2 l.length false (aX lU bZ l)
def L9 (l:List dP):AV:=.sl 3 l.length false (aX GJ tu l)
noncomputable def yH (c_:av):M Bool:=
 ret ((decide ((8:Int)<(c_.Parents.length:Int)))||(decide ((8:Int)<(c_.Choices.length:Int))))
noncomputable def tF (s_:(List av)) (self1:Int→M Int):Int→M Int:=fun g1=>
 bif (decide (g1<(s_.length:Int))) then
  need (0≤g1∧g1<(s_.length:Int))<|
  bnd (yH (s_.getD g1.toNat au)) fun v3=>
  bif v3 then
   ret g1
  else
   need (InI64 (g1+(1:Int)))<|
   self1 (g1+(1:Int))
 else
  ret (-1:Int)
noncomputable def mR (s_:(List av)):M Int:=
 bR (tF s_) (0:Int)
noncomputable def iN (s_:(List av)):M Bool:=
 bnd (mR s_) fun v1=>
 ret (decide ((0:Int)≤v1))
noncomputable def gM (n_:Int) (lo_:Int) (hi_:Int):M Bool:=
 ret ((decide (lo_≤n_))&&(decide (n_≤hi_)))
noncomputable def rJ (p_:Int) (a1_:Int):M Bool:=
 need (InI64 (a1_ - (1:Int)))<|
 bnd (gM p_ (0:Int) (a1_ - (1:Int))) fun v1=>
 ret (!v1)
noncomputable def zq (s_:(List Int)) (f_:Int) (self1:Int→M Int):Int→M Int:=fun g1=>
 bif (decide (g1<(s_.length:Int))) then
  need (0≤g1∧g1<(s_.length:Int))<|
  bnd (rJ (s_.getD g1.toNat 0) f_) fun v3=>
  bif v3 then
   ret g1
  else
   need (InI64 (g1+(1:Int)))<|
   self1 (g1+(1:Int))
 else
  ret (-1:Int)
noncomputable def sw (s_:(List Int)) (f_:Int):M Int:=
 bR (zq s_ f_) (0:Int)
noncomputable def jY (s_:(List Int)) (f_:Int):M Bool:=
 bnd (sw s_ f_) fun v1=>
 ret (decide ((0:Int)≤v1))
noncomputable def Fq (s_:(List Int)) (v_:Int) (self1:Int→M Int):Int→M Int:=fun g1=>
 bif (decide (g1<(s_.length:Int))) then
  need (0≤g1∧g1<(s_.length:Int))<|
  bif (v_==(s_.getD g1.toNat 0)) then
   ret g1
  else
   need (InI64 (g1+(1:Int)))<|
   self1 (g1+(1:Int))
 else
  ret (-1:Int)
noncomputable def slices_Index_int (s_:(List Int)) (v_:Int):M Int:=
 bR (Fq s_ v_) (0:Int)
noncomputable def slices_Contains_int (s_:(List Int)) (v_:Int):M Bool:=
 bnd (slices_Index_int s_ v_) fun v1=>
 ret (decide ((0:Int)≤v1))
noncomputable def GK (l_:(List Int)) (lo_:Int) (hi_:Int) (self1:Int→M Bool):Int→M Bool:=fun g1=>
 bif (decide (g1<(l_.length:Int))) then
  need (0≤g1∧g1<(l_.length:Int))<|
  bnd (gM (l_.getD g1.toNat 0) lo_ hi_) fun v5=>
  need ((!v5)=false→0≤g1∧g1≤(l_.length:Int))<|
  bnd (fun v6=>(!v5)=false→slices_Contains_int (l_.take (g1.toNat)) (l_.getD g1.toNat 0) v6) fun v6=>
  bif ((!v5)||v6) then
   ret false
  else
   need (InI64 (g1+(1:Int)))<|
   self1 (g1+(1:Int))
 else
  ret true
noncomputable def jD (l_:(List Int)) (lo_:Int) (hi_:Int):M Bool:=
 bR (GK l_ lo_ hi_) (0:Int)
noncomputable def Fu (s1_:(List Int)) (s2_:(List Int)) (self1:Int→M Bool):Int→M Bool:=fun g1=>
 bif (decide (g1<(s1_.length:Int))) then
  need (0≤g1∧g1<(s1_.length:Int))<|
  need (0≤g1∧g1<(s2_.length:Int))<|
  bif ((s1_.getD g1.toNat 0) != (s2_.getD g1.toNat 0)) then
   ret false
  else
   need (InI64 (g1+(1:Int)))<|
   self1 (g1+(1:Int))
 else
  ret true
noncomputable def slices_Equal_int (s1_:(List Int)) (s2_:(List Int)):M Bool:=
 bif ((s1_.length:Int) != (s2_.length:Int)) then
  ret false
 else
  bR (Fu s1_ s2_) (0:Int)
noncomputable def Dl (c_:av) (at_:Int):M Bool:=
 bnd (jY c_.Parents at_) fun v1=>
 bnd (fun v2=>v1=false→gM c_.High (0:Int) (4000000000:Int) v2) fun v2=>
 bnd (fun v3=>(v1||(!v2))=false→gM c_.Low (0:Int) c_.High v3) fun v3=>
 bif ((v1||(!v2))||(!v3)) then
  ret false
 else
  bif (c_.Kind==(1:Int)) then
   need ((((c_.Parents.length:Int)==(0:Int))&&((c_.Choices.length:Int)==(1:Int)))=true→0≤(0:Int)∧(0:Int)<(c_.Choices.length:Int))<|
   bnd (fun v4=>(((c_.Parents.length:Int)==(0:Int))&&((c_.Choices.length:Int)==(1:Int)))=true→gM (c_.Choices.getD 0 0) (1:Int) (4000000000:Int) v4) fun v4=>
   ret ((((c_.Parents.length:Int)==(0:Int))&&((c_.Choices.length:Int)==(1:Int)))&&v4)
  else
   bif (c_.Kind==(2:Int)) then
    bif (c_.Kind==(2:Int)) then
     bnd (fun v5=>(((c_.Parents.length:Int)==(1:Int))&&(decide ((0:Int)<(c_.Choices.length:Int))))=true→jD c_.Choices (1:Int) (64:Int) v5) fun v5=>
     ret ((((c_.Parents.length:Int)==(1:Int))&&(decide ((0:Int)<(c_.Choices.length:Int))))&&v5)
    else
     bif (c_.Kind==(4:Int)) then
      need ((decide ((0:Int)<(c_.Choices.length:Int)))=true→InI64 ((c_.Parents.length:Int) - (1:Int)))<|
      bnd (fun v6=>(decide ((0:Int)<(c_.Choices.length:Int)))=true→jD c_.Choices (0:Int) ((c_.Parents.length:Int) - (1:Int)) v6) fun v6=>
      ret ((decide ((0:Int)<(c_.Choices.length:Int)))&&v6)
     else
      bif (c_.Kind==(5:Int)) then
       bif (((c_.Parents.length:Int)==(1:Int))==true) then
        bnd (fun v7=>((c_.Parents.length:Int)==(1:Int))=true→slices_Equal_int c_.Choices ([(0:Int),(1:Int)]:List Int) v7) fun v7=>
        ret (((c_.Parents.length:Int)==(1:Int))&&v7)
       else
        ret (((c_.Parents.length:Int)==(1:Int))&&false)
      else
       ret false
   else
    bif (c_.Kind==(3:Int)) then
     bnd (fun v8=>(((c_.Parents.length:Int)==(1:Int))&&(decide ((0:Int)<(c_.Choices.length:Int))))=true→jD c_.Choices (1:Int) (64:Int) v8) fun v8=>
     ret ((((c_.Parents.length:Int)==(1:Int))&&(decide ((0:Int)<(c_.Choices.length:Int))))&&v8)
    else
     bif (c_.Kind==(4:Int)) then
      need ((decide ((0:Int)<(c_.Choices.length:Int)))=true→InI64 ((c_.Parents.length:Int) - (1:Int)))<|
      bnd (fun v9=>(decide ((0:Int)<(c_.Choices.length:Int)))=true→jD c_.Choices (0:Int) ((c_.Parents.length:Int) - (1:Int)) v9) fun v9=>
      ret ((decide ((0:Int)<(c_.Choices.length:Int)))&&v9)
     else
      bif (c_.Kind==(5:Int)) then
       bif (((c_.Parents.length:Int)==(1:Int))==true) then
        bnd (fun v10=>((c_.Parents.length:Int)==(1:Int))=true→slices_Equal_int c_.Choices ([(0:Int),(1:Int)]:List Int) v10) fun v10=>
        ret (((c_.Parents.length:Int)==(1:Int))&&v10)
       else
        ret (((c_.Parents.length:Int)==(1:Int))&&false)
      else
       ret false
noncomputable def nP (l_:(List av)) (g2:(Int×Int×(List Int))) (self2:(Int×Int×(List Int))→M Int):(List Int)→M Int:=fun g8=>
 need (InI64 (g2.1*((((l_.getD g2.2.1.toNat au).Choices).length:Nat):Int)))<|
 need ((decide ((4096:Int)<(g2.1*((((l_.getD g2.2.1.toNat au).Choices).length:Nat):Int))))=false→0≤g2.2.1∧g2.2.1<(g8.length:Int))<|
 bif ((decide ((4096:Int)<(g2.1*((((l_.getD g2.2.1.toNat au).Choices).length:Nat):Int))))||(decide ((4:Int)<(g8.getD g2.2.1.toNat 0)))) then
  ret (3:Int)
 else
  need (InI64 (g2.2.1+(1:Int)))<|
  self2 ((g2.1*((((l_.getD g2.2.1.toNat au).Choices).length:Nat):Int)),(g2.2.1+(1:Int)),g8)
noncomputable def Lh (l_:(List av)) (g2:(Int×Int×(List Int))) (self2:(Int×Int×(List Int))→M Int) (self7:(Int×(List Int))→M Int):(Int×(List Int))→M Int:=fun g7=>
 bif (decide (g7.1<((((l_.getD g2.2.1.toNat au).Parents).length:Nat):Int))) then
  need (0≤g7.1∧g7.1<((((l_.getD g2.2.1.toNat au).Parents).length:Nat):Int))<|
  need (0≤g2.2.1∧g2.2.1<(g7.2.length:Int))<|
  need (0≤(((l_.getD g2.2.1.toNat au).Parents).getD g7.1.toNat 0)∧(((l_.getD g2.2.1.toNat au).Parents).getD g7.1.toNat 0)<(g7.2.length:Int))<|
  need (0≤g2.2.1∧g2.2.1<(g7.2.length:Int))<|
  need (InI64 (g7.1+(1:Int)))<|
  self7 ((g7.1+(1:Int)),(g7.2.set (g2.2.1.toNat) (if (g7.2.getD ((((l_.getD g2.2.1.toNat au).Parents).getD g7.1.toNat 0).toNat) 0) > (g7.2.getD g2.2.1.toNat 0) then (g7.2.getD ((((l_.getD g2.2.1.toNat au).Parents).getD g7.1.toNat 0).toNat) 0) else (g7.2.getD g2.2.1.toNat 0))))
 else
  bif (((l_.getD g2.2.1.toNat au).Kind==(2:Int))||((l_.getD g2.2.1.toNat au).Kind==(3:Int))) then
   need (0≤g2.2.1∧g2.2.1<(g7.2.length:Int))<|
   need (InI64 ((g7.2.getD g2.2.1.toNat 0)+(1:Int)))<|
   need (0≤g2.2.1∧g2.2.1<(g7.2.length:Int))<|
   (nP l_ g2 self2) (g7.2.set (g2.2.1.toNat) ((g7.2.getD g2.2.1.toNat 0)+(1:Int)))
  else
   (nP l_ g2 self2) g7.2
noncomputable def Li (l_:(List av)) (self2:(Int×Int×(List Int))→M Int):(Int×Int×(List Int))→M Int:=fun g2=>
 bif (decide (g2.2.1<(l_.length:Int))) then
  need (0≤g2.2.1∧g2.2.1<(l_.length:Int))<|
  bR (Lh l_ g2 self2) ((0:Int),g2.2.2)
 else
  ret (0:Int)
noncomputable def Nf (l_:(List av)) (self1:Int→M Int):Int→M Int:=fun g1=>
 bif (decide (g1<(l_.length:Int))) then
  need (0≤g1∧g1<(l_.length:Int))<|
  bnd (Dl (l_.getD g1.toNat au) g1) fun v4=>
  bif (!v4) then
   ret (1:Int)
  else
   need (InI64 (g1+(1:Int)))<|
   self1 (g1+(1:Int))
 else
  need (0≤(l_.length:Int)∧(l_.length:Int)*((8:Nat):Int)≤((big:Nat):Int))<|
  bR (Li l_) ((1:Int),(0:Int),(List.replicate ((l_.length:Int).toNat) 0))
noncomputable def sD (l_:(List av)):M Int:=
 bnd (fun v1=>(decide ((16:Int)<(l_.length:Int)))=false→iN l_ v1) fun v1=>
 bif ((decide ((16:Int)<(l_.length:Int)))||v1) then
  ret (3:Int)
 else
  bR (Nf l_) (0:Int)
noncomputable def lV (s_:aj):M Bool:=
 ret (decide ((16:Int)<(s_.aU.length:Int)))
noncomputable def tH (s_:(List aj)) (self1:Int→M Int):Int→M Int:=fun g1=>
 bif (decide (g1<(s_.length:Int))) then
  need (0≤g1∧g1<(s_.length:Int))<|
  bnd (lV (s_.getD g1.toNat ah)) fun v3=>
  bif v3 then
   ret g1
  else
   need (InI64 (g1+(1:Int)))<|
   self1 (g1+(1:Int))
 else
  ret (-1:Int)
noncomputable def mU (s_:(List aj)):M Int:=
 bR (tH s_) (0:Int)
noncomputable def iO (s_:(List aj)):M Bool:=
 bnd (mU s_) fun v1=>
 ret (decide ((0:Int)≤v1))
noncomputable def eD (n_:Int) (lo_:Int) (hi_:Int):M Bool:=
 ret ((decide (lo_≤n_))&&(decide (n_≤hi_)))
noncomputable def Bh (s_:aj) (self1:Int→M Bool):Int→M Bool:=fun g1=>
 bif (decide (g1<(s_.aU.length:Int))) then
  need (0≤g1∧g1<(s_.aU.length:Int))<|
  bnd (eD (s_.aU.getD g1.toNat 0) (1:Int) (5000:Int)) fun v6=>
  need ((!v6)=false→(decide ((0:Int)<g1))=true→InI64 (g1 - (1:Int)))<|
  need ((!v6)=false→(decide ((0:Int)<g1))=true→0≤(g1 - (1:Int))∧(g1 - (1:Int))<(s_.aU.length:Int))<|
  bif ((!v6)||((decide ((0:Int)<g1))&&(decide ((s_.aU.getD g1.toNat 0)≤(s_.aU.getD ((g1 - (1:Int)).toNat) 0))))) then
   ret false
  else
   need (InI64 (g1+(1:Int)))<|
   self1 (g1+(1:Int))
 else
  ret true
noncomputable def uM (s_:aj) (at_:Int):M Bool:=
 need (InI64 (at_ - (1:Int)))<|
 bnd (eD s_.Parent (-1:Int) (at_ - (1:Int))) fun v1=>
 bnd (fun v2=>((!v1)||((s_.aU.length:Int)==(0:Int)))=false→eD s_.dO (0:Int) (5000:Int) v2) fun v2=>
 bnd (fun v3=>((((!v1)||((s_.aU.length:Int)==(0:Int)))||(!v2))||((decide (s_.Parent<(0:Int)))&&(s_.dO != (0:Int))))=false→eD s_.eG (0:Int) (10000:Int) v3) fun v3=>
 bif (((((!v1)||((s_.aU.length:Int)==(0:Int)))||(!v2))||((decide (s_.Parent<(0:Int)))&&(s_.dO != (0:Int))))||(!v3)) then
  ret false
 else
  bR (Bh s_) (0:Int)
noncomputable def Bj (l_:(List aj)) (self1:Int→M Int):Int→M Int:=fun g1=>
 bif (decide (g1<(l_.length:Int))) then
  need (0≤g1∧g1<(l_.length:Int))<|
  bnd (uM (l_.getD g1.toNat ah) g1) fun v4=>
  bif (!v4) then
   ret (1:Int)
  else
   need (InI64 (g1+(1:Int)))<|
   self1 (g1+(1:Int))
 else
  ret (0:Int)
noncomputable def mF (l_:(List aj)):M Int:=
 bnd (fun v1=>(decide ((16:Int)<(l_.length:Int)))=false→iO l_ v1) fun v1=>
 bif ((decide ((16:Int)<(l_.length:Int)))||v1) then
  ret (3:Int)
 else
  bR (Bj l_) (0:Int)
noncomputable def Il (s_:ByteArray) (self1:Int→M Bool):Int→M Bool:=fun g1=>
 bif (decide (g1<((s_.size:Nat):Int))) then
  need (0≤g1∧g1<((s_.size:Nat):Int))<|
  bif ((((gG s_ g1.toNat) != (45:Int))&&((decide ((gG s_ g1.toNat)<(48:Int)))||(decide ((57:Int)<(gG s_ g1.toNat)))))&&((decide ((gG s_ g1.toNat)<(97:Int)))||(decide ((122:Int)<(gG s_ g1.toNat))))) then
   ret false
  else
   need (InI64 (g1+(1:Int)))<|
   self1 (g1+(1:Int))
 else
  ret true
noncomputable def vL (s_:ByteArray):M Bool:=
 need (((s_.toList==({ data:=#[] }:ByteArray).toList)||(decide ((16:Int)<((s_.size:Nat):Int))))=false→0≤(0:Int)∧(0:Int)<((s_.size:Nat):Int))<|
 need ((((s_.toList==({ data:=#[] }:ByteArray).toList)||(decide ((16:Int)<((s_.size:Nat):Int))))||(decide ((gG s_ 0)<(97:Int))))=false→0≤(0:Int)∧(0:Int)<((s_.size:Nat):Int))<|
 bif ((((s_.toList==({ data:=#[] }:ByteArray).toList)||(decide ((16:Int)<((s_.size:Nat):Int))))||(decide ((gG s_ 0)<(97:Int))))||(decide ((122:Int)<(gG s_ 0)))) then
  ret false
 else
  bR (Il s_) (1:Int)
noncomputable def pz (s_:(List ByteArray)) (v_:ByteArray) (self1:Int→M Int):Int→M Int:=fun g1=>
 bif (decide (g1<(s_.length:Int))) then
  need (0≤g1∧g1<(s_.length:Int))<|
  bif (v_.toList==(s_.getD g1.toNat ByteArray.empty).toList) then
   ret g1
  else
   need (InI64 (g1+(1:Int)))<|
   self1 (g1+(1:Int))
 else
  ret (-1:Int)
noncomputable def slices_Index_string (s_:(List ByteArray)) (v_:ByteArray):M Int:=
 bR (pz s_ v_) (0:Int)
noncomputable def slices_Contains_string (s_:(List ByteArray)) (v_:ByteArray):M Bool:=
 bnd (slices_Index_string s_ v_) fun v1=>
 ret (decide ((0:Int)≤v1))
noncomputable def Dn (g_:aY) (self4:Int→M Int):Int→M Int:=fun g4=>
 bif (decide (g4<(g_.Functions.length:Int))) then
  need (0≤g4∧g4<(g_.Functions.length:Int))<|
  need (0≤g4∧g4≤(g_.Functions.length:Int))<|
  bnd (slices_Contains_string (g_.Functions.take (g4.toNat)) (g_.Functions.getD g4.toNat ByteArray.empty)) fun v6=>
  bif v6 then
   ret (5:Int)
  else
   need (InI64 (g4+(1:Int)))<|
   self4 (g4+(1:Int))
 else
  ret (0:Int)
noncomputable def Dp (g_:aY) (self3:Int→M Int):Int→M Int:=fun g3=>
 bif (decide (g3<(g_.Functions.length:Int))) then
  need (0≤g3∧g3<(g_.Functions.length:Int))<|
  bnd (vL (g_.Functions.getD g3.toNat ByteArray.empty)) fun v3=>
  bif (!v3) then
   ret (1:Int)
  else
   need (InI64 (g3+(1:Int)))<|
   self3 (g3+(1:Int))
 else
  bR (Dn g_) (0:Int)
noncomputable def Dq (g_:aY) (self2:Int→M Int):Int→M Int:=fun g2=>
 bif (decide (g2<(g_.bT.length:Int))) then
  need (0≤g2∧g2<(g_.bT.length:Int))<|
  need (InI64 (g2 - (1:Int)))<|
  need (0≤(g2 - (1:Int))∧(g2 - (1:Int))<(g_.bT.length:Int))<|
  bif (decide ((g_.bT.getD g2.toNat 0)≤(g_.bT.getD ((g2 - (1:Int)).toNat) 0))) then
   ret (12:Int)
  else
   need (InI64 (g2+(1:Int)))<|
   self2 (g2+(1:Int))
 else
  bR (Dp g_) (0:Int)
noncomputable def FZ (pins_:Int) (g_:aY) (self1:Int→M Int):Int→M Int:=fun g1=>
 bif (decide (g1<(g_.bT.length:Int))) then
  need (0≤g1∧g1<(g_.bT.length:Int))<|
  bif ((decide ((g_.bT.getD g1.toNat 0)<(0:Int)))||(decide (pins_≤(g_.bT.getD g1.toNat 0)))) then
   ret (2:Int)
  else
   need (InI64 (g1+(1:Int)))<|
   self1 (g1+(1:Int))
 else
  bR (Dq g_) (1:Int)
noncomputable def Ao (pins_:Int) (g_:aY):M Int:=
 bif (((g_.bT.length:Int)==(0:Int))||((g_.Functions.length:Int)==(0:Int))) then
  ret (9:Int)
 else
  bif (decide ((8:Int)<(g_.Functions.length:Int))) then
   ret (3:Int)
  else
   bR (FZ pins_ g_) (0:Int)
noncomputable def F3 (p_:bB) (self1:(Int×(mX→Option Int))→M Int):(Int×(mX→Option Int))→M Int:=fun g1=>
 bif (decide (g1.1<(p_.Groups.length:Int))) then
  need (0≤g1.1∧g1.1<(p_.Groups.length:Int))<|
  bnd (vL ((p_.Groups.getD g1.1.toNat aF).Name)) fun v5=>
  bif (!v5) then
   ret (1:Int)
  else
   bif ((wT g1.2 (.s ((p_.Groups.getD g1.1.toNat aF).Name))) != 0) then
    ret (5:Int)
   else
    bnd (Ao p_.bT (p_.Groups.getD g1.1.toNat aF)) fun v6=>
    bif (v6 != (0:Int)) then
     ret v6
    else
     need (InI64 (g1.1+(1:Int)))<|
     self1 ((g1.1+(1:Int)),(HZ g1.2 (.s ((p_.Groups.getD g1.1.toNat aF).Name)) (bif true then 1 else 0)))
 else
  ret (0:Int)
noncomputable def vY (p_:bB):M Int:=
 bif ((decide (p_.bT<(0:Int)))||(decide ((64:Int)<p_.bT))) then
  ret (2:Int)
 else
  bif (decide ((24:Int)<(p_.Groups.length:Int))) then
   ret (3:Int)
  else
   bR (F3 p_) ((0:Int),(fun _=>none))
noncomputable def Bl (l_:(List cu)) (g1:Int) (self1:Int→M Int) (self7:Int→M Int):Int→M Int:=fun g7=>
 bif (decide (g7<((((l_.getD g1.toNat dReset).After).length:Nat):Int))) then
  need (0≤g7∧g7<((((l_.getD g1.toNat dReset).After).length:Nat):Int))<|
  need (InI64 (g7 - (1:Int)))<|
  need (0≤(g7 - (1:Int))∧(g7 - (1:Int))<((((l_.getD g1.toNat dReset).After).length:Nat):Int))<|
  bif (decide ((((l_.getD g1.toNat dReset).After).getD g7.toNat 0)≤(((l_.getD g1.toNat dReset).After).getD ((g7 - (1:Int)).toNat) 0))) then
   ret (12:Int)
  else
   need (InI64 (g7+(1:Int)))<|
   self7 (g7+(1:Int))
 else
  need (InI64 (g1+(1:Int)))<|
  self1 (g1+(1:Int))
noncomputable def Dr (l_:(List cu)) (g1:Int) (self1:Int→M Int) (self6:Int→M Int):Int→M Int:=fun g6=>
 bif (decide (g6<((((l_.getD g1.toNat dReset).After).length:Nat):Int))) then
  need (0≤g6∧g6<((((l_.getD g1.toNat dReset).After).length:Nat):Int))<|
  bif ((decide ((((l_.getD g1.toNat dReset).After).getD g6.toNat 0)<(0:Int)))||(decide (g1≤(((l_.getD g1.toNat dReset).After).getD g6.toNat 0)))) then
   ret (2:Int)
  else
   need (InI64 (g6+(1:Int)))<|
   self6 (g6+(1:Int))
 else
  bR (Bl l_ g1 self1) (1:Int)
noncomputable def Dt (l_:(List cu)) (self1:Int→M Int):Int→M Int:=fun g1=>
 bif (decide (g1<(l_.length:Int))) then
  need (0≤g1∧g1<(l_.length:Int))<|
  bR (Dr l_ g1 self1) (0:Int)
 else
  ret (0:Int)
noncomputable def sF (l_:(List cu)):M Int:=
 bif (decide ((32:Int)<(l_.length:Int))) then
  ret (3:Int)
 else
  bR (Dt l_) (0:Int)
noncomputable def Bn (l_:(List bM)) (self1:Int→M Int):Int→M Int:=fun g1=>
 bif (decide (g1<(l_.length:Int))) then
  need (0≤g1∧g1<(l_.length:Int))<|
  bif ((decide ((l_.getD g1.toNat fH).Parent<(-1:Int)))||(decide (g1≤(l_.getD g1.toNat fH).Parent))) then
   ret (2:Int)
  else
   need (InI64 (g1+(1:Int)))<|
   self1 (g1+(1:Int))
 else
  ret (0:Int)
noncomputable def pE (l_:(List bM)):M Int:=
 bif (decide ((16:Int)<(l_.length:Int))) then
  ret (3:Int)
 else
  bR (Bn l_) (0:Int)
noncomputable def xu (b_:bQ):M Int:=
 bnd (sD b_.bY) fun v1=>
 bif (v1 != (0:Int)) then
  ret v1
 else
  bnd (mF b_.bH) fun v2=>
  bif (v2 != (0:Int)) then
   ret v2
  else
   bnd (vY b_.bE) fun v3=>
   bif (v3 != (0:Int)) then
    ret v3
   else
    bnd (sF b_.Resets) fun v4=>
    bif (v4 != (0:Int)) then
     ret v4
    else
     bnd (pE b_.cK) fun v5=>
     ret v5
noncomputable def jZ (x_:Int) (low_:Int) (high_:Int):M Bool:=
 ret ((decide (low_≤x_))&&(decide (x_≤high_)))
noncomputable def Du (n_:aV) (self6:Int→M Int):Int→M Int:=fun g6=>
 bif (decide (g6<(n_.bA.length:Int))) then
  need (0≤g6∧g6<(n_.bA.length:Int))<|
  need (InI64 (g6 - (1:Int)))<|
  need (0≤(g6 - (1:Int))∧(g6 - (1:Int))<(n_.bA.length:Int))<|
  bif (decide ((n_.bA.getD g6.toNat 0)≤(n_.bA.getD ((g6 - (1:Int)).toNat) 0))) then
   ret (12:Int)
  else
   need (InI64 (g6+(1:Int)))<|
   self6 (g6+(1:Int))
 else
  ret (0:Int)
noncomputable def Dv (n_:aV) (devices_:Int) (self5:Int→M Int):Int→M Int:=fun g5=>
 bif (decide (g5<(n_.bA.length:Int))) then
  need (0≤g5∧g5<(n_.bA.length:Int))<|
  need (InI64 (devices_ - (1:Int)))<|
  bnd (jZ (n_.bA.getD g5.toNat 0) (0:Int) (devices_ - (1:Int))) fun v19=>
  bif (!v19) then
   ret (2:Int)
  else
   need (InI64 (g5+(1:Int)))<|
   self5 (g5+(1:Int))
 else
  bR (Du n_) (1:Int)
noncomputable def Dw (b_:bQ) (n_:aV) (devices_:Int) (self4:Int→M Int):Int→M Int:=fun g4=>
 bif (decide (g4<(n_.Resets.length:Int))) then
  need (0≤g4∧g4<(n_.Resets.length:Int))<|
  need (InI64 ((b_.Resets.length:Int) - (1:Int)))<|
  bnd (jZ (n_.Resets.getD g4.toNat 0) (0:Int) ((b_.Resets.length:Int) - (1:Int))) fun v15=>
  bif (!v15) then
   ret (2:Int)
  else
   need (InI64 (g4+(1:Int)))<|
   self4 (g4+(1:Int))
 else
  need (InI64 ((b_.cK.length:Int) - (1:Int)))<|
  bnd (jZ n_.iF (-1:Int) ((b_.cK.length:Int) - (1:Int))) fun v16=>
  bif (!v16) then
   ret (2:Int)
  else
   bR (Dv n_ devices_) (0:Int)
noncomputable def Dx (b_:bQ) (n_:aV) (devices_:Int) (self3:Int→M Int):Int→M Int:=fun g3=>
 bif (decide (g3<(n_.Functions.length:Int))) then
  need (0≤g3∧g3<(n_.Functions.length:Int))<|
  bnd (vL (n_.Functions.getD g3.toNat ByteArray.empty)) fun v12=>
  bif (!v12) then
   ret (1:Int)
  else
   need (InI64 (g3+(1:Int)))<|
   self3 (g3+(1:Int))
 else
  bR (Dw b_ n_ devices_) (0:Int)
noncomputable def Dy (b_:bQ) (n_:aV) (devices_:Int) (self2:Int→M Int):Int→M Int:=fun g2=>
 bif (decide (g2<(n_.Draws.length:Int))) then
  need (0≤g2∧g2<(n_.Draws.length:Int))<|
  need (InI64 ((b_.bH.length:Int) - (1:Int)))<|
  bnd (jZ ((n_.Draws.getD g2.toNat bL).bn) (0:Int) ((b_.bH.length:Int) - (1:Int))) fun v8=>
  bnd (fun v9=>((((!v8)||(decide ((n_.Draws.getD g2.toNat bL).Low<(0:Int))))||(decide ((n_.Draws.getD g2.toNat bL).High<(n_.Draws.getD g2.toNat bL).Low)))||(decide ((5000:Int)<(n_.Draws.getD g2.toNat bL).High)))=false→jZ ((n_.Draws.getD g2.toNat bL).Load) (0:Int) (10000:Int) v9) fun v9=>
  bif (((((!v8)||(decide ((n_.Draws.getD g2.toNat bL).Low<(0:Int))))||(decide ((n_.Draws.getD g2.toNat bL).High<(n_.Draws.getD g2.toNat bL).Low)))||(decide ((5000:Int)<(n_.Draws.getD g2.toNat bL).High)))||(!v9)) then
   ret (2:Int)
  else
   need (InI64 (g2+(1:Int)))<|
   self2 (g2+(1:Int))
 else
  bR (Dx b_ n_ devices_) (0:Int)
noncomputable def F4 (b_:bQ) (n_:aV) (devices_:Int) (self1:Int→M Int):Int→M Int:=fun g1=>
 bif (decide (g1<(n_.Limits.length:Int))) then
  need (0≤g1∧g1<(n_.Limits.length:Int))<|
  need (InI64 ((b_.bY.length:Int) - (1:Int)))<|
  bnd (jZ ((n_.Limits.getD g1.toNat cB).Clock) (0:Int) ((b_.bY.length:Int) - (1:Int))) fun v3=>
  bif ((((!v3)||(decide ((n_.Limits.getD g1.toNat cB).Low<(0:Int))))||(decide ((n_.Limits.getD g1.toNat cB).High<(n_.Limits.getD g1.toNat cB).Low)))||(decide ((4000000000:Int)<(n_.Limits.getD g1.toNat cB).High))) then
   ret (2:Int)
  else
   need (InI64 (g1+(1:Int)))<|
   self1 (g1+(1:Int))
 else
  bR (Dy b_ n_ devices_) (0:Int)
noncomputable def Ap (b_:bQ) (n_:aV) (devices_:Int):M Int:=
 bif (((decide ((32:Int)<(n_.Limits.length:Int)))||(decide ((32:Int)<(n_.Draws.length:Int))))||(decide ((10:Int)<(n_.Functions.length:Int)))) then
  ret (3:Int)
 else
  bR (F4 b_ n_ devices_) (0:Int)
noncomputable def F5 (b_:bQ) (l_:(List aV)) (self1:Int→M Int):Int→M Int:=fun g1=>
 bif (decide (g1<(l_.length:Int))) then
  need (0≤g1∧g1<(l_.length:Int))<|
  bnd (Ap b_ (l_.getD g1.toNat bJ) (l_.length:Int)) fun v4=>
  bif (v4 != (0:Int)) then
   ret v4
  else
   need (InI64 (g1+(1:Int)))<|
   self1 (g1+(1:Int))
 else
  ret (0:Int)
noncomputable def qQ (b_:bQ) (l_:(List aV)):M Int:=
 bnd (xu b_) fun v1=>
 bif (v1 != (0:Int)) then
  ret v1
 else
  bif (decide ((12:Int)<(l_.length:Int))) then
   ret (3:Int)
  else
   bR (F5 b_ l_) (0:Int)
noncomputable def vZ (l_:(List aV)) (members_:(List Int)) (self1:Int→M Bool):Int→M Bool:=fun g1=>
 bif (decide (g1<(members_.length:Int))) then
  need (0≤g1∧g1<(members_.length:Int))<|
  need (InI64 ((l_.length:Int) - (1:Int)))<|
  bnd (jZ (members_.getD g1.toNat 0) (0:Int) ((l_.length:Int) - (1:Int))) fun v5=>
  need ((!v5)=false→0≤g1∧g1≤(members_.length:Int))<|
  bnd (fun v6=>(!v5)=false→slices_Contains_int (members_.take (g1.toNat)) (members_.getD g1.toNat 0) v6) fun v6=>
  bif ((!v5)||v6) then
   ret false
  else
   need (InI64 (g1+(1:Int)))<|
   self1 (g1+(1:Int))
 else
  ret true
noncomputable def iP (l_:(List aV)) (members_:(List Int)):M Bool:=
 bR (vZ l_ members_) (0:Int)
noncomputable def slices_Clone_int (s_:(List Int)):M (List Int):=
 need (s_.length*8≤big)<|
 ret s_
noncomputable def iK (s_:(List Bool)):M (List Bool):=
 need (s_.length*1≤big)<|
 ret s_
noncomputable def zu (r_:bF):M ((List Bool)×(List Int)):=
 bnd (iK r_.On) fun v1=>
 bnd (slices_Clone_int r_.Level) fun v2=>
 ret (v1,v2)
noncomputable def jr (s_:(List aL)):M (List aL):=
 need (s_.length*24≤big)<|
 ret s_
noncomputable def EX (g_:bq):M ((List Int)×(List Bool)×(List Int)×(List aL)×(List Bool)×(List Bool)):=
 bnd (slices_Clone_int g_.Setting) fun v1=>
 bnd (zu g_.Rails) fun v2=>
 bnd (jr g_.Uses) fun v3=>
 bnd (iK g_.Released) fun v4=>
 bnd (iK g_.Powered) fun v5=>
 ret (v1,v2.1,v2.2,v3,v4,v5)
noncomputable def qx (s_:dJ) (self2:Int→M Bool):Int→M Bool:=fun g2=>
 bif (decide (g2<(s_.aK.Uses.length:Int))) then
  need (0≤g2∧g2<(s_.aK.Uses.length:Int))<|
  need (InI64 ((s_.bX.length:Int) - (1:Int)))<|
  bnd (jZ ((s_.aK.Uses.getD g2.toNat bS).Device) (-1:Int) ((s_.bX.length:Int) - (1:Int))) fun v7=>
  bif (!v7) then
   ret false
  else
   need (InI64 (g2+(1:Int)))<|
   self2 (g2+(1:Int))
 else
  ret true
noncomputable def sG (s_:dJ) (self1:Int→M Bool):Int→M Bool:=fun g1=>
 bif (decide (g1<(s_.aR.bY.length:Int))) then
  need (0≤g1∧g1<(s_.aR.bY.length:Int))<|
  need (0≤g1∧g1<(s_.aK.Setting.length:Int))<|
  need (InI64 (((((s_.aR.bY.getD g1.toNat au).Choices).length:Nat):Int) - (1:Int)))<|
  bnd (jZ (s_.aK.Setting.getD g1.toNat 0) (0:Int) (((((s_.aR.bY.getD g1.toNat au).Choices).length:Nat):Int) - (1:Int))) fun v4=>
  bif (!v4) then
   ret false
  else
   need (InI64 (g1+(1:Int)))<|
   self1 (g1+(1:Int))
 else
  bR (qx s_) (0:Int)
noncomputable def lC (s_:dJ):M Bool:=
 bnd (iP s_.bX s_.aI) fun v1=>
 bif ((((((!v1)||((s_.aK.Setting.length:Int) != (s_.aR.bY.length:Int)))||((s_.aK.Rails.On.length:Int) != (s_.aR.bH.length:Int)))||((s_.aK.Rails.Level.length:Int) != (s_.aR.bH.length:Int)))||((s_.aK.Released.length:Int) != (s_.aR.Resets.length:Int)))||((s_.aK.Powered.length:Int) != (s_.aR.cK.length:Int))) then
  ret false
 else
  bR (sG s_) (0:Int)
noncomputable def lW (x_:bC) (a1_:(List av)):M Bool:=
 need (InI64 ((a1_.length:Int) - (1:Int)))<|
 bnd (gM x_.Clock (0:Int) ((a1_.length:Int) - (1:Int))) fun v1=>
 bnd (fun v2=>(!v1)=false→gM x_.High (0:Int) (4000000000:Int) v2) fun v2=>
 bnd (fun v3=>((!v1)||(!v2))=false→gM x_.Low (0:Int) x_.High v3) fun v3=>
 ret (((!v1)||(!v2))||(!v3))
noncomputable def tJ (s_:(List bC)) (f_:(List av)) (self1:Int→M Int):Int→M Int:=fun g1=>
 bif (decide (g1<(s_.length:Int))) then
  need (0≤g1∧g1<(s_.length:Int))<|
  bnd (lW (s_.getD g1.toNat cB) f_) fun v3=>
  bif v3 then
   ret g1
  else
   need (InI64 (g1+(1:Int)))<|
   self1 (g1+(1:Int))
 else
  ret (-1:Int)
noncomputable def mV (s_:(List bC)) (f_:(List av)):M Int:=
 bR (tJ s_ f_) (0:Int)
noncomputable def iQ (s_:(List bC)) (f_:(List av)):M Bool:=
 bnd (mV s_ f_) fun v1=>
 ret (decide ((0:Int)≤v1))
noncomputable def uN (l_:(List av)) (m_:(List bC)):M Bool:=
 bnd (sD l_) fun v1=>
 bnd (fun v2=>((v1==(0:Int))&&(decide ((m_.length:Int)≤(32:Int))))=true→iQ m_ l_ v2) fun v2=>
 ret (((v1==(0:Int))&&(decide ((m_.length:Int)≤(32:Int))))&&(!v2))
noncomputable def zw (l_:(List av)) (s_:(List Int)) (self1:Int→M Bool):Int→M Bool:=fun g1=>
 bif (decide (g1<(s_.length:Int))) then
  need (0≤g1∧g1<(s_.length:Int))<|
  need (0≤g1∧g1<(l_.length:Int))<|
  need (InI64 (((((l_.getD g1.toNat au).Choices).length:Nat):Int) - (1:Int)))<|
  bnd (gM (s_.getD g1.toNat 0) (0:Int) (((((l_.getD g1.toNat au).Choices).length:Nat):Int) - (1:Int))) fun v3=>
  bif (!v3) then
   ret false
  else
   need (InI64 (g1+(1:Int)))<|
   self1 (g1+(1:Int))
 else
  ret true
noncomputable def nA (l_:(List av)) (s_:(List Int)):M Bool:=
 bif ((s_.length:Int) != (l_.length:Int)) then
  ret false
 else
  bR (zw l_ s_) (0:Int)
noncomputable def uO (l_:(List av)) (s_:(List Int)) (clock_:Int):M Int:=
 need (0≤clock_∧clock_<(l_.length:Int))<|
 bif ((l_.getD clock_.toNat au).Kind==(1:Int)) then
  ret (-1:Int)
 else
  bif ((l_.getD clock_.toNat au).Kind==(4:Int)) then
   need (0≤clock_∧clock_<(s_.length:Int))<|
   need (0≤(s_.getD clock_.toNat 0)∧(s_.getD clock_.toNat 0)<((((l_.getD clock_.toNat au).Choices).length:Nat):Int))<|
   need (0≤(((l_.getD clock_.toNat au).Choices).getD ((s_.getD clock_.toNat 0).toNat) 0)∧(((l_.getD clock_.toNat au).Choices).getD ((s_.getD clock_.toNat 0).toNat) 0)<((((l_.getD clock_.toNat au).Parents).length:Nat):Int))<|
   ret (((l_.getD clock_.toNat au).Parents).getD ((((l_.getD clock_.toNat au).Choices).getD ((s_.getD clock_.toNat 0).toNat) 0).toNat) 0)
  else
   need (0≤(0:Int)∧(0:Int)<((((l_.getD clock_.toNat au).Parents).length:Nat):Int))<|
   ret (((l_.getD clock_.toNat au).Parents).getD 0 0)
noncomputable def Dz (self1:(Int×Int)→M Int):(Int×Int)→M Int:=fun g1=>
 bif (g1.2 != (0:Int)) then
  need (g1.2≠0)<|
  self1 (g1.2,(g1.1.tmod g1.2))
 else
  ret g1.1
noncomputable def lX (a_:Int) (b_:Int):M Int:=
 bR Dz (a_,b_)
noncomputable def oq (r_:aP):M Bool:=
 bnd (fun v1=>((((decide ((0:Int)≤r_.Num))&&(decide (r_.Num≤(144115188075855872:Int))))&&(decide ((1:Int)≤r_.Den)))&&(decide (r_.Den≤(16777216:Int))))=true→lX r_.Num r_.Den v1) fun v1=>
 ret (((((decide ((0:Int)≤r_.Num))&&(decide (r_.Num≤(144115188075855872:Int))))&&(decide ((1:Int)≤r_.Den)))&&(decide (r_.Den≤(16777216:Int))))&&(v1==(1:Int)))
noncomputable def xw (a00_:Int) (a01_:Int) (a1_:Int):M (Int×Int):=
 bnd (lX a00_ a1_) fun v1=>
 need (v1≠0∧InI64 (a00_.tdiv v1))<|
 need (v1≠0∧InI64 (a1_.tdiv v1))<|
 need (InI64 (a01_*(a1_.tdiv v1)))<|
 ret ((a00_.tdiv v1),(a01_*(a1_.tdiv v1)))
noncomputable def DC (num_:Int) (den_:Int):M (aP×Int):=
 bif ((decide (num_<(0:Int)))||(decide (den_<(1:Int)))) then
  ret ((⟨(0:Int),(0:Int)⟩:aP),(2:Int))
 else
  bnd (lX num_ den_) fun v1=>
  need (v1≠0∧InI64 (num_.tdiv v1))<|
  need (v1≠0∧InI64 (den_.tdiv v1))<|
  bnd (oq (⟨(num_.tdiv v1),(den_.tdiv v1)⟩:aP)) fun v2=>
  bif (!v2) then
   ret ((⟨(0:Int),(0:Int)⟩:aP),(2:Int))
  else
   ret ((⟨(num_.tdiv v1),(den_.tdiv v1)⟩:aP),(0:Int))
noncomputable def xA (r_:aP) (k_:Int) (scale0_:Int) (scale1_:Int) (scale2_:Int):M (aP×Int):=
 bnd (oq r_) fun v1=>
 bif (!v1) then
  ret ((⟨(0:Int),(0:Int)⟩:aP),(1:Int))
 else
  bif ((decide (k_<(1:Int)))||(decide ((64:Int)<k_))) then
   ret ((⟨(0:Int),(0:Int)⟩:aP),(2:Int))
  else
   bnd (xw scale0_ scale1_ scale2_) fun v2=>
   bnd (DC v2.1 v2.2) fun v3=>
   ret (v3.1,v3.2)
noncomputable def EY (r_:aP) (k_:Int):M (aP×Int):=
 bnd (xA r_ k_ r_.Num r_.Den k_) fun v1=>
 ret (v1.1,v1.2)
noncomputable def uP (a0_:Int) (a10_:Int) (a11_:Int):M (Int×Int):=
 bnd (lX a0_ a11_) fun v1=>
 need (v1≠0∧InI64 (a0_.tdiv v1))<|
 need ((a0_.tdiv v1)≠0∧InI64 ((144115188075855872:Int).tdiv (a0_.tdiv v1)))<|
 bif (decide (((144115188075855872:Int).tdiv (a0_.tdiv v1))<a10_)) then
  ret ((-1:Int),(1:Int))
 else
  need (v1≠0∧InI64 (a0_.tdiv v1))<|
  need (InI64 (a10_*(a0_.tdiv v1)))<|
  need (v1≠0∧InI64 (a11_.tdiv v1))<|
  ret ((a10_*(a0_.tdiv v1)),(a11_.tdiv v1))
noncomputable def pF (r_:aP) (k_:Int) (scale0_:Int) (scale1_:Int) (scale2_:Int):M (aP×Int):=
 bnd (oq r_) fun v1=>
 bif (!v1) then
  ret ((⟨(0:Int),(0:Int)⟩:aP),(1:Int))
 else
  bif ((decide (k_<(1:Int)))||(decide ((64:Int)<k_))) then
   ret ((⟨(0:Int),(0:Int)⟩:aP),(2:Int))
  else
   bnd (uP scale0_ scale1_ scale2_) fun v2=>
   bnd (DC v2.1 v2.2) fun v3=>
   ret (v3.1,v3.2)
noncomputable def Aq (r_:aP) (k_:Int):M (aP×Int):=
 bnd (pF r_ k_ k_ r_.Num r_.Den) fun v1=>
 ret (v1.1,v1.2)
noncomputable def DF (l_:(List av)) (s_:(List Int)) (self1:(Int×(List aP))→M (List aP)):(Int×(List aP))→M (List aP):=fun g1=>
 bif (decide (g1.1<(l_.length:Int))) then
  need (0≤g1.1∧g1.1<(l_.length:Int))<|
  need (0≤g1.1∧g1.1<(s_.length:Int))<|
  need (0≤(s_.getD g1.1.toNat 0)∧(s_.getD g1.1.toNat 0)<((((l_.getD g1.1.toNat au).Choices).length:Nat):Int))<|
  bnd (uO l_ s_ g1.1) fun v7=>
  bif (decide (v7<(0:Int))) then
   need (0≤g1.1∧g1.1<(g1.2.length:Int))<|
   need (InI64 (g1.1+(1:Int)))<|
   self1 ((g1.1+(1:Int)),(g1.2.set (g1.1.toNat) (⟨(((l_.getD g1.1.toNat au).Choices).getD ((s_.getD g1.1.toNat 0).toNat) 0),(1:Int)⟩:aP)))
  else
   need (0≤v7∧v7<(g1.2.length:Int))<|
   bif ((((g1.2.getD v7.toNat bZ).Num==(0:Int))&&(((g1.2.getD v7.toNat bZ).Den==(1:Int))&&true))||(((l_.getD g1.1.toNat au).Kind==(5:Int))&&((((l_.getD g1.1.toNat au).Choices).getD ((s_.getD g1.1.toNat 0).toNat) 0)==(0:Int)))) then
    need (0≤g1.1∧g1.1<(g1.2.length:Int))<|
    need (InI64 (g1.1+(1:Int)))<|
    self1 ((g1.1+(1:Int)),(g1.2.set (g1.1.toNat) (⟨(0:Int),(1:Int)⟩:aP)))
   else
    bif ((l_.getD g1.1.toNat au).Kind==(2:Int)) then
     need (0≤v7∧v7<(g1.2.length:Int))<|
     bnd (EY (g1.2.getD v7.toNat bZ) (((l_.getD g1.1.toNat au).Choices).getD ((s_.getD g1.1.toNat 0).toNat) 0)) fun v8=>
     need (0≤g1.1∧g1.1<(g1.2.length:Int))<|
     need (InI64 (g1.1+(1:Int)))<|
     self1 ((g1.1+(1:Int)),(g1.2.set (g1.1.toNat) v8.1))
    else
     bif ((l_.getD g1.1.toNat au).Kind==(3:Int)) then
      need (0≤v7∧v7<(g1.2.length:Int))<|
      bnd (Aq (g1.2.getD v7.toNat bZ) (((l_.getD g1.1.toNat au).Choices).getD ((s_.getD g1.1.toNat 0).toNat) 0)) fun v9=>
      need (0≤g1.1∧g1.1<(g1.2.length:Int))<|
      need (InI64 (g1.1+(1:Int)))<|
      self1 ((g1.1+(1:Int)),(g1.2.set (g1.1.toNat) v9.1))
     else
      need (0≤v7∧v7<(g1.2.length:Int))<|
      need (0≤g1.1∧g1.1<(g1.2.length:Int))<|
      need (InI64 (g1.1+(1:Int)))<|
      self1 ((g1.1+(1:Int)),(g1.2.set (g1.1.toNat) (g1.2.getD v7.toNat bZ)))
 else
  ret g1.2
noncomputable def sH (l_:(List av)) (s_:(List Int)):M (List aP):=
 need (0≤(l_.length:Int)∧(l_.length:Int)*((16:Nat):Int)≤((big:Nat):Int))<|
 bR (DF l_ s_) ((0:Int),(List.replicate ((l_.length:Int).toNat) bZ))
noncomputable def sI (r_:aP) (low_:Int) (high_:Int):M Bool:=
 bnd (oq r_) fun v1=>
 bif (!v1) then
  ret false
 else
  need (r_.Den≠0∧InI64 (r_.Num.tdiv r_.Den))<|
  need (r_.Den≠0)<|
  ret ((decide (low_≤(r_.Num.tdiv r_.Den)))&&((decide ((r_.Num.tdiv r_.Den)<high_))||(((r_.Num.tdiv r_.Den)==high_)&&((r_.Num.tmod r_.Den)==(0:Int)))))
noncomputable def nC (x_:bC) (a1_:(List aP)):M Bool:=
 need (0≤x_.Clock∧x_.Clock<(a1_.length:Int))<|
 need ((((a1_.getD x_.Clock.toNat bZ).Num==(0:Int))&&(((a1_.getD x_.Clock.toNat bZ).Den==(1:Int))&&true))=false→0≤x_.Clock∧x_.Clock<(a1_.length:Int))<|
 bnd (fun v1=>(((a1_.getD x_.Clock.toNat bZ).Num==(0:Int))&&(((a1_.getD x_.Clock.toNat bZ).Den==(1:Int))&&true))=false→sI (a1_.getD x_.Clock.toNat bZ) x_.Low x_.High v1) fun v1=>
 ret ((((a1_.getD x_.Clock.toNat bZ).Num==(0:Int))&&(((a1_.getD x_.Clock.toNat bZ).Den==(1:Int))&&true))||(!v1))
noncomputable def qm (s_:(List bC)) (f_:(List aP)) (self1:Int→M Int):Int→M Int:=fun g1=>
 bif (decide (g1<(s_.length:Int))) then
  need (0≤g1∧g1<(s_.length:Int))<|
  bnd (nC (s_.getD g1.toNat cB) f_) fun v3=>
  bif v3 then
   ret g1
  else
   need (InI64 (g1+(1:Int)))<|
   self1 (g1+(1:Int))
 else
  ret (-1:Int)
noncomputable def kV (s_:(List bC)) (f_:(List aP)):M Int:=
 bR (qm s_ f_) (0:Int)
noncomputable def gW (s_:(List bC)) (f_:(List aP)):M Bool:=
 bnd (kV s_ f_) fun v1=>
 ret (decide ((0:Int)≤v1))
noncomputable def DJ (l_:(List av)) (m_:(List bC)) (v3:(List aP)) (self1:Int→M Bool):Int→M Bool:=fun g1=>
 bif (decide (g1<(l_.length:Int))) then
  need (0≤g1∧g1<(l_.length:Int))<|
  need (0≤g1∧g1<(v3.length:Int))<|
  need (((!(((v3.getD g1.toNat bZ).Num==(0:Int))&&(((v3.getD g1.toNat bZ).Den==(1:Int))&&true)))&&((l_.getD g1.toNat au).High != (0:Int)))=true→0≤g1∧g1<(v3.length:Int))<|
  bnd (fun v6=>((!(((v3.getD g1.toNat bZ).Num==(0:Int))&&(((v3.getD g1.toNat bZ).Den==(1:Int))&&true)))&&((l_.getD g1.toNat au).High != (0:Int)))=true→sI (v3.getD g1.toNat bZ) ((l_.getD g1.toNat au).Low) ((l_.getD g1.toNat au).High) v6) fun v6=>
  bif (((!(((v3.getD g1.toNat bZ).Num==(0:Int))&&(((v3.getD g1.toNat bZ).Den==(1:Int))&&true)))&&((l_.getD g1.toNat au).High != (0:Int)))&&(!v6)) then
   ret false
  else
   need (InI64 (g1+(1:Int)))<|
   self1 (g1+(1:Int))
 else
  bnd (gW m_ v3) fun v7=>
  ret (!v7)
noncomputable def xB (l_:(List av)) (s_:(List Int)) (m_:(List bC)):M Bool:=
 bnd (uN l_ m_) fun v1=>
 bnd (fun v2=>(!v1)=false→nA l_ s_ v2) fun v2=>
 bif ((!v1)||(!v2)) then
  ret false
 else
  bnd (sH l_ s_) fun v3=>
  bR (DJ l_ m_ v3) (0:Int)
noncomputable def kI (s_:dJ):M Bool:=
 bnd (xB s_.aR.bY s_.aK.Setting ([]:List bC)) fun v1=>
 ret v1
noncomputable def xC (l_:(List av)) (s_:(List Int)):M ((List aP)×Int):=
 bnd (sD l_) fun v1=>
 bif (v1 != (0:Int)) then
  ret (([]:List aP),v1)
 else
  bnd (nA l_ s_) fun v2=>
  bif (!v2) then
   ret (([]:List aP),(1:Int))
  else
   bnd (sH l_ s_) fun v3=>
   ret (v3,(0:Int))
noncomputable def qy (s_:dJ) (v1:((List aP)×Int)) (g1:Int) (self1:Int→M Bool) (self4:Int→M Bool):Int→M Bool:=fun g4=>
 bif (decide (g4<((((s_.bX.getD ((s_.aI.getD g1.toNat 0).toNat) bJ).Limits).length:Nat):Int))) then
  need (0≤g4∧g4<((((s_.bX.getD ((s_.aI.getD g1.toNat 0).toNat) bJ).Limits).length:Nat):Int))<|
  need (0≤(((s_.bX.getD ((s_.aI.getD g1.toNat 0).toNat) bJ).Limits).getD g4.toNat cB).Clock∧(((s_.bX.getD ((s_.aI.getD g1.toNat 0).toNat) bJ).Limits).getD g4.toNat cB).Clock<(v1.1.length:Int))<|
  need (((v1.1.getD (((((s_.bX.getD ((s_.aI.getD g1.toNat 0).toNat) bJ).Limits).getD g4.toNat cB).Clock).toNat) bZ).Num==(0:Int))=false→InI64 ((((s_.bX.getD ((s_.aI.getD g1.toNat 0).toNat) bJ).Limits).getD g4.toNat cB).High*(v1.1.getD (((((s_.bX.getD ((s_.aI.getD g1.toNat 0).toNat) bJ).Limits).getD g4.toNat cB).Clock).toNat) bZ).Den))<|
  need ((((v1.1.getD (((((s_.bX.getD ((s_.aI.getD g1.toNat 0).toNat) bJ).Limits).getD g4.toNat cB).Clock).toNat) bZ).Num==(0:Int))||(decide (((((s_.bX.getD ((s_.aI.getD g1.toNat 0).toNat) bJ).Limits).getD g4.toNat cB).High*(v1.1.getD (((((s_.bX.getD ((s_.aI.getD g1.toNat 0).toNat) bJ).Limits).getD g4.toNat cB).Clock).toNat) bZ).Den)<(v1.1.getD (((((s_.bX.getD ((s_.aI.getD g1.toNat 0).toNat) bJ).Limits).getD g4.toNat cB).Clock).toNat) bZ).Num)))=false→(!s_.ji)=true→InI64 ((((s_.bX.getD ((s_.aI.getD g1.toNat 0).toNat) bJ).Limits).getD g4.toNat cB).Low*(v1.1.getD (((((s_.bX.getD ((s_.aI.getD g1.toNat 0).toNat) bJ).Limits).getD g4.toNat cB).Clock).toNat) bZ).Den))<|
  bif ((((v1.1.getD (((((s_.bX.getD ((s_.aI.getD g1.toNat 0).toNat) bJ).Limits).getD g4.toNat cB).Clock).toNat) bZ).Num==(0:Int))||(decide (((((s_.bX.getD ((s_.aI.getD g1.toNat 0).toNat) bJ).Limits).getD g4.toNat cB).High*(v1.1.getD (((((s_.bX.getD ((s_.aI.getD g1.toNat 0).toNat) bJ).Limits).getD g4.toNat cB).Clock).toNat) bZ).Den)<(v1.1.getD (((((s_.bX.getD ((s_.aI.getD g1.toNat 0).toNat) bJ).Limits).getD g4.toNat cB).Clock).toNat) bZ).Num)))||((!s_.ji)&&(decide ((v1.1.getD (((((s_.bX.getD ((s_.aI.getD g1.toNat 0).toNat) bJ).Limits).getD g4.toNat cB).Clock).toNat) bZ).Num<((((s_.bX.getD ((s_.aI.getD g1.toNat 0).toNat) bJ).Limits).getD g4.toNat cB).Low*(v1.1.getD (((((s_.bX.getD ((s_.aI.getD g1.toNat 0).toNat) bJ).Limits).getD g4.toNat cB).Clock).toNat) bZ).Den))))) then
   ret false
  else
   need (InI64 (g4+(1:Int)))<|
   self4 (g4+(1:Int))
 else
  need (InI64 (g1+(1:Int)))<|
  self1 (g1+(1:Int))
noncomputable def qz (s_:dJ) (v1:((List aP)×Int)) (self1:Int→M Bool):Int→M Bool:=fun g1=>
 bif (decide (g1<(s_.aI.length:Int))) then
  need (0≤g1∧g1<(s_.aI.length:Int))<|
  need (0≤(s_.aI.getD g1.toNat 0)∧(s_.aI.getD g1.toNat 0)<(s_.bX.length:Int))<|
  bR (qy s_ v1 g1 self1) (0:Int)
 else
  ret true
noncomputable def kJ (s_:dJ):M Bool:=
 bnd (xC s_.aR.bY s_.aK.Setting) fun v1=>
 bif (v1.2 != (0:Int)) then
  ret false
 else
  bR (qz s_ v1) (0:Int)
noncomputable def Bo (l_:(List aj)) (r_:bF) (self1:Int→M Bool):Int→M Bool:=fun g1=>
 bif (decide (g1<(r_.Level.length:Int))) then
  need (0≤g1∧g1<(r_.Level.length:Int))<|
  need (0≤g1∧g1<(l_.length:Int))<|
  need (InI64 (((((l_.getD g1.toNat ah).aU).length:Nat):Int) - (1:Int)))<|
  bnd (eD (r_.Level.getD g1.toNat 0) (0:Int) (((((l_.getD g1.toNat ah).aU).length:Nat):Int) - (1:Int))) fun v4=>
  bif (!v4) then
   ret false
  else
   need (InI64 (g1+(1:Int)))<|
   self1 (g1+(1:Int))
 else
  ret true
noncomputable def uQ (l_:(List aj)) (r_:bF):M Bool:=
 bnd (mF l_) fun v1=>
 bif (((v1 != (0:Int))||((r_.On.length:Int) != (l_.length:Int)))||((r_.Level.length:Int) != (l_.length:Int))) then
  ret false
 else
  bR (Bo l_ r_) (0:Int)
noncomputable def lY (x_:aM) (a1_:(List aj)):M Bool:=
 need (InI64 ((a1_.length:Int) - (1:Int)))<|
 bnd (eD x_.bn (0:Int) ((a1_.length:Int) - (1:Int))) fun v1=>
 bnd (fun v2=>(!v1)=false→eD x_.High (0:Int) (5000:Int) v2) fun v2=>
 bnd (fun v3=>((!v1)||(!v2))=false→eD x_.Low (0:Int) x_.High v3) fun v3=>
 bnd (fun v4=>(((!v1)||(!v2))||(!v3))=false→eD x_.Load (0:Int) (10000:Int) v4) fun v4=>
 ret ((((!v1)||(!v2))||(!v3))||(!v4))
noncomputable def uR (s_:(List aM)) (f_:(List aj)) (self1:Int→M Int):Int→M Int:=fun g1=>
 bif (decide (g1<(s_.length:Int))) then
  need (0≤g1∧g1<(s_.length:Int))<|
  bnd (lY (s_.getD g1.toNat bL) f_) fun v3=>
  bif v3 then
   ret g1
  else
   need (InI64 (g1+(1:Int)))<|
   self1 (g1+(1:Int))
 else
  ret (-1:Int)
noncomputable def nD (s_:(List aM)) (f_:(List aj)):M Int:=
 bR (uR s_ f_) (0:Int)
noncomputable def jd (s_:(List aM)) (f_:(List aj)):M Bool:=
 bnd (nD s_ f_) fun v1=>
 ret (decide ((0:Int)≤v1))
noncomputable def uS (l_:(List aj)) (d_:(List aM)):M Bool:=
 bnd (mF l_) fun v1=>
 bnd (fun v2=>((v1==(0:Int))&&(decide ((d_.length:Int)≤(32:Int))))=true→jd d_ l_ v2) fun v2=>
 ret (((v1==(0:Int))&&(decide ((d_.length:Int)≤(32:Int))))&&(!v2))
noncomputable def fQ (s_:(List aj)):M (List aj):=
 ret s_
noncomputable def tK (v1:(List aj)) (self2:(List Bool)→M (List Bool)) (k2:Nat):(List Bool)→M (List Bool):=fun g5=>
 need (0≤((v1.length - 1 - k2:Nat):Int)∧((v1.length - 1 - k2:Nat):Int)<(g5.length:Int))<|
 bif ((g5.getD (((v1.length - 1 - k2:Nat):Int).toNat) false)&&(decide ((0:Int)≤(v1.getD (v1.length - 1 - k2) ah).Parent))) then
  need (0≤(v1.getD (v1.length - 1 - k2) ah).Parent∧(v1.getD (v1.length - 1 - k2) ah).Parent<(g5.length:Int))<|
  self2 (g5.set (((v1.getD (v1.length - 1 - k2) ah).Parent).toNat) true)
 else
  self2 g5
noncomputable def Bp:(List Bool)→M (List Bool):=fun g2=>
 ret g2
noncomputable def Bq (v1:(List aj)) (k2:Nat) (self2:(List Bool)→M (List Bool)):(List Bool)→M (List Bool):=fun g2=>
 need (0≤((v1.length - 1 - k2:Nat):Int)∧((v1.length - 1 - k2:Nat):Int)<(g2.length:Int))<|
 need (0≤((v1.length - 1 - k2:Nat):Int)∧((v1.length - 1 - k2:Nat):Int)<(g2.length:Int))<|
 (tK v1 self2 k2) (g2.set (((v1.length - 1 - k2:Nat):Int).toNat) ((g2.getD (((v1.length - 1 - k2:Nat):Int).toNat) false)||(v1.getD (v1.length - 1 - k2) ah).Always))
noncomputable def DK (l_:(List aj)) (d_:(List aM)) (self1:(Int×(List Bool))→M (List Bool)):(Int×(List Bool))→M (List Bool):=fun g1=>
 bif (decide (g1.1<(d_.length:Int))) then
  need (0≤g1.1∧g1.1<(d_.length:Int))<|
  need (0≤(d_.getD g1.1.toNat bL).bn∧(d_.getD g1.1.toNat bL).bn<(g1.2.length:Int))<|
  need (InI64 (g1.1+(1:Int)))<|
  self1 ((g1.1+(1:Int)),(g1.2.set (((d_.getD g1.1.toNat bL).bn).toNat) true))
 else
  bnd (fQ l_) fun v1=>
  need (v1.length≤1000000)<|
  Nc v1.length (Bq v1) Bp v1.length g1.2
noncomputable def xD (l_:(List aj)) (d_:(List aM)):M (List Bool):=
 need (0≤(l_.length:Int)∧(l_.length:Int)*((1:Nat):Int)≤((big:Nat):Int))<|
 bR (DK l_ d_) ((0:Int),(List.replicate ((l_.length:Int).toNat) false))
noncomputable def zx:(List Int)→M (List Int):=fun g2=>
 ret g2
noncomputable def zy (v1:(List aj)) (k2:Nat) (self2:(List Int)→M (List Int)):(List Int)→M (List Int):=fun g2=>
 bif (decide ((0:Int)≤(v1.getD (v1.length - 1 - k2) ah).Parent)) then
  need (0≤(v1.getD (v1.length - 1 - k2) ah).Parent∧(v1.getD (v1.length - 1 - k2) ah).Parent<(g2.length:Int))<|
  need (0≤((v1.length - 1 - k2:Nat):Int)∧((v1.length - 1 - k2:Nat):Int)<(g2.length:Int))<|
  need (InI64 ((g2.getD (((v1.getD (v1.length - 1 - k2) ah).Parent).toNat) 0)+(g2.getD (((v1.length - 1 - k2:Nat):Int).toNat) 0)))<|
  need (0≤(v1.getD (v1.length - 1 - k2) ah).Parent∧(v1.getD (v1.length - 1 - k2) ah).Parent<(g2.length:Int))<|
  self2 (g2.set (((v1.getD (v1.length - 1 - k2) ah).Parent).toNat) ((g2.getD (((v1.getD (v1.length - 1 - k2) ah).Parent).toNat) 0)+(g2.getD (((v1.length - 1 - k2:Nat):Int).toNat) 0)))
 else
  self2 g2
noncomputable def Br (l_:(List aj)) (d_:(List aM)) (self1:(Int×(List Int))→M (List Int)):(Int×(List Int))→M (List Int):=fun g1=>
 bif (decide (g1.1<(d_.length:Int))) then
  need (0≤g1.1∧g1.1<(d_.length:Int))<|
  need (0≤(d_.getD g1.1.toNat bL).bn∧(d_.getD g1.1.toNat bL).bn<(g1.2.length:Int))<|
  need (InI64 ((g1.2.getD (((d_.getD g1.1.toNat bL).bn).toNat) 0)+(d_.getD g1.1.toNat bL).Load))<|
  need (0≤(d_.getD g1.1.toNat bL).bn∧(d_.getD g1.1.toNat bL).bn<(g1.2.length:Int))<|
  need (InI64 (g1.1+(1:Int)))<|
  self1 ((g1.1+(1:Int)),(g1.2.set (((d_.getD g1.1.toNat bL).bn).toNat) ((g1.2.getD (((d_.getD g1.1.toNat bL).bn).toNat) 0)+(d_.getD g1.1.toNat bL).Load)))
 else
  bnd (fQ l_) fun v1=>
  need (v1.length≤1000000)<|
  Nc v1.length (zy v1) zx v1.length g1.2
noncomputable def uT (l_:(List aj)) (d_:(List aM)):M (List Int):=
 need (0≤(l_.length:Int)∧(l_.length:Int)*((8:Nat):Int)≤((big:Nat):Int))<|
 bR (Br l_ d_) ((0:Int),(List.replicate ((l_.length:Int).toNat) 0))
noncomputable def lZ (x_:aM) (a1_:(List aj)) (a20_:(List Bool)) (a21_:(List Int)):M Bool:=
 need (0≤x_.bn∧x_.bn<(a1_.length:Int))<|
 need (0≤x_.bn∧x_.bn<(a21_.length:Int))<|
 need (0≤(a21_.getD x_.bn.toNat 0)∧(a21_.getD x_.bn.toNat 0)<((((a1_.getD x_.bn.toNat ah).aU).length:Nat):Int))<|
 bnd (eD (((a1_.getD x_.bn.toNat ah).aU).getD ((a21_.getD x_.bn.toNat 0).toNat) 0) x_.Low x_.High) fun v1=>
 ret (!v1)
noncomputable def qR (s_:(List aM)) (f0_:(List aj)) (f1_:(List Bool)) (f2_:(List Int)) (self1:Int→M Int):Int→M Int:=fun g1=>
 bif (decide (g1<(s_.length:Int))) then
  need (0≤g1∧g1<(s_.length:Int))<|
  bnd (lZ (s_.getD g1.toNat bL) f0_ f1_ f2_) fun v3=>
  bif v3 then
   ret g1
  else
   need (InI64 (g1+(1:Int)))<|
   self1 (g1+(1:Int))
 else
  ret (-1:Int)
noncomputable def lD (s_:(List aM)) (f0_:(List aj)) (f1_:(List Bool)) (f2_:(List Int)):M Int:=
 bR (qR s_ f0_ f1_ f2_) (0:Int)
noncomputable def iB (s_:(List aM)) (f0_:(List aj)) (f1_:(List Bool)) (f2_:(List Int)):M Bool:=
 bnd (lD s_ f0_ f1_ f2_) fun v1=>
 ret (decide ((0:Int)≤v1))
noncomputable def Bt (l_:(List aj)) (r_:bF) (d_:(List aM)) (v3:(List Bool)) (v4:(List Int)) (self1:Int→M Bool):Int→M Bool:=fun g1=>
 bif (decide (g1<(l_.length:Int))) then
  need (0≤g1∧g1<(l_.length:Int))<|
  need (0≤g1∧g1<(r_.On.length:Int))<|
  bif (!(r_.On.getD g1.toNat false)) then
   need (0≤g1∧g1<(v3.length:Int))<|
   bif (v3.getD g1.toNat false) then
    ret false
   else
    need (InI64 (g1+(1:Int)))<|
    self1 (g1+(1:Int))
  else
   need ((decide ((0:Int)≤(l_.getD g1.toNat ah).Parent))=true→0≤(l_.getD g1.toNat ah).Parent∧(l_.getD g1.toNat ah).Parent<(r_.On.length:Int))<|
   need ((decide ((0:Int)≤(l_.getD g1.toNat ah).Parent))=true→(!(r_.On.getD (((l_.getD g1.toNat ah).Parent).toNat) false))=false→0≤(l_.getD g1.toNat ah).Parent∧(l_.getD g1.toNat ah).Parent<(l_.length:Int))<|
   need ((decide ((0:Int)≤(l_.getD g1.toNat ah).Parent))=true→(!(r_.On.getD (((l_.getD g1.toNat ah).Parent).toNat) false))=false→0≤(l_.getD g1.toNat ah).Parent∧(l_.getD g1.toNat ah).Parent<(r_.Level.length:Int))<|
   need ((decide ((0:Int)≤(l_.getD g1.toNat ah).Parent))=true→(!(r_.On.getD (((l_.getD g1.toNat ah).Parent).toNat) false))=false→0≤(r_.Level.getD (((l_.getD g1.toNat ah).Parent).toNat) 0)∧(r_.Level.getD (((l_.getD g1.toNat ah).Parent).toNat) 0)<((((l_.getD (((l_.getD g1.toNat ah).Parent).toNat) ah).aU).length:Nat):Int))<|
   need ((decide ((0:Int)≤(l_.getD g1.toNat ah).Parent))=true→(!(r_.On.getD (((l_.getD g1.toNat ah).Parent).toNat) false))=false→0≤g1∧g1<(r_.Level.length:Int))<|
   need ((decide ((0:Int)≤(l_.getD g1.toNat ah).Parent))=true→(!(r_.On.getD (((l_.getD g1.toNat ah).Parent).toNat) false))=false→0≤(r_.Level.getD g1.toNat 0)∧(r_.Level.getD g1.toNat 0)<((((l_.getD g1.toNat ah).aU).length:Nat):Int))<|
   need ((decide ((0:Int)≤(l_.getD g1.toNat ah).Parent))=true→(!(r_.On.getD (((l_.getD g1.toNat ah).Parent).toNat) false))=false→InI64 ((((l_.getD g1.toNat ah).aU).getD ((r_.Level.getD g1.toNat 0).toNat) 0)+(l_.getD g1.toNat ah).dO))<|
   need (((decide ((0:Int)≤(l_.getD g1.toNat ah).Parent))&&((!(r_.On.getD (((l_.getD g1.toNat ah).Parent).toNat) false))||(decide ((((l_.getD (((l_.getD g1.toNat ah).Parent).toNat) ah).aU).getD ((r_.Level.getD (((l_.getD g1.toNat ah).Parent).toNat) 0).toNat) 0)<((((l_.getD g1.toNat ah).aU).getD ((r_.Level.getD g1.toNat 0).toNat) 0)+(l_.getD g1.toNat ah).dO)))))=false→0≤g1∧g1<(v4.length:Int))<|
   bif (((decide ((0:Int)≤(l_.getD g1.toNat ah).Parent))&&((!(r_.On.getD (((l_.getD g1.toNat ah).Parent).toNat) false))||(decide ((((l_.getD (((l_.getD g1.toNat ah).Parent).toNat) ah).aU).getD ((r_.Level.getD (((l_.getD g1.toNat ah).Parent).toNat) 0).toNat) 0)<((((l_.getD g1.toNat ah).aU).getD ((r_.Level.getD g1.toNat 0).toNat) 0)+(l_.getD g1.toNat ah).dO)))))||(decide ((l_.getD g1.toNat ah).eG<(v4.getD g1.toNat 0)))) then
    ret false
   else
    need (InI64 (g1+(1:Int)))<|
    self1 (g1+(1:Int))
 else
  bnd (iB d_ l_ r_.On r_.Level) fun v5=>
  ret (!v5)
noncomputable def uU (l_:(List aj)) (r_:bF) (d_:(List aM)):M Bool:=
 bnd (uQ l_ r_) fun v1=>
 bnd (fun v2=>(!v1)=false→uS l_ d_ v2) fun v2=>
 bif ((!v1)||(!v2)) then
  ret false
 else
  bnd (xD l_ d_) fun v3=>
  bnd (uT l_ d_) fun v4=>
  bR (Bt l_ r_ d_ v3 v4) (0:Int)
noncomputable def oI (s_:dJ) (self1:(Int×(List aM))→M Bool):(Int×(List aM))→M Bool:=fun g1=>
 bif (decide (g1.1<(s_.aI.length:Int))) then
  need (0≤g1.1∧g1.1<(s_.aI.length:Int))<|
  need (0≤(s_.aI.getD g1.1.toNat 0)∧(s_.aI.getD g1.1.toNat 0)<(s_.bX.length:Int))<|
  need ((g1.2.length+((s_.bX.getD ((s_.aI.getD g1.1.toNat 0).toNat) bJ).Draws).length)*32≤big)<|
  need (InI64 (g1.1+(1:Int)))<|
  self1 ((g1.1+(1:Int)),(g1.2++(s_.bX.getD ((s_.aI.getD g1.1.toNat 0).toNat) bJ).Draws))
 else
  bnd (zu s_.aK.Rails) fun v1=>
  bnd (uU s_.aR.bH (⟨v1.1,v1.2⟩:bF) g1.2) fun v2=>
  ret v2
noncomputable def jE (s_:dJ):M Bool:=
 bR (oI s_) ((0:Int),([]:List aM))
noncomputable def Bu (p_:bB) (l_:(List ql)) (g2:(Int×(Nat→Int)×(List Bool))) (self2:(Int×(Nat→Int)×(List Bool))→M ((Nat→Int)×Int)) (self5:(Int×(Nat→Int)×(List Bool))→M ((Nat→Int)×Int)):(Int×(Nat→Int)×(List Bool))→M ((Nat→Int)×Int):=fun g5=>
 bif (decide (g5.1<((((p_.Groups.getD (((l_.getD g2.1.toNat kU).eH).toNat) aF).bT).length:Nat):Int))) then
  need (0≤g5.1∧g5.1<((((p_.Groups.getD (((l_.getD g2.1.toNat kU).eH).toNat) aF).bT).length:Nat):Int))<|
  need (0≤(((p_.Groups.getD (((l_.getD g2.1.toNat kU).eH).toNat) aF).bT).getD g5.1.toNat 0)∧(((p_.Groups.getD (((l_.getD g2.1.toNat kU).eH).toNat) aF).bT).getD g5.1.toNat 0)<((64:Nat):Int))<|
  bif (decide ((0:Int)≤(g5.2.1 ((((p_.Groups.getD (((l_.getD g2.1.toNat kU).eH).toNat) aF).bT).getD g5.1.toNat 0).toNat)))) then
   ret (g5.2.1,(40:Int))
  else
   need (0≤(((p_.Groups.getD (((l_.getD g2.1.toNat kU).eH).toNat) aF).bT).getD g5.1.toNat 0)∧(((p_.Groups.getD (((l_.getD g2.1.toNat kU).eH).toNat) aF).bT).getD g5.1.toNat 0)<((64:Nat):Int))<|
   need (InI64 (g5.1+(1:Int)))<|
   self5 ((g5.1+(1:Int)),(upd g5.2.1 ((((p_.Groups.getD (((l_.getD g2.1.toNat kU).eH).toNat) aF).bT).getD g5.1.toNat 0).toNat) ((l_.getD g2.1.toNat kU).eH)),g5.2.2)
 else
  need (InI64 (g2.1+(1:Int)))<|
  self2 ((g2.1+(1:Int)),g5.2.1,g5.2.2)
noncomputable def Bv (p_:bB) (l_:(List ql)) (self2:(Int×(Nat→Int)×(List Bool))→M ((Nat→Int)×Int)):(Int×(Nat→Int)×(List Bool))→M ((Nat→Int)×Int):=fun g2=>
 bif (decide (g2.1<(l_.length:Int))) then
  need (0≤g2.1∧g2.1<(l_.length:Int))<|
  need ((((decide ((l_.getD g2.1.toNat kU).eH<(0:Int)))||(decide ((p_.Groups.length:Int)≤(l_.getD g2.1.toNat kU).eH)))||(decide ((l_.getD g2.1.toNat kU).Function<(0:Int))))=false→0≤(l_.getD g2.1.toNat kU).eH∧(l_.getD g2.1.toNat kU).eH<(p_.Groups.length:Int))<|
  bif ((((decide ((l_.getD g2.1.toNat kU).eH<(0:Int)))||(decide ((p_.Groups.length:Int)≤(l_.getD g2.1.toNat kU).eH)))||(decide ((l_.getD g2.1.toNat kU).Function<(0:Int))))||(decide (((((p_.Groups.getD (((l_.getD g2.1.toNat kU).eH).toNat) aF).Functions).length:Nat):Int)≤(l_.getD g2.1.toNat kU).Function))) then
   ret (g2.2.1,(2:Int))
  else
   need (0≤(l_.getD g2.1.toNat kU).eH∧(l_.getD g2.1.toNat kU).eH<(g2.2.2.length:Int))<|
   bif (g2.2.2.getD (((l_.getD g2.1.toNat kU).eH).toNat) false) then
    ret (g2.2.1,(5:Int))
   else
    need (0≤(l_.getD g2.1.toNat kU).eH∧(l_.getD g2.1.toNat kU).eH<(g2.2.2.length:Int))<|
    need (0≤(l_.getD g2.1.toNat kU).eH∧(l_.getD g2.1.toNat kU).eH<(p_.Groups.length:Int))<|
    bR (Bu p_ l_ g2 self2) ((0:Int),g2.2.1,(g2.2.2.set (((l_.getD g2.1.toNat kU).eH).toNat) true))
 else
  ret (g2.2.1,(0:Int))
noncomputable def DL (p_:bB) (l_:(List ql)) (self1:(Int×(Nat→Int)×(Nat→Int))→M ((Nat→Int)×Int)):(Int×(Nat→Int)×(Nat→Int))→M ((Nat→Int)×Int):=fun g1=>
 bif (decide (g1.1<(64:Int))) then
  need (0≤g1.1∧g1.1<((64:Nat):Int))<|
  need (InI64 (g1.1+(1:Int)))<|
  self1 ((g1.1+(1:Int)),g1.2.1,(upd g1.2.2 (g1.1.toNat) (-1:Int)))
 else
  bnd (vY p_) fun v1=>
  bif (v1 != (0:Int)) then
   ret (g1.2.2,(1:Int))
  else
   need (0≤(p_.Groups.length:Int)∧(p_.Groups.length:Int)*((1:Nat):Int)≤((big:Nat):Int))<|
   bR (Bv p_ l_) ((0:Int),g1.2.2,(List.replicate ((p_.Groups.length:Int).toNat) false))
noncomputable def xE (p_:bB) (l_:(List ql)):M ((Nat→Int)×Int):=
 bR (DL p_ l_) ((0:Int),(fun _=>0),(fun _=>0))
noncomputable def wh (p_:bB):(Nat→Int)→M ((List Int)×Int):=fun g1=>
 need (0≤p_.bT∧p_.bT≤((64:Nat):Int))<|
 bnd (slices_Clone_int ((List.range (p_.bT.toNat)).map g1)) fun v2=>
 ret (v2,(0:Int))
noncomputable def xG (p_:bB) (l_:(List ql)):M ((List Int)×Int):=
 bnd (xE p_ l_) fun v1=>
 bif (v1.2 != (0:Int)) then
  ret (([]:List Int),v1.2)
 else
  (wh p_) v1.1
noncomputable def uq (s_:dJ) (self1:(Int×(List ql))→M Bool):(Int×(List ql))→M Bool:=fun g1=>
 bif (decide (g1.1<(s_.aK.Uses.length:Int))) then
  need (0≤g1.1∧g1.1<(s_.aK.Uses.length:Int))<|
  need ((g1.2.length+1)*16≤big)<|
  need (InI64 (g1.1+(1:Int)))<|
  self1 ((g1.1+(1:Int)),(g1.2++([((s_.aK.Uses.getD g1.1.toNat bS).Use)]:List ql)))
 else
  bnd (xG s_.aR.bE g1.2) fun v1=>
  ret (v1.2==(0:Int))
noncomputable def mG (s_:dJ):M Bool:=
 bR (uq s_) ((0:Int),([]:List ql))
noncomputable def mW (s_:dJ) (g1:Int) (self1:Int→M Bool) (self7:(Int×(mX→Option Int))→M Bool):(Int×(mX→Option Int))→M Bool:=fun g7=>
 bif (decide (g7.1<((((s_.bX.getD ((s_.aI.getD g1.toNat 0).toNat) bJ).Functions).length:Nat):Int))) then
  need (0≤g7.1∧g7.1<((((s_.bX.getD ((s_.aI.getD g1.toNat 0).toNat) bJ).Functions).length:Nat):Int))<|
  need (InI64 ((wT g7.2 (.s (((s_.bX.getD ((s_.aI.getD g1.toNat 0).toNat) bJ).Functions).getD g7.1.toNat ByteArray.empty))) - (1:Int)))<|
  bif (decide ((wT (HZ g7.2 (.s (((s_.bX.getD ((s_.aI.getD g1.toNat 0).toNat) bJ).Functions).getD g7.1.toNat ByteArray.empty)) ((wT g7.2 (.s (((s_.bX.getD ((s_.aI.getD g1.toNat 0).toNat) bJ).Functions).getD g7.1.toNat ByteArray.empty))) - (1:Int))) (.s (((s_.bX.getD ((s_.aI.getD g1.toNat 0).toNat) bJ).Functions).getD g7.1.toNat ByteArray.empty)))<(0:Int))) then
   ret false
  else
   need (InI64 (g7.1+(1:Int)))<|
   self7 ((g7.1+(1:Int)),(HZ g7.2 (.s (((s_.bX.getD ((s_.aI.getD g1.toNat 0).toNat) bJ).Functions).getD g7.1.toNat ByteArray.empty)) ((wT g7.2 (.s (((s_.bX.getD ((s_.aI.getD g1.toNat 0).toNat) bJ).Functions).getD g7.1.toNat ByteArray.empty))) - (1:Int))))
 else
  need (InI64 (g1+(1:Int)))<|
  self1 (g1+(1:Int))
noncomputable def nE (s_:dJ) (g1:Int) (self1:Int→M Bool) (self6:(Int×(mX→Option Int))→M Bool):(Int×(mX→Option Int))→M Bool:=fun g6=>
 bif (decide (g6.1<(s_.aK.Uses.length:Int))) then
  need (0≤g6.1∧g6.1<(s_.aK.Uses.length:Int))<|
  bif ((s_.aK.Uses.getD g6.1.toNat bS).Device==(s_.aI.getD g1.toNat 0)) then
   need (0≤((s_.aK.Uses.getD g6.1.toNat bS).Use).eH∧((s_.aK.Uses.getD g6.1.toNat bS).Use).eH<(s_.aR.bE.Groups.length:Int))<|
   need (0≤((s_.aK.Uses.getD g6.1.toNat bS).Use).Function∧((s_.aK.Uses.getD g6.1.toNat bS).Use).Function<((((s_.aR.bE.Groups.getD ((((s_.aK.Uses.getD g6.1.toNat bS).Use).eH).toNat) aF).Functions).length:Nat):Int))<|
   need (InI64 ((wT g6.2 (.s (((s_.aR.bE.Groups.getD ((((s_.aK.Uses.getD g6.1.toNat bS).Use).eH).toNat) aF).Functions).getD ((((s_.aK.Uses.getD g6.1.toNat bS).Use).Function).toNat) ByteArray.empty)))+(1:Int)))<|
   need (InI64 (g6.1+(1:Int)))<|
   self6 ((g6.1+(1:Int)),(HZ g6.2 (.s (((s_.aR.bE.Groups.getD ((((s_.aK.Uses.getD g6.1.toNat bS).Use).eH).toNat) aF).Functions).getD ((((s_.aK.Uses.getD g6.1.toNat bS).Use).Function).toNat) ByteArray.empty)) ((wT g6.2 (.s (((s_.aR.bE.Groups.getD ((((s_.aK.Uses.getD g6.1.toNat bS).Use).eH).toNat) aF).Functions).getD ((((s_.aK.Uses.getD g6.1.toNat bS).Use).Function).toNat) ByteArray.empty)))+(1:Int))))
  else
   need (InI64 (g6.1+(1:Int)))<|
   self6 ((g6.1+(1:Int)),g6.2)
 else
  need (0≤(s_.aI.getD g1.toNat 0)∧(s_.aI.getD g1.toNat 0)<(s_.bX.length:Int))<|
  bR (mW s_ g1 self1) ((0:Int),g6.2)
noncomputable def nG (s_:dJ) (self1:Int→M Bool):Int→M Bool:=fun g1=>
 bif (decide (g1<(s_.aI.length:Int))) then
  need (0≤g1∧g1<(s_.aI.length:Int))<|
  bR (nE s_ g1 self1) ((0:Int),(fun _=>none))
 else
  ret true
noncomputable def jv (s_:dJ):M Bool:=
 bR (nG s_) (0:Int)
noncomputable def Bw (l_:(List cu)) (released_:(List Bool)) (g1:Int) (self1:Int→M Bool) (self4:Int→M Bool):Int→M Bool:=fun g4=>
 bif (decide (g4<((((l_.getD g1.toNat dReset).After).length:Nat):Int))) then
  need (0≤g4∧g4<((((l_.getD g1.toNat dReset).After).length:Nat):Int))<|
  need (0≤g1∧g1<(released_.length:Int))<|
  need ((released_.getD g1.toNat false)=true→0≤(((l_.getD g1.toNat dReset).After).getD g4.toNat 0)∧(((l_.getD g1.toNat dReset).After).getD g4.toNat 0)<(released_.length:Int))<|
  bif ((released_.getD g1.toNat false)&&(!(released_.getD ((((l_.getD g1.toNat dReset).After).getD g4.toNat 0).toNat) false))) then
   ret false
  else
   need (InI64 (g4+(1:Int)))<|
   self4 (g4+(1:Int))
 else
  need (InI64 (g1+(1:Int)))<|
  self1 (g1+(1:Int))
noncomputable def Bz (l_:(List cu)) (released_:(List Bool)) (self1:Int→M Bool):Int→M Bool:=fun g1=>
 bif (decide (g1<(l_.length:Int))) then
  need (0≤g1∧g1<(l_.length:Int))<|
  bR (Bw l_ released_ g1 self1) (0:Int)
 else
  ret true
noncomputable def uV (l_:(List cu)) (released_:(List Bool)):M Bool:=
 bif ((released_.length:Int) != (l_.length:Int)) then
  ret false
 else
  bR (Bz l_ released_) (0:Int)
noncomputable def uW (l_:(List cu)) (released_:(List Bool)):M Bool:=
 bnd (sF l_) fun v1=>
 bnd (fun v2=>(v1==(0:Int))=true→uV l_ released_ v2) fun v2=>
 ret ((v1==(0:Int))&&v2)
noncomputable def iG (line_:Int) (a10_:(List av)) (a11_:(List aj)) (a12_:Int) (a13_:(List aY)) (a14_:(List cu)) (a15_:(List bM)) (a16_:(List aV)) (a17_:(List Int)) (a18_:(List Int)) (a19_:(List Bool)) (a110_:(List Int)) (a111_:(List aL)) (a112_:(List Bool)) (a113_:(List Bool)) (a114_:Bool):M Bool:=
 need (0≤line_∧line_<(a112_.length:Int))<|
 ret (!(a112_.getD line_.toNat false))
noncomputable def wm (s_:(List Int)) (f0_:(List av)) (f1_:(List aj)) (f2_:Int) (f3_:(List aY)) (f4_:(List cu)) (f5_:(List bM)) (f6_:(List aV)) (f7_:(List Int)) (f8_:(List Int)) (f9_:(List Bool)) (f10_:(List Int)) (f11_:(List aL)) (f12_:(List Bool)) (f13_:(List Bool)) (f14_:Bool) (self1:Int→M Int):Int→M Int:=fun g1=>
 bif (decide (g1<(s_.length:Int))) then
  need (0≤g1∧g1<(s_.length:Int))<|
  bnd (iG (s_.getD g1.toNat 0) f0_ f1_ f2_ f3_ f4_ f5_ f6_ f7_ f8_ f9_ f10_ f11_ f12_ f13_ f14_) fun v3=>
  bif v3 then
   ret g1
  else
   need (InI64 (g1+(1:Int)))<|
   self1 (g1+(1:Int))
 else
  ret (-1:Int)
noncomputable def oJ (s_:(List Int)) (f0_:(List av)) (f1_:(List aj)) (f2_:Int) (f3_:(List aY)) (f4_:(List cu)) (f5_:(List bM)) (f6_:(List aV)) (f7_:(List Int)) (f8_:(List Int)) (f9_:(List Bool)) (f10_:(List Int)) (f11_:(List aL)) (f12_:(List Bool)) (f13_:(List Bool)) (f14_:Bool):M Int:=
 bR (wm s_ f0_ f1_ f2_ f3_ f4_ f5_ f6_ f7_ f8_ f9_ f10_ f11_ f12_ f13_ f14_) (0:Int)
noncomputable def jk (s_:(List Int)) (f0_:(List av)) (f1_:(List aj)) (f2_:Int) (f3_:(List aY)) (f4_:(List cu)) (f5_:(List bM)) (f6_:(List aV)) (f7_:(List Int)) (f8_:(List Int)) (f9_:(List Bool)) (f10_:(List Int)) (f11_:(List aL)) (f12_:(List Bool)) (f13_:(List Bool)) (f14_:Bool):M Bool:=
 bnd (oJ s_ f0_ f1_ f2_ f3_ f4_ f5_ f6_ f7_ f8_ f9_ f10_ f11_ f12_ f13_ f14_) fun v1=>
 ret (decide ((0:Int)≤v1))
noncomputable def qA (s_:dJ) (self1:Int→M Bool):Int→M Bool:=fun g1=>
 bif (decide (g1<(s_.aI.length:Int))) then
  need (0≤g1∧g1<(s_.aI.length:Int))<|
  need (0≤(s_.aI.getD g1.toNat 0)∧(s_.aI.getD g1.toNat 0)<(s_.bX.length:Int))<|
  bnd (jk ((s_.bX.getD ((s_.aI.getD g1.toNat 0).toNat) bJ).Resets) s_.aR.bY s_.aR.bH s_.aR.bE.bT s_.aR.bE.Groups s_.aR.Resets s_.aR.cK s_.bX s_.aI s_.aK.Setting s_.aK.Rails.On s_.aK.Rails.Level s_.aK.Uses s_.aK.Released s_.aK.Powered s_.ji) fun v4=>
  bif v4 then
   ret false
  else
   need (InI64 (g1+(1:Int)))<|
   self1 (g1+(1:Int))
 else
  ret true
noncomputable def kK (s_:dJ):M Bool:=
 bnd (uW s_.aR.Resets s_.aK.Released) fun v1=>
 bif (!v1) then
  ret false
 else
  bR (qA s_) (0:Int)
noncomputable def BA (l_:(List bM)) (on_:(List Bool)) (self1:Int→M Bool):Int→M Bool:=fun g1=>
 bif (decide (g1<(l_.length:Int))) then
  need (0≤g1∧g1<(l_.length:Int))<|
  need (0≤g1∧g1<(on_.length:Int))<|
  need (((!(on_.getD g1.toNat false))&&(l_.getD g1.toNat fH).Always)=false→0≤g1∧g1<(on_.length:Int))<|
  need (((!(on_.getD g1.toNat false))&&(l_.getD g1.toNat fH).Always)=false→((on_.getD g1.toNat false)&&(decide ((0:Int)≤(l_.getD g1.toNat fH).Parent)))=true→0≤(l_.getD g1.toNat fH).Parent∧(l_.getD g1.toNat fH).Parent<(on_.length:Int))<|
  bif (((!(on_.getD g1.toNat false))&&(l_.getD g1.toNat fH).Always)||(((on_.getD g1.toNat false)&&(decide ((0:Int)≤(l_.getD g1.toNat fH).Parent)))&&(!(on_.getD (((l_.getD g1.toNat fH).Parent).toNat) false)))) then
   ret false
  else
   need (InI64 (g1+(1:Int)))<|
   self1 (g1+(1:Int))
 else
  ret true
noncomputable def uX (l_:(List bM)) (on_:(List Bool)):M Bool:=
 bif ((on_.length:Int) != (l_.length:Int)) then
  ret false
 else
  bR (BA l_ on_) (0:Int)
noncomputable def uY (l_:(List bM)) (on_:(List Bool)):M Bool:=
 bnd (pE l_) fun v1=>
 bnd (fun v2=>(v1==(0:Int))=true→uX l_ on_ v2) fun v2=>
 ret ((v1==(0:Int))&&v2)
noncomputable def gZ (m_:Int) (a10_:(List av)) (a11_:(List aj)) (a12_:Int) (a13_:(List aY)) (a14_:(List cu)) (a15_:(List bM)) (a16_:(List aV)) (a17_:(List Int)) (a18_:(List Int)) (a19_:(List Bool)) (a110_:(List Int)) (a111_:(List aL)) (a112_:(List Bool)) (a113_:(List Bool)) (a114_:Bool):M Bool:=
 need (0≤m_∧m_<(a16_.length:Int))<|
 need ((decide ((0:Int)≤(a16_.getD m_.toNat bJ).iF))=true→0≤(a16_.getD m_.toNat bJ).iF∧(a16_.getD m_.toNat bJ).iF<(a113_.length:Int))<|
 ret ((decide ((0:Int)≤(a16_.getD m_.toNat bJ).iF))&&(!(a113_.getD (((a16_.getD m_.toNat bJ).iF).toNat) false)))
noncomputable def wo (s_:(List Int)) (f0_:(List av)) (f1_:(List aj)) (f2_:Int) (f3_:(List aY)) (f4_:(List cu)) (f5_:(List bM)) (f6_:(List aV)) (f7_:(List Int)) (f8_:(List Int)) (f9_:(List Bool)) (f10_:(List Int)) (f11_:(List aL)) (f12_:(List Bool)) (f13_:(List Bool)) (f14_:Bool) (self1:Int→M Int):Int→M Int:=fun g1=>
 bif (decide (g1<(s_.length:Int))) then
  need (0≤g1∧g1<(s_.length:Int))<|
  bnd (gZ (s_.getD g1.toNat 0) f0_ f1_ f2_ f3_ f4_ f5_ f6_ f7_ f8_ f9_ f10_ f11_ f12_ f13_ f14_) fun v3=>
  bif v3 then
   ret g1
  else
   need (InI64 (g1+(1:Int)))<|
   self1 (g1+(1:Int))
 else
  ret (-1:Int)
noncomputable def oK (s_:(List Int)) (f0_:(List av)) (f1_:(List aj)) (f2_:Int) (f3_:(List aY)) (f4_:(List cu)) (f5_:(List bM)) (f6_:(List aV)) (f7_:(List Int)) (f8_:(List Int)) (f9_:(List Bool)) (f10_:(List Int)) (f11_:(List aL)) (f12_:(List Bool)) (f13_:(List Bool)) (f14_:Bool):M Int:=
 bR (wo s_ f0_ f1_ f2_ f3_ f4_ f5_ f6_ f7_ f8_ f9_ f10_ f11_ f12_ f13_ f14_) (0:Int)
noncomputable def jl (s_:(List Int)) (f0_:(List av)) (f1_:(List aj)) (f2_:Int) (f3_:(List aY)) (f4_:(List cu)) (f5_:(List bM)) (f6_:(List aV)) (f7_:(List Int)) (f8_:(List Int)) (f9_:(List Bool)) (f10_:(List Int)) (f11_:(List aL)) (f12_:(List Bool)) (f13_:(List Bool)) (f14_:Bool):M Bool:=
 bnd (oK s_ f0_ f1_ f2_ f3_ f4_ f5_ f6_ f7_ f8_ f9_ f10_ f11_ f12_ f13_ f14_) fun v1=>
 ret (decide ((0:Int)≤v1))
noncomputable def jO (s_:dJ):M Bool:=
 bnd (uY s_.aR.cK s_.aK.Powered) fun v1=>
 bif (!v1) then
  ret false
 else
  bnd (jl s_.aI s_.aR.bY s_.aR.bH s_.aR.bE.bT s_.aR.bE.Groups s_.aR.Resets s_.aR.cK s_.bX s_.aI s_.aK.Setting s_.aK.Rails.On s_.aK.Rails.Level s_.aK.Uses s_.aK.Released s_.aK.Powered s_.ji) fun v2=>
  ret (!v2)
noncomputable def fZ (s_:dJ):M Int:=
 need (0≤(0:Int)∧(0:Int)<((8:Nat):Int))<|
 bnd (lC s_) fun v1=>
 bif (!v1) then
  need (InI64 ((0:Int)+(1:Int)))<|
  ret ((0:Int)+(1:Int))
 else
  need (InI64 ((0:Int)+(1:Int)))<|
  need (0≤((0:Int)+(1:Int))∧((0:Int)+(1:Int))<((8:Nat):Int))<|
  bnd (kI s_) fun v2=>
  bif (!v2) then
   need (InI64 (((0:Int)+(1:Int))+(1:Int)))<|
   ret (((0:Int)+(1:Int))+(1:Int))
  else
   need (InI64 (((0:Int)+(1:Int))+(1:Int)))<|
   need (0≤(((0:Int)+(1:Int))+(1:Int))∧(((0:Int)+(1:Int))+(1:Int))<((8:Nat):Int))<|
   bnd (kJ s_) fun v3=>
   bif (!v3) then
    need (InI64 ((((0:Int)+(1:Int))+(1:Int))+(1:Int)))<|
    ret ((((0:Int)+(1:Int))+(1:Int))+(1:Int))
   else
    need (InI64 ((((0:Int)+(1:Int))+(1:Int))+(1:Int)))<|
    need (0≤((((0:Int)+(1:Int))+(1:Int))+(1:Int))∧((((0:Int)+(1:Int))+(1:Int))+(1:Int))<((8:Nat):Int))<|
    bnd (jE s_) fun v4=>
    bif (!v4) then
     need (InI64 (((((0:Int)+(1:Int))+(1:Int))+(1:Int))+(1:Int)))<|
     ret (((((0:Int)+(1:Int))+(1:Int))+(1:Int))+(1:Int))
    else
     need (InI64 (((((0:Int)+(1:Int))+(1:Int))+(1:Int))+(1:Int)))<|
     need (0≤(((((0:Int)+(1:Int))+(1:Int))+(1:Int))+(1:Int))∧(((((0:Int)+(1:Int))+(1:Int))+(1:Int))+(1:Int))<((8:Nat):Int))<|
     bnd (mG s_) fun v5=>
     bif (!v5) then
      need (InI64 ((((((0:Int)+(1:Int))+(1:Int))+(1:Int))+(1:Int))+(1:Int)))<|
      ret ((((((0:Int)+(1:Int))+(1:Int))+(1:Int))+(1:Int))+(1:Int))
     else
      need (InI64 ((((((0:Int)+(1:Int))+(1:Int))+(1:Int))+(1:Int))+(1:Int)))<|
      need (0≤((((((0:Int)+(1:Int))+(1:Int))+(1:Int))+(1:Int))+(1:Int))∧((((((0:Int)+(1:Int))+(1:Int))+(1:Int))+(1:Int))+(1:Int))<((8:Nat):Int))<|
      bnd (jv s_) fun v6=>
      bif (!v6) then
       need (InI64 (((((((0:Int)+(1:Int))+(1:Int))+(1:Int))+(1:Int))+(1:Int))+(1:Int)))<|
       ret (((((((0:Int)+(1:Int))+(1:Int))+(1:Int))+(1:Int))+(1:Int))+(1:Int))
      else
       need (InI64 (((((((0:Int)+(1:Int))+(1:Int))+(1:Int))+(1:Int))+(1:Int))+(1:Int)))<|
       need (0≤(((((((0:Int)+(1:Int))+(1:Int))+(1:Int))+(1:Int))+(1:Int))+(1:Int))∧(((((((0:Int)+(1:Int))+(1:Int))+(1:Int))+(1:Int))+(1:Int))+(1:Int))<((8:Nat):Int))<|
       bnd (kK s_) fun v7=>
       bif (!v7) then
        need (InI64 ((((((((0:Int)+(1:Int))+(1:Int))+(1:Int))+(1:Int))+(1:Int))+(1:Int))+(1:Int)))<|
        ret ((((((((0:Int)+(1:Int))+(1:Int))+(1:Int))+(1:Int))+(1:Int))+(1:Int))+(1:Int))
       else
        need (InI64 ((((((((0:Int)+(1:Int))+(1:Int))+(1:Int))+(1:Int))+(1:Int))+(1:Int))+(1:Int)))<|
        need (0≤((((((((0:Int)+(1:Int))+(1:Int))+(1:Int))+(1:Int))+(1:Int))+(1:Int))+(1:Int))∧((((((((0:Int)+(1:Int))+(1:Int))+(1:Int))+(1:Int))+(1:Int))+(1:Int))+(1:Int))<((8:Nat):Int))<|
        bnd (jO s_) fun v8=>
        bif (!v8) then
         need (InI64 (((((((((0:Int)+(1:Int))+(1:Int))+(1:Int))+(1:Int))+(1:Int))+(1:Int))+(1:Int))+(1:Int)))<|
         ret (((((((((0:Int)+(1:Int))+(1:Int))+(1:Int))+(1:Int))+(1:Int))+(1:Int))+(1:Int))+(1:Int))
        else
         need (InI64 (((((((((0:Int)+(1:Int))+(1:Int))+(1:Int))+(1:Int))+(1:Int))+(1:Int))+(1:Int))+(1:Int)))<|
         ret (0:Int)
noncomputable def nH (at_:Int) (x_:Int) (o0_:(List Int)):M (Bool×(List Int)):=
 bif ((decide (at_<(0:Int)))||(decide ((o0_.length:Int)≤at_))) then
  ret (false,o0_)
 else
  need (0≤at_∧at_<(o0_.length:Int))<|
  ret (true,(o0_.set (at_.toNat) x_))
noncomputable def j3 (at_:Int) (x_:Bool) (o0_:(List Bool)):M (Bool×(List Bool)):=
 bif ((decide (at_<(0:Int)))||(decide ((o0_.length:Int)≤at_))) then
  ret (false,o0_)
 else
  need (0≤at_∧at_<(o0_.length:Int))<|
  ret (true,(o0_.set (at_.toNat) x_))
noncomputable def nI (u_:aL) (a10_:Int) (a11_:Int) (a12_:Int):M Bool:=
 ret (u_.Use.eH==a11_)
noncomputable def tL (s_:(List aL)) (f0_:Int) (f1_:Int) (f2_:Int) (self1:Int→M Int):Int→M Int:=fun g1=>
 bif (decide (g1<(s_.length:Int))) then
  need (0≤g1∧g1<(s_.length:Int))<|
  bnd (nI (⟨(s_.getD g1.toNat bS).Device,((s_.getD g1.toNat bS).Use)⟩:aL) f0_ f1_ f2_) fun v3=>
  bif v3 then
   ret g1
  else
   need (InI64 (g1+(1:Int)))<|
   self1 (g1+(1:Int))
 else
  ret (-1:Int)
noncomputable def jy (s_:(List aL)) (f0_:Int) (f1_:Int) (f2_:Int):M Int:=
 bR (tL s_ f0_ f1_ f2_) (0:Int)
noncomputable def gX (s_:Nat) (i_:Int) (j_:Int) (o0_:(List aL)):M (Nat×(List aL)):=
 need (s_≤o0_.length)<|
 need (0≤i_∧i_≤j_∧j_≤((s_:Nat):Int)∧((s_:Nat):Int)≤((s_:Nat):Int))<|
 bif (i_==j_) then
  ret (s_,o0_)
 else
  need (0≤i_∧((0:Nat):Int)+i_≤(o0_.length:Int))<|
  need (0≤j_∧j_≤((s_:Nat):Int))<|
  need ((0+i_.toNat)+(s_ - j_.toNat)≤o0_.length)<|
  need (0≤(((i_.toNat+(s_ - j_.toNat)):Nat):Int)∧(((i_.toNat+(s_ - j_.toNat)):Nat):Int)≤((s_:Nat):Int)∧((0:Nat):Int)+((s_:Nat):Int)≤(o0_.length:Int))<|
  ret ((i_.toNat+(s_ - j_.toNat)),(Lg (Lg o0_ ((0+i_.toNat)) ((o0_.drop ((0+j_.toNat))).take ((s_ - j_.toNat)))) ((0+(((i_.toNat+(s_ - j_.toNat)):Nat):Int).toNat)) (List.replicate ((((s_:Nat):Int).toNat - (((i_.toNat+(s_ - j_.toNat)):Nat):Int).toNat)) bS)))
noncomputable def jm (w_:dP) (o1_:(List Int)) (o2_:(List Bool)) (o3_:(List Int)) (o5_:(List Bool)) (o6_:(List Bool)):(Nat×(List aL))→M (Bool×Nat×(List Int)×(List Bool)×(List Int)×(List Bool)×(List Bool)×(List aL)):=fun g1=>
 need (g1.1≤g1.2.length)<|
 bif (decide ((0:Int)<w_.Value)) then
  need (InI64 (w_.Value - (1:Int)))<|
  need ((g1.1+1)*24≤big)<|
  ret (true,(g1.1+1),o1_,o2_,o3_,o5_,o6_,((g1.2.take (g1.1))++([(⟨(-1:Int),(⟨w_.Unit,(w_.Value - (1:Int))⟩:ql)⟩:aL)]:List aL)))
 else
  ret (true,g1.1,o1_,o2_,o3_,o5_,o6_,g1.2)
noncomputable def pG (w_:dP) (o0x0_:(List av)) (o0x1_:(List aj)) (o0x2_:Int) (o0x3_:(List aY)) (o0x4_:(List cu)) (o0x5_:(List bM)) (o0x6_:(List aV)) (o0x7_:(List Int)) (o0x8_:Nat) (o0x9_:Bool) (o1_:(List Int)) (o2_:(List Bool)) (o3_:(List Int)) (o4_:(List aL)) (o5_:(List Bool)) (o6_:(List Bool)):M (Bool×Nat×(List Int)×(List Bool)×(List Int)×(List Bool)×(List Bool)×(List aL)):=
 need (o0x8_≤o4_.length)<|
 bif (decide (w_.Value<(0:Int))) then
  ret (false,o0x8_,o1_,o2_,o3_,o5_,o6_,o4_)
 else
  bif (w_.Kind==(1:Int)) then
   bnd (nH w_.Unit w_.Value o1_) fun v1=>
   need (v1.2.length=o1_.length)<|
   ret (v1.1,o0x8_,v1.2,o2_,o3_,o5_,o6_,o4_)
  else
   bif (w_.Kind==(2:Int)) then
    bnd (nH w_.Unit w_.Value o3_) fun v2=>
    need (v2.2.length=o3_.length)<|
    ret (v2.1,o0x8_,o1_,o2_,v2.2,o5_,o6_,o4_)
   else
    bif (w_.Kind==(3:Int)) then
     bif ((decide (w_.Value≤(1:Int)))==true) then
      bnd (j3 w_.Unit (w_.Value==(1:Int)) o2_) fun v3=>
      need (v3.2.length=o2_.length)<|
      ret (((decide (w_.Value≤(1:Int)))&&v3.1),o0x8_,o1_,v3.2,o3_,o5_,o6_,o4_)
     else
      need ((decide (w_.Value≤(1:Int)))=false)<|
      ret (false,o0x8_,o1_,o2_,o3_,o5_,o6_,o4_)
    else
     bif (w_.Kind==(11:Int)) then
      bif ((decide (w_.Value≤(1:Int)))==true) then
       bnd (j3 w_.Unit (w_.Value==(1:Int)) o5_) fun v4=>
       need (v4.2.length=o5_.length)<|
       ret (((decide (w_.Value≤(1:Int)))&&v4.1),o0x8_,o1_,o2_,o3_,v4.2,o6_,o4_)
      else
       need ((decide (w_.Value≤(1:Int)))=false)<|
       ret (false,o0x8_,o1_,o2_,o3_,o5_,o6_,o4_)
     else
      bif (w_.Kind==(12:Int)) then
       bif ((decide (w_.Value≤(1:Int)))==true) then
        bnd (j3 w_.Unit (w_.Value==(1:Int)) o6_) fun v5=>
        need (v5.2.length=o6_.length)<|
        ret (((decide (w_.Value≤(1:Int)))&&v5.1),o0x8_,o1_,o2_,o3_,o5_,v5.2,o4_)
       else
        need ((decide (w_.Value≤(1:Int)))=false)<|
        ret (false,o0x8_,o1_,o2_,o3_,o5_,o6_,o4_)
      else
       bif (w_.Kind==(10:Int)) then
        bnd (jZ w_.Unit (0:Int) (23:Int)) fun v6=>
        bif (!v6) then
         ret (false,o0x8_,o1_,o2_,o3_,o5_,o6_,o4_)
        else
         bnd (jy (o4_.take (o0x8_)) w_.Kind w_.Unit w_.Value) fun v9=>
         bif (decide ((0:Int)≤v9)) then
          need (InI64 (v9+(1:Int)))<|
          bnd (gX o0x8_ v9 (v9+(1:Int)) o4_) fun v10=>
          need (v10.2.length=o4_.length∧v10.1≤v10.2.length)<|
          (jm w_ o1_ o2_ o3_ o5_ o6_) (v10.1,v10.2)
         else
          (jm w_ o1_ o2_ o3_ o5_ o6_) (o0x8_,o4_)
       else
        ret (false,o0x8_,o1_,o2_,o3_,o5_,o6_,o4_)
noncomputable def BD (b_:bQ) (l_:(List aV)) (members_:(List Int)) (w_:(List dP)) (self1:(Int×Nat×(List Int)×(List Bool)×(List Int)×(List aL)×(List Bool)×(List Bool))→M (bq×Int×Int×Int)):(Int×Nat×(List Int)×(List Bool)×(List Int)×(List aL)×(List Bool)×(List Bool))→M (bq×Int×Int×Int):=fun g1=>
 need (g1.2.1≤g1.2.2.2.2.2.1.length)<|
 bif (decide (g1.1<(w_.length:Int))) then
  need (0≤g1.1∧g1.1<(w_.length:Int))<|
  bnd (pG (w_.getD g1.1.toNat tu) b_.bY b_.bH b_.bE.bT b_.bE.Groups b_.Resets b_.cK l_ members_ g1.2.1 true g1.2.2.1 g1.2.2.2.1 g1.2.2.2.2.1 g1.2.2.2.2.2.1 g1.2.2.2.2.2.2.1 g1.2.2.2.2.2.2.2) fun v9=>
  need (v9.2.2.1.length=g1.2.2.1.length∧v9.2.2.2.1.length=g1.2.2.2.1.length∧v9.2.2.2.2.1.length=g1.2.2.2.2.1.length∧v9.2.2.2.2.2.1.length=g1.2.2.2.2.2.2.1.length∧v9.2.2.2.2.2.2.1.length=g1.2.2.2.2.2.2.2.length∧v9.2.1≤v9.2.2.2.2.2.2.2.length)<|
  bif (!v9.1) then
   ret ((⟨([]:List Int),(⟨([]:List Bool),([]:List Int)⟩:bF),([]:List aL),([]:List Bool),([]:List Bool)⟩:bq),(0:Int),(0:Int),(2:Int))
  else
   bnd (fZ (⟨b_,l_,members_,(⟨v9.2.2.1,(⟨v9.2.2.2.1,v9.2.2.2.2.1⟩:bF),(v9.2.2.2.2.2.2.2.take (v9.2.1)),v9.2.2.2.2.2.1,v9.2.2.2.2.2.2.1⟩:bq),true⟩:dJ)) fun v10=>
   bif (v10 != (0:Int)) then
    ret ((⟨v9.2.2.1,(⟨v9.2.2.2.1,v9.2.2.2.2.1⟩:bF),(v9.2.2.2.2.2.2.2.take (v9.2.1)),v9.2.2.2.2.2.1,v9.2.2.2.2.2.2.1⟩:bq),g1.1,v10,(0:Int))
   else
    need (InI64 (g1.1+(1:Int)))<|
    self1 ((g1.1+(1:Int)),v9.2.1,v9.2.2.1,v9.2.2.2.1,v9.2.2.2.2.1,v9.2.2.2.2.2.2.2,v9.2.2.2.2.2.1,v9.2.2.2.2.2.2.1)
 else
  ret ((⟨g1.2.2.1,(⟨g1.2.2.2.1,g1.2.2.2.2.1⟩:bF),(g1.2.2.2.2.2.1.take (g1.2.1)),g1.2.2.2.2.2.2.1,g1.2.2.2.2.2.2.2⟩:bq),(w_.length:Int),(0:Int),(0:Int))
noncomputable def l5 (b_:bQ) (l_:(List aV)) (members_:(List Int)) (g_:bq) (w_:(List dP)):M (bq×Int×Int×Int):=
 bnd (qQ b_ l_) fun v1=>
 bif (v1 != (0:Int)) then
  ret ((⟨([]:List Int),(⟨([]:List Bool),([]:List Int)⟩:bF),([]:List aL),([]:List Bool),([]:List Bool)⟩:bq),(0:Int),(0:Int),v1)
 else
  bnd (iP l_ members_) fun v2=>
  bif (!v2) then
   ret ((⟨([]:List Int),(⟨([]:List Bool),([]:List Int)⟩:bF),([]:List aL),([]:List Bool),([]:List Bool)⟩:bq),(0:Int),(0:Int),(2:Int))
  else
   bnd (EX g_) fun v3=>
   bnd (fZ (⟨b_,l_,members_,(⟨v3.1,(⟨v3.2.1,v3.2.2.1⟩:bF),v3.2.2.2.1,v3.2.2.2.2.1,v3.2.2.2.2.2⟩:bq),true⟩:dJ)) fun v4=>
   bif (v4 != (0:Int)) then
    ret ((⟨v3.1,(⟨v3.2.1,v3.2.2.1⟩:bF),v3.2.2.2.1,v3.2.2.2.2.1,v3.2.2.2.2.2⟩:bq),(-1:Int),v4,(0:Int))
   else
    bR (BD b_ l_ members_ w_) ((0:Int),v3.2.2.2.1.length,v3.1,v3.2.1,v3.2.2.1,v3.2.2.2.1,v3.2.2.2.2.1,v3.2.2.2.2.2)
def qU:M Bool:=fun r=>r=true
noncomputable def EZ (l_:(List Int)):M ((List Int)×Int):=
 need (0≤(if (600:Int)<(l_.length:Int) then (600:Int) else (l_.length:Int))∧(if (600:Int)<(l_.length:Int) then (600:Int) else (l_.length:Int))≤(l_.length:Int))<|
 ret ((l_.take ((if (600:Int)<(l_.length:Int) then (600:Int) else (l_.length:Int)).toNat)),(0:Int))
noncomputable def E5 (x_:Int) (n_:Int):M Int:=
 bif (decide (n_<(1:Int))) then
  ret (0:Int)
 else
  need (n_≠0)<|
  need (InI64 ((x_.tmod n_)+n_))<|
  need (n_≠0)<|
  ret (((x_.tmod n_)+n_).tmod n_)
noncomputable def bI (n_:Int) (o0_:aZ):M (Int×aZ):=
 bif (decide ((o0_.L.length:Int)≤o0_.At)) then
  ret ((0:Int),o0_)
 else
  need (InI64 (o0_.At+(1:Int)))<|
  need (InI64 ((o0_.At+(1:Int)) - (1:Int)))<|
  need (0≤((o0_.At+(1:Int)) - (1:Int))∧((o0_.At+(1:Int)) - (1:Int))<(o0_.L.length:Int))<|
  bnd (E5 (o0_.L.getD (((o0_.At+(1:Int)) - (1:Int)).toNat) 0) n_) fun v1=>
  ret (v1,(⟨o0_.L,(o0_.At+(1:Int))⟩:aZ))
noncomputable def dI (l_:(List Int)) (o0_:aZ):M (Int×aZ):=
 bnd (bI (l_.length:Int) o0_) fun v1=>
 need (0≤v1.1∧v1.1<(l_.length:Int))<|
 ret ((l_.getD v1.1.toNat 0),v1.2)
noncomputable def bK (g1:(Int×(List Int)×Int×(List av))) (self1:(Int×(List Int)×Int×(List av))→M ((List av)×aZ)):((List Int)×Int×Int×Int×(List Int)×(List Int))→M ((List av)×aZ):=fun g7=>
 need ((g1.2.2.2.length+1)*72≤big)<|
 need (InI64 (g1.1 - (1:Int)))<|
 self1 ((g1.1 - (1:Int)),g7.1,g7.2.1,(g1.2.2.2++([(⟨g7.2.2.1,g7.2.2.2.2.1,g7.2.2.2.2.2,(0:Int),g7.2.2.2.1⟩:av)]:List av)))
noncomputable def dA (g1:(Int×(List Int)×Int×(List av))) (self1:(Int×(List Int)×Int×(List av))→M ((List av)×aZ)):((List Int)×Int×Int×(List Int)×(List Int))→M ((List av)×aZ):=fun g8=>
 bnd (bI (6:Int) (⟨g8.1,g8.2.1⟩:aZ)) fun v47=>
 bif (v47.1==(5:Int)) then
  bnd (dI ([(24:Int),(48:Int),(96:Int)]:List Int) v47.2) fun v48=>
  (bK g1 self1) (v48.2.L,v48.2.At,g8.2.2.1,v48.1,g8.2.2.2.1,g8.2.2.2.2)
 else
  (bK g1 self1) (v47.2.L,v47.2.At,g8.2.2.1,(0:Int),g8.2.2.2.1,g8.2.2.2.2)
noncomputable def uw (self1:(Int×(List Int)×Int×(List av))→M ((List av)×aZ)):(Int×(List Int)×Int×(List av))→M ((List av)×aZ):=fun g1=>
 bif (decide ((0:Int)<g1.1)) then
  bnd (dI ([(12:Int),(24:Int),(48:Int),(100:Int)]:List Int) (⟨g1.2.1,g1.2.2.1⟩:aZ)) fun v28=>
  bif ((decide ((0:Int)<(g1.2.2.2.length:Int)))==true) then
   bnd (bI (4:Int) v28.2) fun v41=>
   bif ((decide ((0:Int)<(g1.2.2.2.length:Int)))&&(decide ((0:Int)<v41.1))) then
    bnd (bI (g1.2.2.2.length:Int) v41.2) fun v42=>
    bnd (bI (4:Int) v42.2) fun v49=>
    bif (v49.1==(0:Int)) then
     bnd (dI ([(3:Int),(4:Int),(8:Int)]:List Int) v49.2) fun v50=>
     (dA g1 self1) (v50.2.L,v50.2.At,(2:Int),([v42.1]:List Int),([(1:Int),(2:Int),v50.1]:List Int))
    else
     bif (v49.1==(1:Int)) then
      bnd (dI ([(2:Int),(3:Int)]:List Int) v49.2) fun v51=>
      (dA g1 self1) (v51.2.L,v51.2.At,(3:Int),([v42.1]:List Int),([(1:Int),v51.1]:List Int))
     else
      bif (v49.1==(2:Int)) then
       (dA g1 self1) (v49.2.L,v49.2.At,(5:Int),([v42.1]:List Int),([(0:Int),(1:Int)]:List Int))
      else
       bif (decide ((1:Int)<(g1.2.2.2.length:Int))) then
        need (InI64 ((g1.2.2.2.length:Int) - (1:Int)))<|
        bnd (bI ((g1.2.2.2.length:Int) - (1:Int)) v49.2) fun v52=>
        need (InI64 (v52.1+(1:Int)))<|
        (dA g1 self1) (v52.2.L,v52.2.At,(4:Int),([v52.1,(v52.1+(1:Int))]:List Int),([(0:Int),(1:Int)]:List Int))
       else
        (dA g1 self1) (v49.2.L,v49.2.At,(2:Int),([v42.1]:List Int),([(2:Int),(1:Int)]:List Int))
   else
    (bK g1 self1) (v41.2.L,v41.2.At,(1:Int),(0:Int),([]:List Int),([v28.1]:List Int))
  else
   need ((decide ((0:Int)<(g1.2.2.2.length:Int)))=false)<|
   (bK g1 self1) (v28.2.L,v28.2.At,(1:Int),(0:Int),([]:List Int),([v28.1]:List Int))
 else
  ret (g1.2.2.2,(⟨g1.2.1,g1.2.2.1⟩:aZ))
noncomputable def mH (o0_:aZ):M ((List av)×aZ):=
 bnd (bI (6:Int) o0_) fun v1=>
 bR uw (v1.1,v1.2.L,v1.2.At,([]:List av))
noncomputable def eY (lo_:Int) (hi_:Int) (o0_:aZ):M (Int×aZ):=
 need (InI64 (hi_ - lo_))<|
 need (InI64 ((hi_ - lo_)+(1:Int)))<|
 bnd (bI ((hi_ - lo_)+(1:Int)) o0_) fun v1=>
 need (InI64 (lo_+v1.1))<|
 ret ((lo_+v1.1),v1.2)
noncomputable def ig (g1:(Int×(List Int)×Int×(List aj))) (self1:(Int×(List Int)×Int×(List aj))→M ((List aj)×aZ)) (v12:(Int×aZ)) (v14:(Int×aZ)) (v15:(Int×aZ)):Int→M ((List aj)×aZ):=fun g4=>
 bnd (bI (5:Int) v15.2) fun v16=>
 need (0≤v16.1∧v16.1<((5:Nat):Int))<|
 bif (v16.1==(0:Int)) then
  need ((g1.2.2.2.length+1)*56≤big)<|
  need (InI64 (g1.1 - (1:Int)))<|
  self1 ((g1.1 - (1:Int)),v16.2.L,v16.2.At,(g1.2.2.2++([(⟨v12.1,([(1000:Int),(1200:Int)]:List Int),g4,v14.1,(v15.1==(7:Int))⟩:aj)]:List aj)))
 else
  bif (v16.1==(1:Int)) then
   need ((g1.2.2.2.length+1)*56≤big)<|
   need (InI64 (g1.1 - (1:Int)))<|
   self1 ((g1.1 - (1:Int)),v16.2.L,v16.2.At,(g1.2.2.2++([(⟨v12.1,([(1800:Int),(3300:Int)]:List Int),g4,v14.1,(v15.1==(7:Int))⟩:aj)]:List aj)))
  else
   bif (v16.1==(2:Int)) then
    need ((g1.2.2.2.length+1)*56≤big)<|
    need (InI64 (g1.1 - (1:Int)))<|
    self1 ((g1.1 - (1:Int)),v16.2.L,v16.2.At,(g1.2.2.2++([(⟨v12.1,([(1000:Int),(1800:Int),(3300:Int)]:List Int),g4,v14.1,(v15.1==(7:Int))⟩:aj)]:List aj)))
   else
    bif (v16.1==(3:Int)) then
     need ((g1.2.2.2.length+1)*56≤big)<|
     need (InI64 (g1.1 - (1:Int)))<|
     self1 ((g1.1 - (1:Int)),v16.2.L,v16.2.At,(g1.2.2.2++([(⟨v12.1,([(3300:Int),(5000:Int)]:List Int),g4,v14.1,(v15.1==(7:Int))⟩:aj)]:List aj)))
    else
     need ((g1.2.2.2.length+1)*56≤big)<|
     need (InI64 (g1.1 - (1:Int)))<|
     self1 ((g1.1 - (1:Int)),v16.2.L,v16.2.At,(g1.2.2.2++([(⟨v12.1,([(900:Int)]:List Int),g4,v14.1,(v15.1==(7:Int))⟩:aj)]:List aj)))
noncomputable def qB (self1:(Int×(List Int)×Int×(List aj))→M ((List aj)×aZ)):(Int×(List Int)×Int×(List aj))→M ((List aj)×aZ):=fun g1=>
 bif (decide ((0:Int)<g1.1)) then
  need (InI64 ((g1.2.2.2.length:Int) - (1:Int)))<|
  bnd (eY (-1:Int) ((g1.2.2.2.length:Int) - (1:Int)) (⟨g1.2.1,g1.2.2.1⟩:aZ)) fun v12=>
  bnd (dI ([(0:Int),(0:Int),(100:Int),(300:Int)]:List Int) v12.2) fun v13=>
  bnd (dI ([(100:Int),(300:Int),(1000:Int)]:List Int) v13.2) fun v14=>
  bnd (bI (8:Int) v14.2) fun v15=>
  bif (decide (v12.1<(0:Int))) then
   (ig g1 self1 v12 v14 v15) (0:Int)
  else
   (ig g1 self1 v12 v14 v15) v13.1
 else
  ret (g1.2.2.2,(⟨g1.2.1,g1.2.2.1⟩:aZ))
noncomputable def kL (o0_:aZ):M ((List aj)×aZ):=
 bnd (bI (4:Int) o0_) fun v1=>
 bR qB (v1.1,v1.2.L,v1.2.At,([]:List aj))
noncomputable def ku:M (List ByteArray):=
 ret ([({ data:=#[117,97,114,116] }:ByteArray),({ data:=#[115,112,105] }:ByteArray),({ data:=#[105,50,99] }:ByteArray),({ data:=#[112,119,109] }:ByteArray)]:List ByteArray)
noncomputable def eU (g1:(Int×(List Int)×Int×(List aY))) (self1:(Int×(List Int)×Int×(List aY))→M (bB×aZ)) (g13:(List Int)):((List Int)×Int×(List ByteArray))→M (bB×aZ):=fun g14=>
 need ((g1.2.2.2.length+1)*64≤big)<|
 need (InI64 (g1.1 - (1:Int)))<|
 self1 ((g1.1 - (1:Int)),g14.1,g14.2.1,(g1.2.2.2++([(⟨(({ data:=#[103] }:ByteArray)++(strOf ([(IntKind.u8.wrap ((97:Int)+(g1.2.2.2.length:Int)))]:List Int))),g13,g14.2.2⟩:aY)]:List aY)))
noncomputable def iH (g1:(Int×(List Int)×Int×(List aY))) (self1:(Int×(List Int)×Int×(List aY))→M (bB×aZ)) (v38:(Int×aZ)):(List Int)→M (bB×aZ):=fun g13=>
 bnd (bI (4:Int) v38.2) fun v39=>
 bnd (ku) fun v40=>
 need (0≤v39.1∧v39.1<(v40.length:Int))<|
 bnd (bI (2:Int) v39.2) fun v43=>
 bif (v43.1==(1:Int)) then
  bnd (ku) fun v44=>
  need (InI64 (v39.1+(1:Int)))<|
  need ((4:Int)≠0)<|
  need (0≤((v39.1+(1:Int)).tmod (4:Int))∧((v39.1+(1:Int)).tmod (4:Int))<(v44.length:Int))<|
  need ((1+1)*16≤big)<|
  (eU g1 self1 g13) (v43.2.L,v43.2.At,(([(v40.getD v39.1.toNat ByteArray.empty)]:List ByteArray)++([(v44.getD (((v39.1+(1:Int)).tmod (4:Int)).toNat) ByteArray.empty)]:List ByteArray)))
 else
  (eU g1 self1 g13) (v43.2.L,v43.2.At,([(v40.getD v39.1.toNat ByteArray.empty)]:List ByteArray))
noncomputable def dX (g1:(Int×(List Int)×Int×(List aY))) (self1:(Int×(List Int)×Int×(List aY))→M (bB×aZ)) (g15:(List Int)):((List Int)×Int×(List ByteArray))→M (bB×aZ):=fun g16=>
 need ((g1.2.2.2.length+1)*64≤big)<|
 need (InI64 (g1.1 - (1:Int)))<|
 self1 ((g1.1 - (1:Int)),g16.1,g16.2.1,(g1.2.2.2++([(⟨(({ data:=#[103] }:ByteArray)++(strOf ([(IntKind.u8.wrap ((97:Int)+(g1.2.2.2.length:Int)))]:List Int))),g15,g16.2.2⟩:aY)]:List aY)))
noncomputable def gN (g1:(Int×(List Int)×Int×(List aY))) (self1:(Int×(List Int)×Int×(List aY))→M (bB×aZ)) (g12:(Int×(List Int)×Int×(List Int))):(List Int)→M (bB×aZ):=fun g15=>
 bnd (bI (4:Int) (⟨g12.2.1,g12.2.2.1⟩:aZ)) fun v45=>
 bnd (ku) fun v46=>
 need (0≤v45.1∧v45.1<(v46.length:Int))<|
 bnd (bI (2:Int) v45.2) fun v49=>
 bif (v49.1==(1:Int)) then
  bnd (ku) fun v50=>
  need (InI64 (v45.1+(1:Int)))<|
  need ((4:Int)≠0)<|
  need (0≤((v45.1+(1:Int)).tmod (4:Int))∧((v45.1+(1:Int)).tmod (4:Int))<(v50.length:Int))<|
  need ((1+1)*16≤big)<|
  (dX g1 self1 g15) (v49.2.L,v49.2.At,(([(v46.getD v45.1.toNat ByteArray.empty)]:List ByteArray)++([(v50.getD (((v45.1+(1:Int)).tmod (4:Int)).toNat) ByteArray.empty)]:List ByteArray)))
 else
  (dX g1 self1 g15) (v49.2.L,v49.2.At,([(v46.getD v45.1.toNat ByteArray.empty)]:List ByteArray))
noncomputable def uy (v1:(Int×aZ)) (g1:(Int×(List Int)×Int×(List aY))) (self1:(Int×(List Int)×Int×(List aY))→M (bB×aZ)) (v35:(Int×aZ)) (self12:(Int×(List Int)×Int×(List Int))→M (bB×aZ)):(Int×(List Int)×Int×(List Int))→M (bB×aZ):=fun g12=>
 bif ((decide (g12.1<v1.1))==true) then
  bnd (eY (1:Int) (2:Int) (⟨g12.2.1,g12.2.2.1⟩:aZ)) fun v38=>
  need ((decide (g12.1<v1.1))=true→InI64 (v35.1+v38.1))<|
  bif ((decide (g12.1<v1.1))&&(decide (g12.1<(v35.1+v38.1)))) then
   need ((g12.2.2.2.length+1)*8≤big)<|
   need (InI64 (g12.1+(1:Int)))<|
   self12 ((g12.1+(1:Int)),v38.2.L,v38.2.At,(g12.2.2.2++([g12.1]:List Int)))
  else
   bif ((g12.2.2.2.length:Int)==(0:Int)) then
    (iH g1 self1 v38) ([v35.1]:List Int)
   else
    (iH g1 self1 v38) g12.2.2.2
 else
  need ((decide (g12.1<v1.1))=false)<|
  bif ((g12.2.2.2.length:Int)==(0:Int)) then
   (gN g1 self1 g12) ([v35.1]:List Int)
  else
   (gN g1 self1 g12) g12.2.2.2
noncomputable def uz (v1:(Int×aZ)) (self1:(Int×(List Int)×Int×(List aY))→M (bB×aZ)):(Int×(List Int)×Int×(List aY))→M (bB×aZ):=fun g1=>
 bif (decide ((0:Int)<g1.1)) then
  need (InI64 ((97:Int)+(g1.2.2.2.length:Int)))<|
  need (({ data:=#[103] }:ByteArray).size+(strOf ([(IntKind.u8.wrap ((97:Int)+(g1.2.2.2.length:Int)))]:List Int)).size≤9223372036854775807)<|
  bnd (bI v1.1 (⟨g1.2.1,g1.2.2.1⟩:aZ)) fun v35=>
  bR (uy v1 g1 self1 v35) (v35.1,v35.2.L,v35.2.At,([]:List Int))
 else
  ret ((⟨v1.1,g1.2.2.2⟩:bB),(⟨g1.2.1,g1.2.2.1⟩:aZ))
noncomputable def mI (o0_:aZ):M (bB×aZ):=
 bnd (eY (3:Int) (9:Int) o0_) fun v1=>
 bnd (bI (6:Int) v1.2) fun v2=>
 bR (uz v1) (v2.1,v2.2.L,v2.2.At,([]:List aY))
noncomputable def xH (n_:Int) (k_:Int) (self1:(Int×(List Int)×Int×(List Int))→M ((List Int)×aZ)):(Int×(List Int)×Int×(List Int))→M ((List Int)×aZ):=fun g1=>
 bif (decide (g1.1<n_)) then
  bnd (bI k_ (⟨g1.2.1,g1.2.2.1⟩:aZ)) fun v3=>
  need (InI64 (k_ - (1:Int)))<|
  bif (v3.1==(k_ - (1:Int))) then
   need ((g1.2.2.2.length+1)*8≤big)<|
   need (InI64 (g1.1+(1:Int)))<|
   self1 ((g1.1+(1:Int)),v3.2.L,v3.2.At,(g1.2.2.2++([g1.1]:List Int)))
  else
   need (InI64 (g1.1+(1:Int)))<|
   self1 ((g1.1+(1:Int)),v3.2.L,v3.2.At,g1.2.2.2)
 else
  ret (g1.2.2.2,(⟨g1.2.1,g1.2.2.1⟩:aZ))
noncomputable def j4 (n_:Int) (k_:Int) (o0_:aZ):M ((List Int)×aZ):=
 bR (xH n_ k_) ((0:Int),o0_.L,o0_.At,([]:List Int))
noncomputable def uD (self1:(Int×(List Int)×Int×(List cu))→M ((List cu)×aZ)):(Int×(List Int)×Int×(List cu))→M ((List cu)×aZ):=fun g1=>
 bif (decide ((0:Int)<g1.1)) then
  bnd (j4 (g1.2.2.2.length:Int) (3:Int) (⟨g1.2.1,g1.2.2.1⟩:aZ)) fun v4=>
  need ((g1.2.2.2.length+1)*24≤big)<|
  need (InI64 (g1.1 - (1:Int)))<|
  self1 ((g1.1 - (1:Int)),v4.2.L,v4.2.At,(g1.2.2.2++([(⟨v4.1⟩:cu)]:List cu)))
 else
  ret (g1.2.2.2,(⟨g1.2.1,g1.2.2.1⟩:aZ))
noncomputable def mJ (most_:Int) (o0_:aZ):M ((List cu)×aZ):=
 need (InI64 (most_+(1:Int)))<|
 bnd (bI (most_+(1:Int)) o0_) fun v1=>
 bR uD (v1.1,v1.2.L,v1.2.At,([]:List cu))
noncomputable def sJ (self1:(Int×(List Int)×Int×(List bM))→M ((List bM)×aZ)):(Int×(List Int)×Int×(List bM))→M ((List bM)×aZ):=fun g1=>
 bif (decide ((0:Int)<g1.1)) then
  need (InI64 ((g1.2.2.2.length:Int) - (1:Int)))<|
  bnd (eY (-1:Int) ((g1.2.2.2.length:Int) - (1:Int)) (⟨g1.2.1,g1.2.2.1⟩:aZ)) fun v6=>
  bnd (bI (8:Int) v6.2) fun v7=>
  need ((g1.2.2.2.length+1)*16≤big)<|
  need (InI64 (g1.1 - (1:Int)))<|
  self1 ((g1.1 - (1:Int)),v7.2.L,v7.2.At,(g1.2.2.2++([(⟨v6.1,(v7.1==(7:Int))⟩:bM)]:List bM)))
 else
  ret (g1.2.2.2,(⟨g1.2.1,g1.2.2.1⟩:aZ))
noncomputable def lF (most_:Int) (o0_:aZ):M ((List bM)×aZ):=
 need (InI64 (most_+(1:Int)))<|
 bnd (bI (most_+(1:Int)) o0_) fun v1=>
 bR sJ (v1.1,v1.2.L,v1.2.At,([]:List bM))
noncomputable def nQ (o0_:aZ):M (bQ×aZ):=
 bnd (mH o0_) fun v1=>
 bnd (kL v1.2) fun v2=>
 bnd (mI v2.2) fun v3=>
 bnd (mJ (4:Int) v3.2) fun v4=>
 bnd (lF (4:Int) v4.2) fun v5=>
 ret ((⟨v1.1,v2.1,v3.1,v4.1,v5.1⟩:bQ),v5.2)
noncomputable def nR (b_:bQ) (o0_:aZ):M (bC×aZ):=
 bnd (bI (b_.bY.length:Int) o0_) fun v1=>
 bnd (dI ([(0:Int),(0:Int),(6:Int),(12:Int),(24:Int)]:List Int) v1.2) fun v2=>
 bnd (dI ([(24:Int),(48:Int),(100:Int),(300:Int)]:List Int) v2.2) fun v3=>
 ret ((⟨v1.1,v2.1,v3.1⟩:bC),v3.2)
noncomputable def pI (b_:bQ) (o0_:aZ):M (aM×aZ):=
 bnd (bI (b_.bH.length:Int) o0_) fun v1=>
 bnd (dI ([(0:Int),(900:Int),(1000:Int),(1800:Int)]:List Int) v1.2) fun v2=>
 bnd (dI ([(1800:Int),(3300:Int),(5000:Int)]:List Int) v2.2) fun v3=>
 bnd (dI ([(0:Int),(10:Int),(50:Int),(200:Int)]:List Int) v3.2) fun v4=>
 ret ((⟨v1.1,v2.1,v3.1,v4.1⟩:aM),v4.2)
noncomputable def pJ (l_:(List ByteArray)) (o0_:aZ):M (ByteArray×aZ):=
 bnd (bI (l_.length:Int) o0_) fun v1=>
 need (0≤v1.1∧v1.1<(l_.length:Int))<|
 ret ((l_.getD v1.1.toNat ByteArray.empty),v1.2)
noncomputable def sK (self1:(Int×(List Int)×Int×(List ByteArray))→M ((List ByteArray)×aZ)):(Int×(List Int)×Int×(List ByteArray))→M ((List ByteArray)×aZ):=fun g1=>
 bif (decide ((0:Int)<g1.1)) then
  bnd (ku) fun v6=>
  bnd (pJ v6 (⟨g1.2.1,g1.2.2.1⟩:aZ)) fun v7=>
  need ((g1.2.2.2.length+1)*16≤big)<|
  need (InI64 (g1.1 - (1:Int)))<|
  self1 ((g1.1 - (1:Int)),v7.2.L,v7.2.At,(g1.2.2.2++([v7.1]:List ByteArray)))
 else
  ret (g1.2.2.2,(⟨g1.2.1,g1.2.2.1⟩:aZ))
noncomputable def lG (most_:Int) (o0_:aZ):M ((List ByteArray)×aZ):=
 need (InI64 (most_+(1:Int)))<|
 bnd (bI (most_+(1:Int)) o0_) fun v1=>
 bR sK (v1.1,v1.2.L,v1.2.At,([]:List ByteArray))
noncomputable def iq (g1:(Int×(List Int)×Int×(List aV))) (self1:(Int×(List Int)×Int×(List aV))→M ((List aV)×aZ)) (v46:(Int×aZ)) (g14:((List Int)×Int×(List bC))) (g15:((List Int)×Int×(List aM))) (g16:((List Int)×Int×(List ByteArray))) (v53:((List Int)×aZ)):((List Int)×Int×(List Int))→M ((List aV)×aZ):=fun g18=>
 need ((g1.2.2.2.length+1)*128≤big)<|
 need (InI64 (g1.1+(1:Int)))<|
 self1 ((g1.1+(1:Int)),g18.1,g18.2.1,(g1.2.2.2++([(⟨g14.2.2,g15.2.2,g16.2.2,v53.1,v46.1,g18.2.2⟩:aV)]:List aV)))
noncomputable def iw (g1:(Int×(List Int)×Int×(List aV))) (self1:(Int×(List Int)×Int×(List aV))→M ((List aV)×aZ)) (v46:(Int×aZ)) (g14:((List Int)×Int×(List bC))) (g15:((List Int)×Int×(List aM))) (g16:((List Int)×Int×(List ByteArray))) (v53:((List Int)×aZ)):(Int×(List Int)×Int)→M ((List aV)×aZ):=fun g19=>
 bnd (j4 g19.1 (3:Int) (⟨g19.2.1,g19.2.2⟩:aZ)) fun v60=>
 (iq g1 self1 v46 g14 g15 g16 v53) (v60.2.L,v60.2.At,v60.1)
noncomputable def iy (b_:bQ) (v1:(Int×aZ)) (g1:(Int×(List Int)×Int×(List aV))) (self1:(Int×(List Int)×Int×(List aV))→M ((List aV)×aZ)) (v46:(Int×aZ)) (g14:((List Int)×Int×(List bC))) (g15:((List Int)×Int×(List aM))):((List Int)×Int×(List ByteArray))→M ((List aV)×aZ):=fun g16=>
 bnd (j4 (b_.Resets.length:Int) (4:Int) (⟨g16.1,g16.2.1⟩:aZ)) fun v53=>
 bnd (bI (2:Int) v53.2) fun v58=>
 bif (v58.1==(1:Int)) then
  bnd (bI (6:Int) v58.2) fun v61=>
  bif (v61.1==(5:Int)) then
   (iw g1 self1 v46 g14 g15 g16 v53) (v1.1,v61.2.L,v61.2.At)
  else
   (iw g1 self1 v46 g14 g15 g16 v53) (g1.1,v61.2.L,v61.2.At)
 else
  (iq g1 self1 v46 g14 g15 g16 v53) (v58.2.L,v58.2.At,([]:List Int))
noncomputable def fK (b_:bQ) (v1:(Int×aZ)) (g1:(Int×(List Int)×Int×(List aV))) (self1:(Int×(List Int)×Int×(List aV))→M ((List aV)×aZ)) (v46:(Int×aZ)) (g14:((List Int)×Int×(List bC))):((List Int)×Int×(List aM))→M ((List aV)×aZ):=fun g15=>
 bnd (bI (2:Int) (⟨g15.1,g15.2.1⟩:aZ)) fun v62=>
 bif (v62.1==(1:Int)) then
  bnd (lG (2:Int) v62.2) fun v63=>
  (iy b_ v1 g1 self1 v46 g14 g15) (v63.2.L,v63.2.At,v63.1)
 else
  (iy b_ v1 g1 self1 v46 g14 g15) (v62.2.L,v62.2.At,([]:List ByteArray))
noncomputable def gB (b_:bQ) (v1:(Int×aZ)) (g1:(Int×(List Int)×Int×(List aV))) (self1:(Int×(List Int)×Int×(List aV))→M ((List aV)×aZ)) (v46:(Int×aZ)):((List Int)×Int×(List bC))→M ((List aV)×aZ):=fun g14=>
 bif ((decide ((0:Int)<(b_.bH.length:Int)))==true) then
  bnd (bI (2:Int) (⟨g14.1,g14.2.1⟩:aZ)) fun v64=>
  bif ((decide ((0:Int)<(b_.bH.length:Int)))&&(v64.1==(1:Int))) then
   bnd (pI b_ v64.2) fun v65=>
   need (1*32≤big)<|
   (fK b_ v1 g1 self1 v46 g14) (v65.2.L,v65.2.At,([v65.1]:List aM))
  else
   (fK b_ v1 g1 self1 v46 g14) (v64.2.L,v64.2.At,([]:List aM))
 else
  need ((decide ((0:Int)<(b_.bH.length:Int)))=false)<|
  (fK b_ v1 g1 self1 v46 g14) (g14.1,g14.2.1,([]:List aM))
noncomputable def qC (v1:(Int×aZ)) (g21:(Int×(List aV))) (self21:(Int×(List aV))→M ((List aV)×aZ)) (self24:(Int×(List Int))→M ((List aV)×aZ)):(Int×(List Int))→M ((List aV)×aZ):=fun g24=>
 bif (decide ((0:Int)≤g24.1)) then
  need (InI64 (v1.1 - (1:Int)))<|
  need (0≤g21.1∧g21.1<(g21.2.length:Int))<|
  need (0≤g24.1∧g24.1<((((g21.2.getD g21.1.toNat bJ).bA).length:Nat):Int))<|
  need (InI64 ((v1.1 - (1:Int)) - (((g21.2.getD g21.1.toNat bJ).bA).getD g24.1.toNat 0)))<|
  need ((g24.2.length+1)*8≤big)<|
  need (InI64 (g24.1 - (1:Int)))<|
  self24 ((g24.1 - (1:Int)),(g24.2++([((v1.1 - (1:Int)) - (((g21.2.getD g21.1.toNat bJ).bA).getD g24.1.toNat 0))]:List Int)))
 else
  need (0≤g21.1∧g21.1<(g21.2.length:Int))<|
  need (InI64 (g21.1+(1:Int)))<|
  self21 ((g21.1+(1:Int)),(g21.2.set (g21.1.toNat) (⟨(g21.2.getD g21.1.toNat bJ).Limits,(g21.2.getD g21.1.toNat bJ).Draws,(g21.2.getD g21.1.toNat bJ).Functions,(g21.2.getD g21.1.toNat bJ).Resets,(g21.2.getD g21.1.toNat bJ).iF,g24.2⟩:aV)))
noncomputable def qD (v1:(Int×aZ)) (v68:(Int×aZ)) (g20:(Int×Int×(List aV))) (self21:(Int×(List aV))→M ((List aV)×aZ)):(Int×(List aV))→M ((List aV)×aZ):=fun g21=>
 bif (decide (g21.1<(g20.2.2.length:Int))) then
  need (0≤g21.1∧g21.1<(g21.2.length:Int))<|
  need (InI64 (((((g21.2.getD g21.1.toNat bJ).bA).length:Nat):Int) - (1:Int)))<|
  bR (qC v1 g21 self21) ((((((g21.2.getD g21.1.toNat bJ).bA).length:Nat):Int) - (1:Int)),([]:List Int))
 else
  ret (g21.2,v68.2)
noncomputable def qE (v1:(Int×aZ)) (v68:(Int×aZ)) (self20:(Int×Int×(List aV))→M ((List aV)×aZ)):(Int×Int×(List aV))→M ((List aV)×aZ):=fun g20=>
 bif (decide (g20.1<g20.2.1)) then
  need (0≤g20.2.1∧g20.2.1<(g20.2.2.length:Int))<|
  need (0≤g20.1∧g20.1<(g20.2.2.length:Int))<|
  need (0≤g20.1∧g20.1<(g20.2.2.length:Int))<|
  need (0≤g20.2.1∧g20.2.1<(g20.2.2.length:Int))<|
  need (InI64 (g20.1+(1:Int)))<|
  need (InI64 (g20.2.1 - (1:Int)))<|
  self20 ((g20.1+(1:Int)),(g20.2.1 - (1:Int)),((g20.2.2.set (g20.1.toNat) (g20.2.2.getD g20.2.1.toNat bJ)).set (g20.2.1.toNat) (g20.2.2.getD g20.1.toNat bJ)))
 else
  bR (qD v1 v68 g20) ((0:Int),g20.2.2)
noncomputable def sM (b_:bQ) (v1:(Int×aZ)) (self1:(Int×(List Int)×Int×(List aV))→M ((List aV)×aZ)):(Int×(List Int)×Int×(List aV))→M ((List aV)×aZ):=fun g1=>
 bif (decide (g1.1<v1.1)) then
  need (InI64 ((b_.cK.length:Int) - (1:Int)))<|
  bnd (eY (-1:Int) ((b_.cK.length:Int) - (1:Int)) (⟨g1.2.1,g1.2.2.1⟩:aZ)) fun v46=>
  bif ((decide ((0:Int)<(b_.bY.length:Int)))==true) then
   bnd (bI (2:Int) v46.2) fun v66=>
   bif ((decide ((0:Int)<(b_.bY.length:Int)))&&(v66.1==(1:Int))) then
    bnd (nR b_ v66.2) fun v67=>
    need (1*24≤big)<|
    (gB b_ v1 g1 self1 v46) (v67.2.L,v67.2.At,([v67.1]:List bC))
   else
    (gB b_ v1 g1 self1 v46) (v66.2.L,v66.2.At,([]:List bC))
  else
   need ((decide ((0:Int)<(b_.bY.length:Int)))=false)<|
   (gB b_ v1 g1 self1 v46) (v46.2.L,v46.2.At,([]:List bC))
 else
  bif ((decide ((1:Int)<v1.1))==true) then
   bnd (bI (3:Int) (⟨g1.2.1,g1.2.2.1⟩:aZ)) fun v68=>
   bif ((decide ((1:Int)<v1.1))&&(v68.1==(2:Int))) then
    need (InI64 (v1.1 - (1:Int)))<|
    bR (qE v1 v68) ((0:Int),(v1.1 - (1:Int)),g1.2.2.2)
   else
    ret (g1.2.2.2,v68.2)
  else
   need ((decide ((1:Int)<v1.1))=false)<|
   ret (g1.2.2.2,(⟨g1.2.1,g1.2.2.1⟩:aZ))
noncomputable def lH (b_:bQ) (most_:Int) (o0_:aZ):M ((List aV)×aZ):=
 need (InI64 (most_+(1:Int)))<|
 bnd (bI (most_+(1:Int)) o0_) fun v1=>
 bR (sM b_ v1) ((0:Int),v1.2.L,v1.2.At,([]:List aV))
noncomputable def Ng (l_:(List Int)) (x_:Int) (self1:Int→M Bool):Int→M Bool:=fun g1=>
 bif (decide (g1<(l_.length:Int))) then
  need (0≤g1∧g1<(l_.length:Int))<|
  bif ((l_.getD g1.toNat 0)==x_) then
   ret true
  else
   need (InI64 (g1+(1:Int)))<|
   self1 (g1+(1:Int))
 else
  ret false
noncomputable def Ma (l_:(List Int)) (x_:Int):M Bool:=
 bR (Ng l_ x_) (0:Int)
noncomputable def wu (l_:(List Int)) (lo_:Int) (hi_:Int) (self1:Int→M Bool):Int→M Bool:=fun g1=>
 bif (decide (g1<(l_.length:Int))) then
  need (0≤g1∧g1<(l_.length:Int))<|
  need (((decide ((l_.getD g1.toNat 0)<lo_))||(decide (hi_<(l_.getD g1.toNat 0))))=false→0≤g1∧g1≤(l_.length:Int))<|
  bnd (fun v3=>((decide ((l_.getD g1.toNat 0)<lo_))||(decide (hi_<(l_.getD g1.toNat 0))))=false→Ma (l_.take (g1.toNat)) (l_.getD g1.toNat 0) v3) fun v3=>
  bif (((decide ((l_.getD g1.toNat 0)<lo_))||(decide (hi_<(l_.getD g1.toNat 0))))||v3) then
   ret false
  else
   need (InI64 (g1+(1:Int)))<|
   self1 (g1+(1:Int))
 else
  ret true
noncomputable def iR (l_:(List Int)) (lo_:Int) (hi_:Int):M Bool:=
 bR (wu l_ lo_ hi_) (0:Int)
noncomputable def Im (a_:(List Int)) (b_:(List Int)) (self1:Int→M Bool):Int→M Bool:=fun g1=>
 bif (decide (g1<(a_.length:Int))) then
  need (0≤g1∧g1<(a_.length:Int))<|
  need (0≤g1∧g1<(b_.length:Int))<|
  bif ((a_.getD g1.toNat 0) != (b_.getD g1.toNat 0)) then
   ret false
  else
   need (InI64 (g1+(1:Int)))<|
   self1 (g1+(1:Int))
 else
  ret true
noncomputable def zA (a_:(List Int)) (b_:(List Int)):M Bool:=
 bif ((a_.length:Int) != (b_.length:Int)) then
  ret false
 else
  bR (Im a_ b_) (0:Int)
noncomputable def rM (c_:av):M Bool:=
 bif (c_.Kind==(1:Int)) then
  need ((((c_.Parents.length:Int)==(0:Int))&&((c_.Choices.length:Int)==(1:Int)))=true→0≤(0:Int)∧(0:Int)<(c_.Choices.length:Int))<|
  need (((((c_.Parents.length:Int)==(0:Int))&&((c_.Choices.length:Int)==(1:Int)))&&(decide ((1:Int)≤(c_.Choices.getD 0 0))))=true→0≤(0:Int)∧(0:Int)<(c_.Choices.length:Int))<|
  ret (((((c_.Parents.length:Int)==(0:Int))&&((c_.Choices.length:Int)==(1:Int)))&&(decide ((1:Int)≤(c_.Choices.getD 0 0))))&&(decide ((c_.Choices.getD 0 0)≤(4000000000:Int))))
 else
  bif (c_.Kind==(2:Int)) then
   bif (c_.Kind==(2:Int)) then
    bnd (fun v1=>(((c_.Parents.length:Int)==(1:Int))&&(decide ((1:Int)≤(c_.Choices.length:Int))))=true→iR c_.Choices (1:Int) (64:Int) v1) fun v1=>
    ret ((((c_.Parents.length:Int)==(1:Int))&&(decide ((1:Int)≤(c_.Choices.length:Int))))&&v1)
   else
    bif (c_.Kind==(4:Int)) then
     need (((decide ((1:Int)≤(c_.Parents.length:Int)))&&(decide ((1:Int)≤(c_.Choices.length:Int))))=true→InI64 ((c_.Parents.length:Int) - (1:Int)))<|
     bnd (fun v2=>((decide ((1:Int)≤(c_.Parents.length:Int)))&&(decide ((1:Int)≤(c_.Choices.length:Int))))=true→iR c_.Choices (0:Int) ((c_.Parents.length:Int) - (1:Int)) v2) fun v2=>
     ret (((decide ((1:Int)≤(c_.Parents.length:Int)))&&(decide ((1:Int)≤(c_.Choices.length:Int))))&&v2)
    else
     bif (c_.Kind==(5:Int)) then
      bif (((c_.Parents.length:Int)==(1:Int))==true) then
       bnd (fun v3=>((c_.Parents.length:Int)==(1:Int))=true→zA c_.Choices ([(0:Int),(1:Int)]:List Int) v3) fun v3=>
       ret (((c_.Parents.length:Int)==(1:Int))&&v3)
      else
       ret (((c_.Parents.length:Int)==(1:Int))&&false)
     else
      ret false
  else
   bif (c_.Kind==(3:Int)) then
    bnd (fun v4=>(((c_.Parents.length:Int)==(1:Int))&&(decide ((1:Int)≤(c_.Choices.length:Int))))=true→iR c_.Choices (1:Int) (64:Int) v4) fun v4=>
    ret ((((c_.Parents.length:Int)==(1:Int))&&(decide ((1:Int)≤(c_.Choices.length:Int))))&&v4)
   else
    bif (c_.Kind==(4:Int)) then
     need (((decide ((1:Int)≤(c_.Parents.length:Int)))&&(decide ((1:Int)≤(c_.Choices.length:Int))))=true→InI64 ((c_.Parents.length:Int) - (1:Int)))<|
     bnd (fun v5=>((decide ((1:Int)≤(c_.Parents.length:Int)))&&(decide ((1:Int)≤(c_.Choices.length:Int))))=true→iR c_.Choices (0:Int) ((c_.Parents.length:Int) - (1:Int)) v5) fun v5=>
     ret (((decide ((1:Int)≤(c_.Parents.length:Int)))&&(decide ((1:Int)≤(c_.Choices.length:Int))))&&v5)
    else
     bif (c_.Kind==(5:Int)) then
      bif (((c_.Parents.length:Int)==(1:Int))==true) then
       bnd (fun v6=>((c_.Parents.length:Int)==(1:Int))=true→zA c_.Choices ([(0:Int),(1:Int)]:List Int) v6) fun v6=>
       ret (((c_.Parents.length:Int)==(1:Int))&&v6)
      else
       ret (((c_.Parents.length:Int)==(1:Int))&&false)
     else
      ret false
noncomputable def jF (g1:(Int×(List Int))) (self1:(Int×(List Int))→M (List Int)):Int→M (List Int):=fun g7=>
 need ((g1.2.length+1)*8≤big)<|
 need (InI64 (g1.1+(1:Int)))<|
 self1 ((g1.1+(1:Int)),(g1.2++([g7]:List Int)))
noncomputable def zB (l_:(List av)) (g1:(Int×(List Int))) (self1:(Int×(List Int))→M (List Int)) (self6:(Int×Int)→M (List Int)):(Int×Int)→M (List Int):=fun g6=>
 bif (decide (g6.2<((((l_.getD g1.1.toNat au).Parents).length:Nat):Int))) then
  need (0≤g6.2∧g6.2<((((l_.getD g1.1.toNat au).Parents).length:Nat):Int))<|
  need (0≤(((l_.getD g1.1.toNat au).Parents).getD g6.2.toNat 0)∧(((l_.getD g1.1.toNat au).Parents).getD g6.2.toNat 0)<(g1.2.length:Int))<|
  need (InI64 (g6.2+(1:Int)))<|
  self6 ((if (g1.2.getD ((((l_.getD g1.1.toNat au).Parents).getD g6.2.toNat 0).toNat) 0) > g6.1 then (g1.2.getD ((((l_.getD g1.1.toNat au).Parents).getD g6.2.toNat 0).toNat) 0) else g6.1),(g6.2+(1:Int)))
 else
  bif (((l_.getD g1.1.toNat au).Kind==(2:Int))||((l_.getD g1.1.toNat au).Kind==(3:Int))) then
   need (InI64 (g6.1+(1:Int)))<|
   (jF g1 self1) (g6.1+(1:Int))
  else
   (jF g1 self1) g6.1
noncomputable def zC (l_:(List av)) (self1:(Int×(List Int))→M (List Int)):(Int×(List Int))→M (List Int):=fun g1=>
 bif (decide (g1.1<(l_.length:Int))) then
  need (0≤g1.1∧g1.1<(l_.length:Int))<|
  bR (zB l_ g1 self1) ((0:Int),(0:Int))
 else
  ret g1.2
noncomputable def rO (l_:(List av)):M (List Int):=
 bR (zC l_) ((0:Int),([]:List Int))
noncomputable def BF (l_:(List av)) (g2:(Int×Int)) (self2:(Int×Int)→M Int) (self5:Int→M Int):Int→M Int:=fun g5=>
 bif (decide (g5<((((l_.getD g2.2.toNat au).Parents).length:Nat):Int))) then
  need (0≤g5∧g5<((((l_.getD g2.2.toNat au).Parents).length:Nat):Int))<|
  bif ((decide ((((l_.getD g2.2.toNat au).Parents).getD g5.toNat 0)<(0:Int)))||(decide (g2.2≤(((l_.getD g2.2.toNat au).Parents).getD g5.toNat 0)))) then
   ret (1:Int)
  else
   need (InI64 (g5+(1:Int)))<|
   self5 (g5+(1:Int))
 else
  bnd (rM (l_.getD g2.2.toNat au)) fun v3=>
  bif ((((!v3)||(decide ((l_.getD g2.2.toNat au).Low<(0:Int))))||(decide ((l_.getD g2.2.toNat au).High<(l_.getD g2.2.toNat au).Low)))||(decide ((4000000000:Int)<(l_.getD g2.2.toNat au).High))) then
   ret (1:Int)
  else
   need (InI64 (g2.1*((((l_.getD g2.2.toNat au).Choices).length:Nat):Int)))<|
   need (InI64 (g2.2+(1:Int)))<|
   self2 ((if (1099511627776:Int)<(g2.1*((((l_.getD g2.2.toNat au).Choices).length:Nat):Int)) then (1099511627776:Int) else (g2.1*((((l_.getD g2.2.toNat au).Choices).length:Nat):Int))),(g2.2+(1:Int)))
noncomputable def BG (v4:(List Int)) (self6:Int→M Int):Int→M Int:=fun g6=>
 bif (decide (g6<(v4.length:Int))) then
  need (0≤g6∧g6<(v4.length:Int))<|
  bif (decide ((4:Int)<(v4.getD g6.toNat 0))) then
   ret (3:Int)
  else
   need (InI64 (g6+(1:Int)))<|
   self6 (g6+(1:Int))
 else
  ret (0:Int)
noncomputable def BH (l_:(List av)) (self2:(Int×Int)→M Int):(Int×Int)→M Int:=fun g2=>
 bif (decide (g2.2<(l_.length:Int))) then
  need (0≤g2.2∧g2.2<(l_.length:Int))<|
  bR (BF l_ g2 self2) (0:Int)
 else
  bif (decide ((4096:Int)<g2.1)) then
   ret (3:Int)
  else
   bnd (rO l_) fun v4=>
   bR (BG v4) (0:Int)
noncomputable def DN (l_:(List av)) (self1:Int→M Int):Int→M Int:=fun g1=>
 bif (decide (g1<(l_.length:Int))) then
  need (0≤g1∧g1<(l_.length:Int))<|
  bif ((decide ((8:Int)<((((l_.getD g1.toNat au).Parents).length:Nat):Int)))||(decide ((8:Int)<((((l_.getD g1.toNat au).Choices).length:Nat):Int)))) then
   ret (3:Int)
  else
   need (InI64 (g1+(1:Int)))<|
   self1 (g1+(1:Int))
 else
  bR (BH l_) ((1:Int),(0:Int))
noncomputable def sN (l_:(List av)):M Int:=
 bif (decide ((16:Int)<(l_.length:Int))) then
  ret (3:Int)
 else
  bR (DN l_) (0:Int)
noncomputable def BI (l_:(List av)) (m_:(List bC)) (self1:Int→M Bool):Int→M Bool:=fun g1=>
 bif (decide (g1<(m_.length:Int))) then
  need (0≤g1∧g1<(m_.length:Int))<|
  bif (((((decide ((m_.getD g1.toNat cB).Clock<(0:Int)))||(decide ((l_.length:Int)≤(m_.getD g1.toNat cB).Clock)))||(decide ((m_.getD g1.toNat cB).Low<(0:Int))))||(decide ((m_.getD g1.toNat cB).High<(m_.getD g1.toNat cB).Low)))||(decide ((4000000000:Int)<(m_.getD g1.toNat cB).High))) then
   ret false
  else
   need (InI64 (g1+(1:Int)))<|
   self1 (g1+(1:Int))
 else
  ret true
noncomputable def uZ (l_:(List av)) (m_:(List bC)):M Bool:=
 bnd (sN l_) fun v1=>
 bif ((v1 != (0:Int))||(decide ((32:Int)<(m_.length:Int)))) then
  ret false
 else
  bR (BI l_ m_) (0:Int)
noncomputable def xI (l_:(List av)) (m_:(List bC)):M Int:=
 bnd (sN l_) fun v1=>
 bif (v1 != (0:Int)) then
  ret v1
 else
  bnd (uZ l_ m_) fun v2=>
  bif (!v2) then
   ret (1:Int)
  else
   ret (0:Int)
noncomputable def u6 (c_:av) (choice_:Int):M Int:=
 bif (c_.Kind==(1:Int)) then
  ret (-1:Int)
 else
  bif (c_.Kind==(4:Int)) then
   need (0≤choice_∧choice_<(c_.Choices.length:Int))<|
   need (0≤(c_.Choices.getD choice_.toNat 0)∧(c_.Choices.getD choice_.toNat 0)<(c_.Parents.length:Int))<|
   ret (c_.Parents.getD ((c_.Choices.getD choice_.toNat 0).toNat) 0)
  else
   need (0≤(0:Int)∧(0:Int)<(c_.Parents.length:Int))<|
   ret (c_.Parents.getD 0 0)
noncomputable def zD (self1:(Int×Int)→M Int):(Int×Int)→M Int:=fun g1=>
 bif (g1.2 != (0:Int)) then
  need (g1.2≠0)<|
  self1 (g1.2,(g1.1.tmod g1.2))
 else
  ret g1.1
noncomputable def kX (a_:Int) (b_:Int):M Int:=
 bR zD (a_,b_)
noncomputable def l6 (r_:aP):M Bool:=
 bnd (fun v1=>((((decide ((0:Int)≤r_.Num))&&(decide (r_.Num≤(144115188075855872:Int))))&&(decide ((1:Int)≤r_.Den)))&&(decide (r_.Den≤(16777216:Int))))=true→kX r_.Num r_.Den v1) fun v1=>
 ret (((((decide ((0:Int)≤r_.Num))&&(decide (r_.Num≤(144115188075855872:Int))))&&(decide ((1:Int)≤r_.Den)))&&(decide (r_.Den≤(16777216:Int))))&&(v1==(1:Int)))
noncomputable def pK (k_:Int):M Bool:=
 ret ((decide ((1:Int)≤k_))&&(decide (k_≤(64:Int))))
noncomputable def zF (num_:Int) (den_:Int):M (aP×Int):=
 bif ((decide (num_<(0:Int)))||(decide (den_<(1:Int)))) then
  ret ((⟨(0:Int),(0:Int)⟩:aP),(2:Int))
 else
  bnd (kX num_ den_) fun v1=>
  need (v1≠0∧InI64 (num_.tdiv v1))<|
  need (v1≠0∧InI64 (den_.tdiv v1))<|
  bnd (l6 (⟨(num_.tdiv v1),(den_.tdiv v1)⟩:aP)) fun v2=>
  bif (!v2) then
   ret ((⟨(0:Int),(0:Int)⟩:aP),(2:Int))
  else
   ret ((⟨(num_.tdiv v1),(den_.tdiv v1)⟩:aP),(0:Int))
noncomputable def Ar (r_:aP) (k_:Int):M (aP×Int):=
 bnd (l6 r_) fun v1=>
 bif (!v1) then
  ret ((⟨(0:Int),(0:Int)⟩:aP),(1:Int))
 else
  bnd (pK k_) fun v2=>
  bif (!v2) then
   ret ((⟨(0:Int),(0:Int)⟩:aP),(2:Int))
  else
   need (InI64 (r_.Den*k_))<|
   bnd (zF r_.Num (r_.Den*k_)) fun v3=>
   ret (v3.1,v3.2)
noncomputable def xJ (r_:aP) (k_:Int):M (aP×Int):=
 bnd (l6 r_) fun v1=>
 bif (!v1) then
  ret ((⟨(0:Int),(0:Int)⟩:aP),(1:Int))
 else
  bnd (pK k_) fun v2=>
  bif (!v2) then
   ret ((⟨(0:Int),(0:Int)⟩:aP),(2:Int))
  else
   bnd (kX k_ r_.Den) fun v3=>
   need (v3≠0∧InI64 (k_.tdiv v3))<|
   need ((k_.tdiv v3)≠0∧InI64 ((144115188075855872:Int).tdiv (k_.tdiv v3)))<|
   bif (decide (((144115188075855872:Int).tdiv (k_.tdiv v3))<r_.Num)) then
    ret ((⟨(0:Int),(0:Int)⟩:aP),(2:Int))
   else
    need (v3≠0∧InI64 (k_.tdiv v3))<|
    need (InI64 (r_.Num*(k_.tdiv v3)))<|
    need (v3≠0∧InI64 (r_.Den.tdiv v3))<|
    bnd (zF (r_.Num*(k_.tdiv v3)) (r_.Den.tdiv v3)) fun v4=>
    ret (v4.1,v4.2)
noncomputable def fC (g1:(Int×(List aP)×(List Bool))) (self1:(Int×(List aP)×(List Bool))→M ((List aP)×(List Bool))):(Bool×Int×Int)→M ((List aP)×(List Bool)):=fun g7=>
 need ((g1.2.1.length+1)*16≤big)<|
 need ((g1.2.2.length+1)*1≤big)<|
 need (InI64 (g1.1+(1:Int)))<|
 self1 ((g1.1+(1:Int)),(g1.2.1++([(⟨g7.2.1,g7.2.2⟩:aP)]:List aP)),(g1.2.2++([g7.1]:List Bool)))
noncomputable def j5 (l_:(List av)) (s_:(List Int)) (g1:(Int×(List aP)×(List Bool))) (self1:(Int×(List aP)×(List Bool))→M ((List aP)×(List Bool))):(Bool×Int×Int)→M ((List aP)×(List Bool)):=fun g6=>
 need (0≤g1.1∧g1.1<(s_.length:Int))<|
 need (0≤(s_.getD g1.1.toNat 0)∧(s_.getD g1.1.toNat 0)<((((l_.getD g1.1.toNat au).Choices).length:Nat):Int))<|
 bif ((l_.getD g1.1.toNat au).Kind==(1:Int)) then
  (fC g1 self1) (g6.1,(((l_.getD g1.1.toNat au).Choices).getD ((s_.getD g1.1.toNat 0).toNat) 0),(1:Int))
 else
  bif ((l_.getD g1.1.toNat au).Kind==(2:Int)) then
   bnd (Ar (⟨g6.2.1,g6.2.2⟩:aP) (((l_.getD g1.1.toNat au).Choices).getD ((s_.getD g1.1.toNat 0).toNat) 0)) fun v16=>
   (fC g1 self1) (g6.1,v16.1.Num,v16.1.Den)
  else
   bif ((l_.getD g1.1.toNat au).Kind==(3:Int)) then
    bnd (xJ (⟨g6.2.1,g6.2.2⟩:aP) (((l_.getD g1.1.toNat au).Choices).getD ((s_.getD g1.1.toNat 0).toNat) 0)) fun v17=>
    (fC g1 self1) (g6.1,v17.1.Num,v17.1.Den)
   else
    bif ((l_.getD g1.1.toNat au).Kind==(5:Int)) then
     bif ((((l_.getD g1.1.toNat au).Choices).getD ((s_.getD g1.1.toNat 0).toNat) 0)==(0:Int)) then
      (fC g1 self1) (false,(0:Int),(1:Int))
     else
      (fC g1 self1) (g6.1,g6.2.1,g6.2.2)
    else
     (fC g1 self1) (g6.1,g6.2.1,g6.2.2)
noncomputable def BJ (l_:(List av)) (s_:(List Int)) (self1:(Int×(List aP)×(List Bool))→M ((List aP)×(List Bool))):(Int×(List aP)×(List Bool))→M ((List aP)×(List Bool)):=fun g1=>
 bif (decide (g1.1<(l_.length:Int))) then
  need (0≤g1.1∧g1.1<(l_.length:Int))<|
  need (0≤g1.1∧g1.1<(s_.length:Int))<|
  bnd (u6 (l_.getD g1.1.toNat au) (s_.getD g1.1.toNat 0)) fun v18=>
  bif (decide ((0:Int)≤v18)) then
   need (0≤v18∧v18<(g1.2.1.length:Int))<|
   need (0≤v18∧v18<(g1.2.2.length:Int))<|
   (j5 l_ s_ g1 self1) ((g1.2.2.getD v18.toNat false),(g1.2.1.getD v18.toNat bZ).Num,(g1.2.1.getD v18.toNat bZ).Den)
  else
   (j5 l_ s_ g1 self1) (true,(0:Int),(1:Int))
 else
  ret (g1.2.1,g1.2.2)
noncomputable def u7 (l_:(List av)) (s_:(List Int)):M ((List aP)×(List Bool)):=
 bR (BJ l_ s_) ((0:Int),([]:List aP),([]:List Bool))
noncomputable def pO (r_:aP) (low_:Int) (high_:Int):M Bool:=
 bnd (l6 r_) fun v1=>
 bif (!v1) then
  ret false
 else
  need (r_.Den≠0∧InI64 (r_.Num.tdiv r_.Den))<|
  need ((decide (low_≤(r_.Num.tdiv r_.Den)))=true→(decide ((r_.Num.tdiv r_.Den)<high_))=false→((r_.Num.tdiv r_.Den)==high_)=true→r_.Den≠0)<|
  ret ((decide (low_≤(r_.Num.tdiv r_.Den)))&&((decide ((r_.Num.tdiv r_.Den)<high_))||(((r_.Num.tdiv r_.Den)==high_)&&((r_.Num.tmod r_.Den)==(0:Int)))))
noncomputable def Io (l_:(List av)) (r_:(List aP)) (on_:(List Bool)) (self1:Int→M Bool):Int→M Bool:=fun g1=>
 bif (decide (g1<(l_.length:Int))) then
  need (0≤g1∧g1<(l_.length:Int))<|
  need (0≤g1∧g1<(on_.length:Int))<|
  need (((on_.getD g1.toNat false)&&((l_.getD g1.toNat au).High != (0:Int)))=true→0≤g1∧g1<(r_.length:Int))<|
  bnd (fun v3=>((on_.getD g1.toNat false)&&((l_.getD g1.toNat au).High != (0:Int)))=true→pO (r_.getD g1.toNat bZ) ((l_.getD g1.toNat au).Low) ((l_.getD g1.toNat au).High) v3) fun v3=>
  bif (((on_.getD g1.toNat false)&&((l_.getD g1.toNat au).High != (0:Int)))&&(!v3)) then
   ret false
  else
   need (InI64 (g1+(1:Int)))<|
   self1 (g1+(1:Int))
 else
  ret true
noncomputable def E8 (l_:(List av)) (r_:(List aP)) (on_:(List Bool)):M Bool:=
 bR (Io l_ r_ on_) (0:Int)
noncomputable def F6 (l_:(List av)) (m_:(List bC)) (v1:((List aP)×(List Bool))) (self1:Int→M Bool):Int→M Bool:=fun g1=>
 bif (decide (g1<(m_.length:Int))) then
  need (0≤g1∧g1<(m_.length:Int))<|
  need (0≤(m_.getD g1.toNat cB).Clock∧(m_.getD g1.toNat cB).Clock<(v1.2.length:Int))<|
  need ((!(v1.2.getD (((m_.getD g1.toNat cB).Clock).toNat) false))=false→0≤(m_.getD g1.toNat cB).Clock∧(m_.getD g1.toNat cB).Clock<(v1.1.length:Int))<|
  bnd (fun v4=>(!(v1.2.getD (((m_.getD g1.toNat cB).Clock).toNat) false))=false→pO (v1.1.getD (((m_.getD g1.toNat cB).Clock).toNat) bZ) ((m_.getD g1.toNat cB).Low) ((m_.getD g1.toNat cB).High) v4) fun v4=>
  bif ((!(v1.2.getD (((m_.getD g1.toNat cB).Clock).toNat) false))||(!v4)) then
   ret false
  else
   need (InI64 (g1+(1:Int)))<|
   self1 (g1+(1:Int))
 else
  bnd (E8 l_ v1.1 v1.2) fun v5=>
  ret v5
noncomputable def Au (l_:(List av)) (s_:(List Int)) (m_:(List bC)):M Bool:=
 bnd (u7 l_ s_) fun v1=>
 bR (F6 l_ m_ v1) (0:Int)
noncomputable def yI (l_:(List av)) (g1:(Int×(List Int))) (self1:(Int×(List Int))→M ((List Int)×Bool)):(List Int)→M ((List Int)×Bool):=fun g4=>
 need (0≤g1.1∧g1.1<(g4.length:Int))<|
 need (0≤g1.1∧g1.1<(l_.length:Int))<|
 bif (decide ((g4.getD g1.1.toNat 0)<((((l_.getD g1.1.toNat au).Choices).length:Nat):Int))) then
  ret (g4,true)
 else
  need (0≤g1.1∧g1.1<(g4.length:Int))<|
  need (InI64 (g1.1 - (1:Int)))<|
  self1 ((g1.1 - (1:Int)),(g4.set (g1.1.toNat) (0:Int)))
noncomputable def F7 (l_:(List av)) (self1:(Int×(List Int))→M ((List Int)×Bool)):(Int×(List Int))→M ((List Int)×Bool):=fun g1=>
 bif (decide ((0:Int)≤g1.1)) then
  need (0≤g1.1∧g1.1<(g1.2.length:Int))<|
  need (InI64 ((g1.2.getD g1.1.toNat 0)+(1:Int)))<|
  need (0≤g1.1∧g1.1<(g1.2.length:Int))<|
  (yI l_ g1 self1) (g1.2.set (g1.1.toNat) ((g1.2.getD g1.1.toNat 0)+(1:Int)))
 else
  ret (([]:List Int),false)
noncomputable def Av (l_:(List av)) (s_:(List Int)):M ((List Int)×Bool):=
 need ((0+s_.length)*8≤big)<|
 need (InI64 ((l_.length:Int) - (1:Int)))<|
 bR (F7 l_) (((l_.length:Int) - (1:Int)),(([]:List Int)++s_))
noncomputable def pQ (l_:(List av)) (g1:((List Int)×Bool×(List (List Int)))) (self1:((List Int)×Bool×(List (List Int)))→M (List (List Int))):(List (List Int))→M (List (List Int)):=fun g7=>
 bnd (Av l_ g1.1) fun v8=>
 self1 (v8.1,v8.2,g7)
noncomputable def Aw (l_:(List av)) (m_:(List bC)) (g1:((List Int)×Bool×(List (List Int)))) (self1:((List Int)×Bool×(List (List Int)))→M (List (List Int))):Unit→M (List (List Int)):=fun g6=>
 bnd (Au l_ g1.1 m_) fun v9=>
 bif v9 then
  need ((g1.2.2.length+1)*24≤big)<|
  (pQ l_ g1 self1) (g1.2.2++([g1.1]:List (List Int)))
 else
  (pQ l_ g1 self1) g1.2.2
noncomputable def Ip (l_:(List av)) (m_:(List bC)) (self1:((List Int)×Bool×(List (List Int)))→M (List (List Int))):((List Int)×Bool×(List (List Int)))→M (List (List Int)):=fun g1=>
 bif g1.2.1 then
  (Aw l_ m_ g1 self1) ()
 else
  ret g1.2.2
noncomputable def E9 (l_:(List av)) (m_:(List bC)):M (List (List Int)):=
 need (0≤(l_.length:Int)∧(l_.length:Int)*((8:Nat):Int)≤((big:Nat):Int))<|
 bR (Ip l_ m_) ((List.replicate ((l_.length:Int).toNat) 0),true,([]:List (List Int)))
noncomputable def xK (l_:(List av)) (m_:(List bC)):M ((List Int)×Int):=
 bnd (xI l_ m_) fun v1=>
 bif (v1 != (0:Int)) then
  ret (([]:List Int),v1)
 else
  bnd (E9 l_ m_) fun v2=>
  bif ((v2.length:Int)==(0:Int)) then
   ret (([]:List Int),(9:Int))
  else
   need (0≤(0:Int)∧(0:Int)<(v2.length:Int))<|
   ret ((v2.getD 0 []),(0:Int))
noncomputable def l7 (x_:Int) (lo_:Int) (hi_:Int):M Bool:=
 ret ((decide (lo_≤x_))&&(decide (x_≤hi_)))
noncomputable def BK (l_:(List aj)) (g2:Int) (self2:Int→M Int) (self5:Int→M Int):Int→M Int:=fun g5=>
 bif (decide (g5<((((l_.getD g2.toNat ah).aU).length:Nat):Int))) then
  need (0≤g5∧g5<((((l_.getD g2.toNat ah).aU).length:Nat):Int))<|
  bnd (l7 (((l_.getD g2.toNat ah).aU).getD g5.toNat 0) (1:Int) (5000:Int)) fun v18=>
  need ((!v18)=false→(decide ((0:Int)<g5))=true→InI64 (g5 - (1:Int)))<|
  need ((!v18)=false→(decide ((0:Int)<g5))=true→0≤(g5 - (1:Int))∧(g5 - (1:Int))<((((l_.getD g2.toNat ah).aU).length:Nat):Int))<|
  bif ((!v18)||((decide ((0:Int)<g5))&&(decide ((((l_.getD g2.toNat ah).aU).getD g5.toNat 0)≤(((l_.getD g2.toNat ah).aU).getD ((g5 - (1:Int)).toNat) 0))))) then
   ret (1:Int)
  else
   need (InI64 (g5+(1:Int)))<|
   self5 (g5+(1:Int))
 else
  need (InI64 (g2+(1:Int)))<|
  self2 (g2+(1:Int))
noncomputable def BL (l_:(List aj)) (self2:Int→M Int):Int→M Int:=fun g2=>
 bif (decide (g2<(l_.length:Int))) then
  need (0≤g2∧g2<(l_.length:Int))<|
  need (InI64 (g2 - (1:Int)))<|
  bnd (l7 ((l_.getD g2.toNat ah).Parent) (-1:Int) (g2 - (1:Int))) fun v13=>
  bnd (fun v14=>((!v13)||(decide (((((l_.getD g2.toNat ah).aU).length:Nat):Int)<(1:Int))))=false→l7 ((l_.getD g2.toNat ah).dO) (0:Int) (5000:Int) v14) fun v14=>
  bnd (fun v15=>((((!v13)||(decide (((((l_.getD g2.toNat ah).aU).length:Nat):Int)<(1:Int))))||(!v14))||((decide ((l_.getD g2.toNat ah).Parent<(0:Int)))&&((l_.getD g2.toNat ah).dO != (0:Int))))=false→l7 ((l_.getD g2.toNat ah).eG) (0:Int) (10000:Int) v15) fun v15=>
  bif (((((!v13)||(decide (((((l_.getD g2.toNat ah).aU).length:Nat):Int)<(1:Int))))||(!v14))||((decide ((l_.getD g2.toNat ah).Parent<(0:Int)))&&((l_.getD g2.toNat ah).dO != (0:Int))))||(!v15)) then
   ret (1:Int)
  else
   bR (BK l_ g2 self2) (0:Int)
 else
  ret (0:Int)
noncomputable def DR (l_:(List aj)) (self1:Int→M Int):Int→M Int:=fun g1=>
 bif (decide (g1<(l_.length:Int))) then
  need (0≤g1∧g1<(l_.length:Int))<|
  bif (decide ((16:Int)<((((l_.getD g1.toNat ah).aU).length:Nat):Int))) then
   ret (3:Int)
  else
   need (InI64 (g1+(1:Int)))<|
   self1 (g1+(1:Int))
 else
  bR (BL l_) (0:Int)
noncomputable def sO (l_:(List aj)):M Int:=
 bif (decide ((16:Int)<(l_.length:Int))) then
  ret (3:Int)
 else
  bR (DR l_) (0:Int)
noncomputable def DT (l_:(List aj)) (d_:(List aM)) (self1:Int→M Bool):Int→M Bool:=fun g1=>
 bif (decide (g1<(d_.length:Int))) then
  need (0≤g1∧g1<(d_.length:Int))<|
  need (InI64 ((l_.length:Int) - (1:Int)))<|
  bnd (l7 ((d_.getD g1.toNat bL).bn) (0:Int) ((l_.length:Int) - (1:Int))) fun v8=>
  bnd (fun v9=>(!v8)=false→l7 ((d_.getD g1.toNat bL).Low) (0:Int) ((d_.getD g1.toNat bL).High) v9) fun v9=>
  bnd (fun v10=>(((!v8)||(!v9))||(decide ((5000:Int)<(d_.getD g1.toNat bL).High)))=false→l7 ((d_.getD g1.toNat bL).Load) (0:Int) (10000:Int) v10) fun v10=>
  bif ((((!v8)||(!v9))||(decide ((5000:Int)<(d_.getD g1.toNat bL).High)))||(!v10)) then
   ret false
  else
   need (InI64 (g1+(1:Int)))<|
   self1 (g1+(1:Int))
 else
  ret true
noncomputable def xL (l_:(List aj)) (d_:(List aM)):M Bool:=
 bnd (sO l_) fun v1=>
 bif ((v1 != (0:Int))||(decide ((32:Int)<(d_.length:Int)))) then
  ret false
 else
  bR (DT l_ d_) (0:Int)
noncomputable def xM (l_:(List aj)) (d_:(List aM)):M Int:=
 bnd (sO l_) fun v1=>
 bif (v1 != (0:Int)) then
  ret v1
 else
  bnd (xL l_ d_) fun v2=>
  bif (!v2) then
   ret (1:Int)
  else
   ret (0:Int)
noncomputable def F8 (l_:(List aj)) (d_:(List aM)) (g1:(Int×(List Bool))) (self1:(Int×(List Bool))→M (List Bool)) (self4:(Int×(List Bool))→M (List Bool)):(Int×(List Bool))→M (List Bool):=fun g4=>
 bif (decide (g4.1<(d_.length:Int))) then
  need (0≤g4.1∧g4.1<(d_.length:Int))<|
  need (0≤g1.1∧g1.1<(g4.2.length:Int))<|
  need (0≤g1.1∧g1.1<(g4.2.length:Int))<|
  need (InI64 (g4.1+(1:Int)))<|
  self4 ((g4.1+(1:Int)),(g4.2.set (g1.1.toNat) ((g4.2.getD g1.1.toNat false)||((d_.getD g4.1.toNat bL).bn==g1.1))))
 else
  need (0≤g1.1∧g1.1<(l_.length:Int))<|
  need (0≤g1.1∧g1.1<(g4.2.length:Int))<|
  bif ((g4.2.getD g1.1.toNat false)&&(decide ((0:Int)≤(l_.getD g1.1.toNat ah).Parent))) then
   need (0≤(l_.getD g1.1.toNat ah).Parent∧(l_.getD g1.1.toNat ah).Parent<(g4.2.length:Int))<|
   need (InI64 (g1.1 - (1:Int)))<|
   self1 ((g1.1 - (1:Int)),(g4.2.set (((l_.getD g1.1.toNat ah).Parent).toNat) true))
  else
   need (InI64 (g1.1 - (1:Int)))<|
   self1 ((g1.1 - (1:Int)),g4.2)
noncomputable def F9 (l_:(List aj)) (d_:(List aM)) (self1:(Int×(List Bool))→M (List Bool)):(Int×(List Bool))→M (List Bool):=fun g1=>
 bif (decide ((0:Int)≤g1.1)) then
  need (0≤g1.1∧g1.1<(g1.2.length:Int))<|
  need ((g1.2.getD g1.1.toNat false)=false→0≤g1.1∧g1.1<(l_.length:Int))<|
  need (0≤g1.1∧g1.1<(g1.2.length:Int))<|
  bR (F8 l_ d_ g1 self1) ((0:Int),(g1.2.set (g1.1.toNat) ((g1.2.getD g1.1.toNat false)||(l_.getD g1.1.toNat ah).Always)))
 else
  ret g1.2
noncomputable def wz (l_:(List aj)) (d_:(List aM)):M (List Bool):=
 need (0≤(l_.length:Int)∧(l_.length:Int)*((1:Nat):Int)≤((big:Nat):Int))<|
 need (InI64 ((l_.length:Int) - (1:Int)))<|
 bR (F9 l_ d_) (((l_.length:Int) - (1:Int)),(List.replicate ((l_.length:Int).toNat) false))
noncomputable def DU (s_:aj) (v_:Int) (self1:Int→M Int):Int→M Int:=fun g1=>
 bif (decide (g1<(s_.aU.length:Int))) then
  need (0≤g1∧g1<(s_.aU.length:Int))<|
  bif (decide (v_≤(s_.aU.getD g1.toNat 0))) then
   ret g1
  else
   need (InI64 (g1+(1:Int)))<|
   self1 (g1+(1:Int))
 else
  ret (-1:Int)
noncomputable def xO (s_:aj) (v_:Int):M Int:=
 bR (DU s_ v_) (0:Int)
noncomputable def l8 (l_:(List aj)) (r_:bF) (k_:Int):M Int:=
 need (0≤k_∧k_<(l_.length:Int))<|
 need (0≤k_∧k_<(r_.Level.length:Int))<|
 need (0≤(r_.Level.getD k_.toNat 0)∧(r_.Level.getD k_.toNat 0)<((((l_.getD k_.toNat ah).aU).length:Nat):Int))<|
 ret (((l_.getD k_.toNat ah).aU).getD ((r_.Level.getD k_.toNat 0).toNat) 0)
noncomputable def DV (l_:(List aj)) (d_:(List aM)) (g1:(Int×(List Int))) (self1:(Int×(List Int))→M (List Int)) (self4:(Int×(List Int))→M (List Int)):(Int×(List Int))→M (List Int):=fun g4=>
 bif (decide (g4.1<(d_.length:Int))) then
  need (0≤g4.1∧g4.1<(d_.length:Int))<|
  bif ((d_.getD g4.1.toNat bL).bn==g1.1) then
   need (0≤g1.1∧g1.1<(g4.2.length:Int))<|
   need (InI64 ((g4.2.getD g1.1.toNat 0)+(d_.getD g4.1.toNat bL).Load))<|
   need (0≤g1.1∧g1.1<(g4.2.length:Int))<|
   need (InI64 (g4.1+(1:Int)))<|
   self4 ((g4.1+(1:Int)),(g4.2.set (g1.1.toNat) ((g4.2.getD g1.1.toNat 0)+(d_.getD g4.1.toNat bL).Load)))
  else
   need (InI64 (g4.1+(1:Int)))<|
   self4 ((g4.1+(1:Int)),g4.2)
 else
  need (0≤g1.1∧g1.1<(l_.length:Int))<|
  bif (decide ((0:Int)≤(l_.getD g1.1.toNat ah).Parent)) then
   need (0≤(l_.getD g1.1.toNat ah).Parent∧(l_.getD g1.1.toNat ah).Parent<(g4.2.length:Int))<|
   need (0≤g1.1∧g1.1<(g4.2.length:Int))<|
   need (InI64 ((g4.2.getD (((l_.getD g1.1.toNat ah).Parent).toNat) 0)+(g4.2.getD g1.1.toNat 0)))<|
   need (0≤(l_.getD g1.1.toNat ah).Parent∧(l_.getD g1.1.toNat ah).Parent<(g4.2.length:Int))<|
   need (InI64 (g1.1 - (1:Int)))<|
   self1 ((g1.1 - (1:Int)),(g4.2.set (((l_.getD g1.1.toNat ah).Parent).toNat) ((g4.2.getD (((l_.getD g1.1.toNat ah).Parent).toNat) 0)+(g4.2.getD g1.1.toNat 0))))
  else
   need (InI64 (g1.1 - (1:Int)))<|
   self1 ((g1.1 - (1:Int)),g4.2)
noncomputable def DW (l_:(List aj)) (d_:(List aM)) (self1:(Int×(List Int))→M (List Int)):(Int×(List Int))→M (List Int):=fun g1=>
 bif (decide ((0:Int)≤g1.1)) then
  bR (DV l_ d_ g1 self1) ((0:Int),g1.2)
 else
  ret g1.2
noncomputable def xP (l_:(List aj)) (d_:(List aM)):M (List Int):=
 need (0≤(l_.length:Int)∧(l_.length:Int)*((8:Nat):Int)≤((big:Nat):Int))<|
 need (InI64 ((l_.length:Int) - (1:Int)))<|
 bR (DW l_ d_) (((l_.length:Int) - (1:Int)),(List.replicate ((l_.length:Int).toNat) 0))
noncomputable def BM (l_:(List aj)) (r_:bF) (d_:(List aM)) (self2:Int→M Bool):Int→M Bool:=fun g2=>
 bif (decide (g2<(d_.length:Int))) then
  need (0≤g2∧g2<(d_.length:Int))<|
  bnd (l8 l_ r_ ((d_.getD g2.toNat bL).bn)) fun v13=>
  bnd (l7 v13 ((d_.getD g2.toNat bL).Low) ((d_.getD g2.toNat bL).High)) fun v14=>
  bif (!v14) then
   ret false
  else
   need (InI64 (g2+(1:Int)))<|
   self2 (g2+(1:Int))
 else
  ret true
noncomputable def DX (l_:(List aj)) (r_:bF) (d_:(List aM)) (v1:(List Bool)) (v2:(List Int)) (self1:Int→M Bool):Int→M Bool:=fun g1=>
 bif (decide (g1<(l_.length:Int))) then
  need (0≤g1∧g1<(l_.length:Int))<|
  need (0≤g1∧g1<(v1.length:Int))<|
  need ((v1.getD g1.toNat false)=true→0≤g1∧g1<(r_.On.length:Int))<|
  bif ((v1.getD g1.toNat false)&&(!(r_.On.getD g1.toNat false))) then
   ret false
  else
   need (0≤g1∧g1<(r_.On.length:Int))<|
   bif (!(r_.On.getD g1.toNat false)) then
    need (InI64 (g1+(1:Int)))<|
    self1 (g1+(1:Int))
   else
    need (0≤g1∧g1<(v2.length:Int))<|
    need ((decide ((l_.getD g1.toNat ah).eG<(v2.getD g1.toNat 0)))=false→(decide ((0:Int)≤(l_.getD g1.toNat ah).Parent))=true→0≤(l_.getD g1.toNat ah).Parent∧(l_.getD g1.toNat ah).Parent<(r_.On.length:Int))<|
    bnd (fun v7=>(decide ((l_.getD g1.toNat ah).eG<(v2.getD g1.toNat 0)))=false→(decide ((0:Int)≤(l_.getD g1.toNat ah).Parent))=true→(!(r_.On.getD (((l_.getD g1.toNat ah).Parent).toNat) false))=false→l8 l_ r_ ((l_.getD g1.toNat ah).Parent) v7) fun v7=>
    bnd (fun v8=>(decide ((l_.getD g1.toNat ah).eG<(v2.getD g1.toNat 0)))=false→(decide ((0:Int)≤(l_.getD g1.toNat ah).Parent))=true→(!(r_.On.getD (((l_.getD g1.toNat ah).Parent).toNat) false))=false→l8 l_ r_ g1 v8) fun v8=>
    need ((decide ((l_.getD g1.toNat ah).eG<(v2.getD g1.toNat 0)))=false→(decide ((0:Int)≤(l_.getD g1.toNat ah).Parent))=true→(!(r_.On.getD (((l_.getD g1.toNat ah).Parent).toNat) false))=false→InI64 (v8+(l_.getD g1.toNat ah).dO))<|
    bif ((decide ((l_.getD g1.toNat ah).eG<(v2.getD g1.toNat 0)))||((decide ((0:Int)≤(l_.getD g1.toNat ah).Parent))&&((!(r_.On.getD (((l_.getD g1.toNat ah).Parent).toNat) false))||(decide (v7<(v8+(l_.getD g1.toNat ah).dO)))))) then
     ret false
    else
     need (InI64 (g1+(1:Int)))<|
     self1 (g1+(1:Int))
 else
  bR (BM l_ r_ d_) (0:Int)
noncomputable def xQ (l_:(List aj)) (r_:bF) (d_:(List aM)):M Bool:=
 bnd (wz l_ d_) fun v1=>
 bnd (xP l_ d_) fun v2=>
 bR (DX l_ r_ d_ v1 v2) (0:Int)
noncomputable def tN (l_:(List aj)) (v2:(List Bool)) (g2:(Int×(List Int)×(List Int))) (self2:(Int×(List Int)×(List Int))→M (bF×Int)):(List Int)→M (bF×Int):=fun g5=>
 need (0≤g2.1∧g2.1<(g5.length:Int))<|
 bif (decide ((g5.getD g2.1.toNat 0)<(0:Int))) then
  ret ((⟨([]:List Bool),([]:List Int)⟩:bF),(9:Int))
 else
  need (0≤g2.1∧g2.1<(l_.length:Int))<|
  bif (decide ((0:Int)≤(l_.getD g2.1.toNat ah).Parent)) then
   need (0≤(l_.getD g2.1.toNat ah).Parent∧(l_.getD g2.1.toNat ah).Parent<(g2.2.1.length:Int))<|
   bnd (l8 l_ (⟨v2,g5⟩:bF) g2.1) fun v10=>
   need (0≤g2.1∧g2.1<(l_.length:Int))<|
   need (InI64 (v10+(l_.getD g2.1.toNat ah).dO))<|
   need (0≤(l_.getD g2.1.toNat ah).Parent∧(l_.getD g2.1.toNat ah).Parent<(g2.2.1.length:Int))<|
   need (InI64 (g2.1 - (1:Int)))<|
   self2 ((g2.1 - (1:Int)),(g2.2.1.set (((l_.getD g2.1.toNat ah).Parent).toNat) (if (v10+(l_.getD g2.1.toNat ah).dO) > (g2.2.1.getD (((l_.getD g2.1.toNat ah).Parent).toNat) 0) then (v10+(l_.getD g2.1.toNat ah).dO) else (g2.2.1.getD (((l_.getD g2.1.toNat ah).Parent).toNat) 0))),g5)
  else
   need (InI64 (g2.1 - (1:Int)))<|
   self2 ((g2.1 - (1:Int)),g2.2.1,g5)
noncomputable def BN (l_:(List aj)) (d_:(List aM)) (v2:(List Bool)) (self2:(Int×(List Int)×(List Int))→M (bF×Int)):(Int×(List Int)×(List Int))→M (bF×Int):=fun g2=>
 bif (decide ((0:Int)≤g2.1)) then
  need (0≤g2.1∧g2.1<(v2.length:Int))<|
  bif (!(v2.getD g2.1.toNat false)) then
   need (InI64 (g2.1 - (1:Int)))<|
   self2 ((g2.1 - (1:Int)),g2.2.1,g2.2.2)
  else
   need (0≤g2.1∧g2.1<(l_.length:Int))<|
   need (0≤g2.1∧g2.1<(g2.2.1.length:Int))<|
   bnd (xO (l_.getD g2.1.toNat ah) (g2.2.1.getD g2.1.toNat 0)) fun v11=>
   need (0≤g2.1∧g2.1<(g2.2.2.length:Int))<|
   (tN l_ v2 g2 self2) (g2.2.2.set (g2.1.toNat) v11)
 else
  bnd (xQ l_ (⟨v2,g2.2.2⟩:bF) d_) fun v12=>
  bif (!v12) then
   ret ((⟨([]:List Bool),([]:List Int)⟩:bF),(9:Int))
  else
   ret ((⟨v2,g2.2.2⟩:bF),(0:Int))
noncomputable def DY (l_:(List aj)) (d_:(List aM)) (v2:(List Bool)) (self1:(Int×(List Int)×(List Int))→M (bF×Int)):(Int×(List Int)×(List Int))→M (bF×Int):=fun g1=>
 bif (decide (g1.1<(d_.length:Int))) then
  need (0≤g1.1∧g1.1<(d_.length:Int))<|
  need (0≤(d_.getD g1.1.toNat bL).bn∧(d_.getD g1.1.toNat bL).bn<(g1.2.1.length:Int))<|
  need (0≤(d_.getD g1.1.toNat bL).bn∧(d_.getD g1.1.toNat bL).bn<(g1.2.1.length:Int))<|
  need (InI64 (g1.1+(1:Int)))<|
  self1 ((g1.1+(1:Int)),(g1.2.1.set (((d_.getD g1.1.toNat bL).bn).toNat) (if (d_.getD g1.1.toNat bL).Low > (g1.2.1.getD (((d_.getD g1.1.toNat bL).bn).toNat) 0) then (d_.getD g1.1.toNat bL).Low else (g1.2.1.getD (((d_.getD g1.1.toNat bL).bn).toNat) 0))),g1.2.2)
 else
  need (InI64 ((l_.length:Int) - (1:Int)))<|
  bR (BN l_ d_ v2) (((l_.length:Int) - (1:Int)),g1.2.1,g1.2.2)
noncomputable def xR (l_:(List aj)) (d_:(List aM)):M (bF×Int):=
 bnd (xM l_ d_) fun v1=>
 bif (v1 != (0:Int)) then
  ret ((⟨([]:List Bool),([]:List Int)⟩:bF),v1)
 else
  bnd (wz l_ d_) fun v2=>
  need (0≤(l_.length:Int)∧(l_.length:Int)*((8:Nat):Int)≤((big:Nat):Int))<|
  need (0≤(l_.length:Int)∧(l_.length:Int)*((8:Nat):Int)≤((big:Nat):Int))<|
  bR (DY l_ d_ v2) ((0:Int),(List.replicate ((l_.length:Int).toNat) 0),(List.replicate ((l_.length:Int).toNat) 0))
noncomputable def Ga (s_:ByteArray) (self1:Int→M Bool):Int→M Bool:=fun g1=>
 bif (decide (g1<((s_.size:Nat):Int))) then
  need (0≤g1∧g1<((s_.size:Nat):Int))<|
  need ((decide ((97:Int)≤(gG s_ g1.toNat)))=true→0≤g1∧g1<((s_.size:Nat):Int))<|
  need (((decide ((97:Int)≤(gG s_ g1.toNat)))&&(decide ((gG s_ g1.toNat)≤(122:Int))))=false→0≤g1∧g1<((s_.size:Nat):Int))<|
  need (((decide ((97:Int)≤(gG s_ g1.toNat)))&&(decide ((gG s_ g1.toNat)≤(122:Int))))=false→(decide ((48:Int)≤(gG s_ g1.toNat)))=true→0≤g1∧g1<((s_.size:Nat):Int))<|
  need ((((decide ((97:Int)≤(gG s_ g1.toNat)))&&(decide ((gG s_ g1.toNat)≤(122:Int))))||((decide ((48:Int)≤(gG s_ g1.toNat)))&&(decide ((gG s_ g1.toNat)≤(57:Int)))))=false→0≤g1∧g1<((s_.size:Nat):Int))<|
  bif (!((((decide ((97:Int)≤(gG s_ g1.toNat)))&&(decide ((gG s_ g1.toNat)≤(122:Int))))||((decide ((48:Int)≤(gG s_ g1.toNat)))&&(decide ((gG s_ g1.toNat)≤(57:Int)))))||((gG s_ g1.toNat)==(45:Int)))) then
   ret false
  else
   need (InI64 (g1+(1:Int)))<|
   self1 (g1+(1:Int))
 else
  ret true
noncomputable def qV (s_:ByteArray):M Bool:=
 need (((((s_.size:Nat):Int)==(0:Int))||(decide ((16:Int)<((s_.size:Nat):Int))))=false→0≤(0:Int)∧(0:Int)<((s_.size:Nat):Int))<|
 need ((((((s_.size:Nat):Int)==(0:Int))||(decide ((16:Int)<((s_.size:Nat):Int))))||(decide ((gG s_ 0)<(97:Int))))=false→0≤(0:Int)∧(0:Int)<((s_.size:Nat):Int))<|
 bif ((((((s_.size:Nat):Int)==(0:Int))||(decide ((16:Int)<((s_.size:Nat):Int))))||(decide ((gG s_ 0)<(97:Int))))||(decide ((122:Int)<(gG s_ 0)))) then
  ret false
 else
  bR (Ga s_) (0:Int)
noncomputable def BO (p_:bB) (i_:Int) (g5:Int) (self5:Int→M Int) (self8:Int→M Int):Int→M Int:=fun g8=>
 bif (decide (g8<g5)) then
  need (0≤g8∧g8<((((p_.Groups.getD i_.toNat aF).Functions).length:Nat):Int))<|
  need (0≤g5∧g5<((((p_.Groups.getD i_.toNat aF).Functions).length:Nat):Int))<|
  bif ((((p_.Groups.getD i_.toNat aF).Functions).getD g8.toNat ByteArray.empty).toList==(((p_.Groups.getD i_.toNat aF).Functions).getD g5.toNat ByteArray.empty).toList) then
   ret (5:Int)
  else
   need (InI64 (g8+(1:Int)))<|
   self8 (g8+(1:Int))
 else
  need (InI64 (g5+(1:Int)))<|
  self5 (g5+(1:Int))
noncomputable def BP (p_:bB) (i_:Int) (self5:Int→M Int):Int→M Int:=fun g5=>
 bif (decide (g5<((((p_.Groups.getD i_.toNat aF).Functions).length:Nat):Int))) then
  bR (BO p_ i_ g5 self5) (0:Int)
 else
  ret (0:Int)
noncomputable def BQ (p_:bB) (i_:Int) (self4:Int→M Int):Int→M Int:=fun g4=>
 bif (decide (g4<((((p_.Groups.getD i_.toNat aF).Functions).length:Nat):Int))) then
  need (0≤g4∧g4<((((p_.Groups.getD i_.toNat aF).Functions).length:Nat):Int))<|
  bnd (qV (((p_.Groups.getD i_.toNat aF).Functions).getD g4.toNat ByteArray.empty)) fun v4=>
  bif (!v4) then
   ret (1:Int)
  else
   need (InI64 (g4+(1:Int)))<|
   self4 (g4+(1:Int))
 else
  bR (BP p_ i_) (0:Int)
noncomputable def BR (p_:bB) (i_:Int) (self3:Int→M Int):Int→M Int:=fun g3=>
 bif (decide (g3<((((p_.Groups.getD i_.toNat aF).bT).length:Nat):Int))) then
  need (0≤g3∧g3<((((p_.Groups.getD i_.toNat aF).bT).length:Nat):Int))<|
  need (InI64 (g3 - (1:Int)))<|
  need (0≤(g3 - (1:Int))∧(g3 - (1:Int))<((((p_.Groups.getD i_.toNat aF).bT).length:Nat):Int))<|
  bif (decide ((((p_.Groups.getD i_.toNat aF).bT).getD g3.toNat 0)≤(((p_.Groups.getD i_.toNat aF).bT).getD ((g3 - (1:Int)).toNat) 0))) then
   ret (12:Int)
  else
   need (InI64 (g3+(1:Int)))<|
   self3 (g3+(1:Int))
 else
  bR (BQ p_ i_) (0:Int)
noncomputable def BS (p_:bB) (i_:Int) (self2:Int→M Int):Int→M Int:=fun g2=>
 bif (decide (g2<((((p_.Groups.getD i_.toNat aF).bT).length:Nat):Int))) then
  need (0≤g2∧g2<((((p_.Groups.getD i_.toNat aF).bT).length:Nat):Int))<|
  need ((decide ((((p_.Groups.getD i_.toNat aF).bT).getD g2.toNat 0)<(0:Int)))=false→0≤g2∧g2<((((p_.Groups.getD i_.toNat aF).bT).length:Nat):Int))<|
  bif ((decide ((((p_.Groups.getD i_.toNat aF).bT).getD g2.toNat 0)<(0:Int)))||(decide (p_.bT≤(((p_.Groups.getD i_.toNat aF).bT).getD g2.toNat 0)))) then
   ret (2:Int)
  else
   need (InI64 (g2+(1:Int)))<|
   self2 (g2+(1:Int))
 else
  bR (BR p_ i_) (1:Int)
noncomputable def DZ (p_:bB) (i_:Int) (self1:Int→M Int):Int→M Int:=fun g1=>
 bif (decide (g1<i_)) then
  need (0≤g1∧g1<(p_.Groups.length:Int))<|
  bif (((p_.Groups.getD g1.toNat aF).Name).toList==((p_.Groups.getD i_.toNat aF).Name).toList) then
   ret (5:Int)
  else
   need (InI64 (g1+(1:Int)))<|
   self1 (g1+(1:Int))
 else
  bif ((((((p_.Groups.getD i_.toNat aF).bT).length:Nat):Int)==(0:Int))||(((((p_.Groups.getD i_.toNat aF).Functions).length:Nat):Int)==(0:Int))) then
   ret (9:Int)
  else
   bif (decide ((8:Int)<((((p_.Groups.getD i_.toNat aF).Functions).length:Nat):Int))) then
    ret (3:Int)
   else
    bR (BS p_ i_) (0:Int)
noncomputable def xS (p_:bB) (i_:Int):M Int:=
 need (0≤i_∧i_<(p_.Groups.length:Int))<|
 bnd (qV ((p_.Groups.getD i_.toNat aF).Name)) fun v1=>
 bif (!v1) then
  ret (1:Int)
 else
  bR (DZ p_ i_) (0:Int)
noncomputable def D5 (p_:bB) (self1:Int→M Int):Int→M Int:=fun g1=>
 bif (decide (g1<(p_.Groups.length:Int))) then
  bnd (xS p_ g1) fun v3=>
  bif (v3 != (0:Int)) then
   ret v3
  else
   need (InI64 (g1+(1:Int)))<|
   self1 (g1+(1:Int))
 else
  ret (0:Int)
noncomputable def xU (p_:bB):M Int:=
 bif ((decide (p_.bT<(0:Int)))||(decide ((64:Int)<p_.bT))) then
  ret (2:Int)
 else
  bif (decide ((24:Int)<(p_.Groups.length:Int))) then
   ret (3:Int)
  else
   bR (D5 p_) (0:Int)
noncomputable def D6 (l_:(List ByteArray)) (self1:Int→M Bool):Int→M Bool:=fun g1=>
 bif (decide (g1<(l_.length:Int))) then
  need (0≤g1∧g1<(l_.length:Int))<|
  bnd (qV (l_.getD g1.toNat ByteArray.empty)) fun v4=>
  bif (!v4) then
   ret false
  else
   need (InI64 (g1+(1:Int)))<|
   self1 (g1+(1:Int))
 else
  ret true
noncomputable def xV (p_:bB) (l_:(List ByteArray)):M Bool:=
 bnd (xU p_) fun v1=>
 bif ((v1 != (0:Int))||(decide ((10:Int)<(l_.length:Int)))) then
  ret false
 else
  bR (D6 l_) (0:Int)
noncomputable def K7 (g_:aY) (function_:ByteArray) (self1:Int→M Int):Int→M Int:=fun g1=>
 bif (decide (g1<(g_.Functions.length:Int))) then
  need (0≤g1∧g1<(g_.Functions.length:Int))<|
  bif ((g_.Functions.getD g1.toNat ByteArray.empty).toList==function_.toList) then
   ret g1
  else
   need (InI64 (g1+(1:Int)))<|
   self1 (g1+(1:Int))
 else
  ret (-1:Int)
noncomputable def zG (g_:aY) (function_:ByteArray):M Int:=
 bR (K7 g_ function_) (0:Int)
noncomputable def D7 (a_:(List Int)) (b_:(List Int)) (self1:(Int×Int)→M Bool):(Int×Int)→M Bool:=fun g1=>
 bif ((decide (g1.1<(a_.length:Int)))&&(decide (g1.2<(b_.length:Int)))) then
  need (0≤g1.1∧g1.1<(a_.length:Int))<|
  need (0≤g1.2∧g1.2<(b_.length:Int))<|
  bif ((a_.getD g1.1.toNat 0)==(b_.getD g1.2.toNat 0)) then
   ret true
  else
   need (0≤g1.1∧g1.1<(a_.length:Int))<|
   need (0≤g1.2∧g1.2<(b_.length:Int))<|
   bif (decide ((a_.getD g1.1.toNat 0)<(b_.getD g1.2.toNat 0))) then
    need (InI64 (g1.1+(1:Int)))<|
    self1 ((g1.1+(1:Int)),g1.2)
   else
    need (InI64 (g1.2+(1:Int)))<|
    self1 (g1.1,(g1.2+(1:Int)))
 else
  ret false
noncomputable def xW (a_:(List Int)) (b_:(List Int)):M Bool:=
 bR (D7 a_ b_) ((0:Int),(0:Int))
noncomputable def Gb (p_:bB) (groups_:(List Int)) (g_:Int) (self1:Int→M Bool):Int→M Bool:=fun g1=>
 bif (decide (g1<(groups_.length:Int))) then
  need (0≤g1∧g1<(groups_.length:Int))<|
  need ((decide ((0:Int)≤(groups_.getD g1.toNat 0)))=true→0≤g1∧g1<(groups_.length:Int))<|
  need ((decide ((0:Int)≤(groups_.getD g1.toNat 0)))=true→0≤(groups_.getD g1.toNat 0)∧(groups_.getD g1.toNat 0)<(p_.Groups.length:Int))<|
  need ((decide ((0:Int)≤(groups_.getD g1.toNat 0)))=true→0≤g_∧g_<(p_.Groups.length:Int))<|
  bnd (fun v3=>(decide ((0:Int)≤(groups_.getD g1.toNat 0)))=true→xW ((p_.Groups.getD ((groups_.getD g1.toNat 0).toNat) aF).bT) ((p_.Groups.getD g_.toNat aF).bT) v3) fun v3=>
  bif ((decide ((0:Int)≤(groups_.getD g1.toNat 0)))&&v3) then
   ret false
  else
   need (InI64 (g1+(1:Int)))<|
   self1 (g1+(1:Int))
 else
  ret true
noncomputable def wB (p_:bB) (groups_:(List Int)) (g_:Int):M Bool:=
 bR (Gb p_ groups_ g_) (0:Int)
noncomputable def Gc (p_:bB) (l_:(List ByteArray)) (groups_:(List Int)) (self1:Int→M Bool):Int→M Bool:=fun g1=>
 bif (decide (g1<(groups_.length:Int))) then
  need (0≤g1∧g1<(groups_.length:Int))<|
  need (((decide ((groups_.getD g1.toNat 0)<(0:Int)))||(decide ((p_.Groups.length:Int)≤(groups_.getD g1.toNat 0))))=false→0≤(groups_.getD g1.toNat 0)∧(groups_.getD g1.toNat 0)<(p_.Groups.length:Int))<|
  need (((decide ((groups_.getD g1.toNat 0)<(0:Int)))||(decide ((p_.Groups.length:Int)≤(groups_.getD g1.toNat 0))))=false→0≤g1∧g1<(l_.length:Int))<|
  bnd (fun v5=>((decide ((groups_.getD g1.toNat 0)<(0:Int)))||(decide ((p_.Groups.length:Int)≤(groups_.getD g1.toNat 0))))=false→zG (p_.Groups.getD ((groups_.getD g1.toNat 0).toNat) aF) (l_.getD g1.toNat ByteArray.empty) v5) fun v5=>
  need ((((decide ((groups_.getD g1.toNat 0)<(0:Int)))||(decide ((p_.Groups.length:Int)≤(groups_.getD g1.toNat 0))))||(decide (v5<(0:Int))))=false→0≤g1∧g1≤(groups_.length:Int))<|
  bnd (fun v6=>(((decide ((groups_.getD g1.toNat 0)<(0:Int)))||(decide ((p_.Groups.length:Int)≤(groups_.getD g1.toNat 0))))||(decide (v5<(0:Int))))=false→wB p_ (groups_.take (g1.toNat)) (groups_.getD g1.toNat 0) v6) fun v6=>
  bif ((((decide ((groups_.getD g1.toNat 0)<(0:Int)))||(decide ((p_.Groups.length:Int)≤(groups_.getD g1.toNat 0))))||(decide (v5<(0:Int))))||(!v6)) then
   ret false
  else
   need (InI64 (g1+(1:Int)))<|
   self1 (g1+(1:Int))
 else
  ret true
noncomputable def Ay (p_:bB) (l_:(List ByteArray)) (groups_:(List Int)):M Bool:=
 bif (decide ((l_.length:Int)<(groups_.length:Int))) then
  ret false
 else
  bR (Gc p_ l_ groups_) (0:Int)
noncomputable def Fa (p_:bB) (l_:(List ByteArray)) (given_:(List Int)):M Int:=
 bnd (xV p_ l_) fun v1=>
 bif (!v1) then
  ret (1:Int)
 else
  bnd (Ay p_ l_ given_) fun v2=>
  bif (!v2) then
   ret (40:Int)
  else
   ret (0:Int)
noncomputable def BU (p_:bB) (function_:ByteArray) (self1:(Int×(List Int))→M (List Int)):(Int×(List Int))→M (List Int):=fun g1=>
 bif (decide (g1.1<(p_.Groups.length:Int))) then
  need (0≤g1.1∧g1.1<(p_.Groups.length:Int))<|
  bnd (zG (p_.Groups.getD g1.1.toNat aF) function_) fun v3=>
  bif (decide ((0:Int)≤v3)) then
   need ((g1.2.length+1)*8≤big)<|
   need (InI64 (g1.1+(1:Int)))<|
   self1 ((g1.1+(1:Int)),(g1.2++([g1.1]:List Int)))
  else
   need (InI64 (g1.1+(1:Int)))<|
   self1 ((g1.1+(1:Int)),g1.2)
 else
  ret g1.2
noncomputable def vg (p_:bB) (function_:ByteArray):M (List Int):=
 bR (BU p_ function_) ((0:Int),([]:List Int))
noncomputable def BX (self0_:(bB×(List ByteArray)×(List Int))→M ((List Int)×Bool)) (a0_:(bB×(List ByteArray)×(List Int))) (v1:(List Int)) (self1:Int→M ((List Int)×Bool)):Int→M ((List Int)×Bool):=fun g1=>
 bif (decide (g1<(v1.length:Int))) then
  need (0≤g1∧g1<(v1.length:Int))<|
  bnd (wB a0_.1 a0_.2.2 (v1.getD g1.toNat 0)) fun v6=>
  bif (!v6) then
   need (InI64 (g1+(1:Int)))<|
   self1 (g1+(1:Int))
  else
   need (a0_.2.2.length*8≤big)<|
   need (0≤g1∧g1<(v1.length:Int))<|
   need ((a0_.2.2.length+1)*8≤big)<|
   bnd (self0_ (a0_.1,a0_.2.1,(a0_.2.2++([(v1.getD g1.toNat 0)]:List Int)))) fun v7=>
   bif v7.2 then
    ret (v7.1,true)
   else
    need (InI64 (g1+(1:Int)))<|
    self1 (g1+(1:Int))
 else
  ret (([]:List Int),false)
noncomputable def j6 (self0_:(bB×(List ByteArray)×(List Int))→M ((List Int)×Bool)):(bB×(List ByteArray)×(List Int))→M ((List Int)×Bool):=fun a0_=>
 bif ((a0_.2.2.length:Int)==(a0_.2.1.length:Int)) then
  need (a0_.2.2.length*8≤big)<|
  ret (a0_.2.2,true)
 else
  need (0≤(a0_.2.2.length:Int)∧(a0_.2.2.length:Int)<(a0_.2.1.length:Int))<|
  bnd (vg a0_.1 (a0_.2.1.getD ((a0_.2.2.length:Int).toNat) ByteArray.empty)) fun v1=>
  bR (BX self0_ a0_ v1) (0:Int)
noncomputable def vk (p_:bB) (l_:(List ByteArray)) (groups_:(List Int)):M ((List Int)×Bool):=
 bR j6 (p_,l_,groups_)
noncomputable def vo (p_:bB) (l_:(List ByteArray)) (given_:(List Int)):M ((List Int)×Int):=
 bnd (Fa p_ l_ given_) fun v1=>
 bif (v1 != (0:Int)) then
  ret (([]:List Int),v1)
 else
  bnd (vk p_ l_ given_) fun v2=>
  bif (!v2.2) then
   ret (([]:List Int),(9:Int))
  else
   ret (v2.1,(0:Int))
noncomputable def BZ (l_:(List cu)) (g1:Int) (self1:Int→M Int) (self7:Int→M Int):Int→M Int:=fun g7=>
 need (0≤g1∧g1<(l_.length:Int))<|
 bif (decide (g7<((((l_.getD g1.toNat dReset).After).length:Nat):Int))) then
  need (0≤g1∧g1<(l_.length:Int))<|
  need (0≤g7∧g7<((((l_.getD g1.toNat dReset).After).length:Nat):Int))<|
  need (0≤g1∧g1<(l_.length:Int))<|
  need (InI64 (g7 - (1:Int)))<|
  need (0≤(g7 - (1:Int))∧(g7 - (1:Int))<((((l_.getD g1.toNat dReset).After).length:Nat):Int))<|
  bif (decide ((((l_.getD g1.toNat dReset).After).getD g7.toNat 0)≤(((l_.getD g1.toNat dReset).After).getD ((g7 - (1:Int)).toNat) 0))) then
   ret (12:Int)
  else
   need (InI64 (g7+(1:Int)))<|
   self7 (g7+(1:Int))
 else
  need (InI64 (g1+(1:Int)))<|
  self1 (g1+(1:Int))
noncomputable def D8 (l_:(List cu)) (g1:Int) (self1:Int→M Int) (self6:Int→M Int):Int→M Int:=fun g6=>
 need (0≤g1∧g1<(l_.length:Int))<|
 bif (decide (g6<((((l_.getD g1.toNat dReset).After).length:Nat):Int))) then
  need (0≤g1∧g1<(l_.length:Int))<|
  need (0≤g6∧g6<((((l_.getD g1.toNat dReset).After).length:Nat):Int))<|
  need ((decide ((((l_.getD g1.toNat dReset).After).getD g6.toNat 0)<(0:Int)))=false→0≤g1∧g1<(l_.length:Int))<|
  need ((decide ((((l_.getD g1.toNat dReset).After).getD g6.toNat 0)<(0:Int)))=false→0≤g6∧g6<((((l_.getD g1.toNat dReset).After).length:Nat):Int))<|
  bif ((decide ((((l_.getD g1.toNat dReset).After).getD g6.toNat 0)<(0:Int)))||(decide (g1≤(((l_.getD g1.toNat dReset).After).getD g6.toNat 0)))) then
   ret (2:Int)
  else
   need (InI64 (g6+(1:Int)))<|
   self6 (g6+(1:Int))
 else
  bR (BZ l_ g1 self1) (1:Int)
noncomputable def D9 (l_:(List cu)) (self1:Int→M Int):Int→M Int:=fun g1=>
 bif (decide (g1<(l_.length:Int))) then
  bR (D8 l_ g1 self1) (0:Int)
 else
  ret (0:Int)
noncomputable def xX (l_:(List cu)):M Int:=
 bif (decide ((32:Int)<(l_.length:Int))) then
  ret (3:Int)
 else
  bR (D9 l_) (0:Int)
noncomputable def zH (l_:(List cu)) (g2:(Int×(List Bool))) (self2:(Int×(List Bool))→M ((List Bool)×Int)) (self5:(Int×(List Bool))→M ((List Bool)×Int)):(Int×(List Bool))→M ((List Bool)×Int):=fun g5=>
 need (0≤g2.1∧g2.1<(l_.length:Int))<|
 need ((decide (g5.1<((((l_.getD g2.1.toNat dReset).After).length:Nat):Int)))=true→0≤g2.1∧g2.1<(g5.2.length:Int))<|
 bif ((decide (g5.1<((((l_.getD g2.1.toNat dReset).After).length:Nat):Int)))&&(g5.2.getD g2.1.toNat false)) then
  need (0≤g2.1∧g2.1<(l_.length:Int))<|
  need (0≤g5.1∧g5.1<((((l_.getD g2.1.toNat dReset).After).length:Nat):Int))<|
  need (0≤(((l_.getD g2.1.toNat dReset).After).getD g5.1.toNat 0)∧(((l_.getD g2.1.toNat dReset).After).getD g5.1.toNat 0)<(g5.2.length:Int))<|
  need (InI64 (g5.1+(1:Int)))<|
  self5 ((g5.1+(1:Int)),(g5.2.set ((((l_.getD g2.1.toNat dReset).After).getD g5.1.toNat 0).toNat) true))
 else
  need (InI64 (g2.1 - (1:Int)))<|
  self2 ((g2.1 - (1:Int)),g5.2)
noncomputable def zI (l_:(List cu)) (self2:(Int×(List Bool))→M ((List Bool)×Int)):(Int×(List Bool))→M ((List Bool)×Int):=fun g2=>
 bif (decide ((0:Int)≤g2.1)) then
  bR (zH l_ g2 self2) ((0:Int),g2.2)
 else
  ret (g2.2,(0:Int))
noncomputable def Ca (l_:(List cu)) (lines_:(List Int)) (self1:(Int×(List Bool))→M ((List Bool)×Int)):(Int×(List Bool))→M ((List Bool)×Int):=fun g1=>
 bif (decide (g1.1<(lines_.length:Int))) then
  need (0≤g1.1∧g1.1<(lines_.length:Int))<|
  need ((decide ((lines_.getD g1.1.toNat 0)<(0:Int)))=false→0≤g1.1∧g1.1<(lines_.length:Int))<|
  bif ((decide ((lines_.getD g1.1.toNat 0)<(0:Int)))||(decide ((l_.length:Int)≤(lines_.getD g1.1.toNat 0)))) then
   ret (([]:List Bool),(2:Int))
  else
   need (0≤g1.1∧g1.1<(lines_.length:Int))<|
   need (0≤(lines_.getD g1.1.toNat 0)∧(lines_.getD g1.1.toNat 0)<(g1.2.length:Int))<|
   need (InI64 (g1.1+(1:Int)))<|
   self1 ((g1.1+(1:Int)),(g1.2.set ((lines_.getD g1.1.toNat 0).toNat) true))
 else
  need (InI64 ((l_.length:Int) - (1:Int)))<|
  bR (zI l_) (((l_.length:Int) - (1:Int)),g1.2)
noncomputable def vv (l_:(List cu)) (lines_:(List Int)):M ((List Bool)×Int):=
 bnd (xX l_) fun v1=>
 bif (v1 != (0:Int)) then
  ret (([]:List Bool),(1:Int))
 else
  need (0≤(l_.length:Int)∧(l_.length:Int)*((1:Nat):Int)≤((big:Nat):Int))<|
  bR (Ca l_ lines_) ((0:Int),(List.replicate ((l_.length:Int).toNat) false))
noncomputable def Ea (l_:(List bM)) (self1:Int→M Int):Int→M Int:=fun g1=>
 bif (decide (g1<(l_.length:Int))) then
  need (0≤g1∧g1<(l_.length:Int))<|
  need ((decide ((l_.getD g1.toNat fH).Parent<(-1:Int)))=false→0≤g1∧g1<(l_.length:Int))<|
  bif ((decide ((l_.getD g1.toNat fH).Parent<(-1:Int)))||(decide (g1≤(l_.getD g1.toNat fH).Parent))) then
   ret (2:Int)
  else
   need (InI64 (g1+(1:Int)))<|
   self1 (g1+(1:Int))
 else
  ret (0:Int)
noncomputable def xY (l_:(List bM)):M Int:=
 bif (decide ((16:Int)<(l_.length:Int))) then
  ret (3:Int)
 else
  bR (Ea l_) (0:Int)
noncomputable def Iq (l_:(List bM)) (users_:(List Int)) (self1:Int→M Int):Int→M Int:=fun g1=>
 bif (decide (g1<(users_.length:Int))) then
  need (0≤g1∧g1<(users_.length:Int))<|
  need ((decide ((users_.getD g1.toNat 0)<(0:Int)))=false→0≤g1∧g1<(users_.length:Int))<|
  bif ((decide ((users_.getD g1.toNat 0)<(0:Int)))||(decide ((l_.length:Int)≤(users_.getD g1.toNat 0)))) then
   ret (2:Int)
  else
   need (InI64 (g1+(1:Int)))<|
   self1 (g1+(1:Int))
 else
  ret (0:Int)
noncomputable def Fb (l_:(List bM)) (users_:(List Int)):M Int:=
 bnd (xY l_) fun v1=>
 bif (v1 != (0:Int)) then
  ret (1:Int)
 else
  bR (Iq l_ users_) (0:Int)
noncomputable def Az (l_:(List bM)) (g2:(Int×(List Bool))) (self2:(Int×(List Bool))→M ((List Bool)×Int)):(List Bool)→M ((List Bool)×Int):=fun g5=>
 need (0≤g2.1∧g2.1<(g5.length:Int))<|
 need ((g5.getD g2.1.toNat false)=true→0≤g2.1∧g2.1<(l_.length:Int))<|
 bif ((g5.getD g2.1.toNat false)&&(decide ((0:Int)≤(l_.getD g2.1.toNat fH).Parent))) then
  need (0≤g2.1∧g2.1<(l_.length:Int))<|
  need (0≤(l_.getD g2.1.toNat fH).Parent∧(l_.getD g2.1.toNat fH).Parent<(g5.length:Int))<|
  need (InI64 (g2.1 - (1:Int)))<|
  self2 ((g2.1 - (1:Int)),(g5.set (((l_.getD g2.1.toNat fH).Parent).toNat) true))
 else
  need (InI64 (g2.1 - (1:Int)))<|
  self2 ((g2.1 - (1:Int)),g5)
noncomputable def Ir (l_:(List bM)) (self2:(Int×(List Bool))→M ((List Bool)×Int)):(Int×(List Bool))→M ((List Bool)×Int):=fun g2=>
 bif (decide ((0:Int)≤g2.1)) then
  need (0≤g2.1∧g2.1<(g2.2.length:Int))<|
  need ((g2.2.getD g2.1.toNat false)=false→0≤g2.1∧g2.1<(l_.length:Int))<|
  need (0≤g2.1∧g2.1<(g2.2.length:Int))<|
  (Az l_ g2 self2) (g2.2.set (g2.1.toNat) ((g2.2.getD g2.1.toNat false)||(l_.getD g2.1.toNat fH).Always))
 else
  ret (g2.2,(0:Int))
noncomputable def K8 (l_:(List bM)) (users_:(List Int)) (self1:(Int×(List Bool))→M ((List Bool)×Int)):(Int×(List Bool))→M ((List Bool)×Int):=fun g1=>
 bif (decide (g1.1<(users_.length:Int))) then
  need (0≤g1.1∧g1.1<(users_.length:Int))<|
  need (0≤(users_.getD g1.1.toNat 0)∧(users_.getD g1.1.toNat 0)<(g1.2.length:Int))<|
  need (InI64 (g1.1+(1:Int)))<|
  self1 ((g1.1+(1:Int)),(g1.2.set ((users_.getD g1.1.toNat 0).toNat) true))
 else
  need (InI64 ((l_.length:Int) - (1:Int)))<|
  bR (Ir l_) (((l_.length:Int) - (1:Int)),g1.2)
noncomputable def Iu (l_:(List bM)) (users_:(List Int)):M ((List Bool)×Int):=
 bnd (Fb l_ users_) fun v1=>
 bif (v1 != (0:Int)) then
  ret (([]:List Bool),v1)
 else
  need (0≤(l_.length:Int)∧(l_.length:Int)*((1:Nat):Int)≤((big:Nat):Int))<|
  bR (K8 l_ users_) ((0:Int),(List.replicate ((l_.length:Int).toNat) false))
noncomputable def pR (l_:(List aV)) (m_:(List Int)) (g1:(Int×(List bC)×(List aM)×(List ByteArray)×(List Int)×(List Int)×(List Int))) (self1:(Int×(List bC)×(List aM)×(List ByteArray)×(List Int)×(List Int)×(List Int))→M (bq×Bool)) (g6:((List bC)×(List aM)×(List ByteArray)×(List Int)×(List Int))) (self7:(Int×(List Int))→M (bq×Bool)):(Int×(List Int))→M (bq×Bool):=fun g7=>
 bif (decide (g7.1<((((l_.getD ((m_.getD g1.1.toNat 0).toNat) bJ).Functions).length:Nat):Int))) then
  need ((g7.2.length+1)*8≤big)<|
  need (InI64 (g7.1+(1:Int)))<|
  self7 ((g7.1+(1:Int)),(g7.2++([(m_.getD g1.1.toNat 0)]:List Int)))
 else
  need (InI64 (g1.1+(1:Int)))<|
  self1 ((g1.1+(1:Int)),g6.1,g6.2.1,g6.2.2.1,g6.2.2.2.1,g6.2.2.2.2,g7.2)
noncomputable def jG (l_:(List aV)) (m_:(List Int)) (g1:(Int×(List bC)×(List aM)×(List ByteArray)×(List Int)×(List Int)×(List Int))) (self1:(Int×(List bC)×(List aM)×(List ByteArray)×(List Int)×(List Int)×(List Int))→M (bq×Bool)):((List bC)×(List aM)×(List ByteArray)×(List Int)×(List Int))→M (bq×Bool):=fun g6=>
 need (0≤(m_.getD g1.1.toNat 0)∧(m_.getD g1.1.toNat 0)<(l_.length:Int))<|
 bR (pR l_ m_ g1 self1 g6) ((0:Int),g1.2.2.2.2.2.2)
noncomputable def xZ (b_:bQ) (g1:(Int×(List bC)×(List aM)×(List ByteArray)×(List Int)×(List Int)×(List Int))) (v1:((List Int)×Int)) (g8:((List ByteArray)×Int×(List Bool)×(List Int))) (v3:((List Int)×Int)) (v4:((List Bool)×Int)) (v5:((List Bool)×Int)) (self9:(Int×(List aL))→M (bq×Bool)):(Int×(List aL))→M (bq×Bool):=fun g9=>
 bif (decide (g9.1<(v3.1.length:Int))) then
  need (0≤g9.1∧g9.1<(g1.2.2.2.2.2.2.length:Int))<|
  need (0≤g9.1∧g9.1<(v3.1.length:Int))<|
  need (0≤g9.1∧g9.1<(v3.1.length:Int))<|
  need (0≤(v3.1.getD g9.1.toNat 0)∧(v3.1.getD g9.1.toNat 0)<(b_.bE.Groups.length:Int))<|
  need (0≤g9.1∧g9.1<(g8.1.length:Int))<|
  bnd (zG (b_.bE.Groups.getD ((v3.1.getD g9.1.toNat 0).toNat) aF) (g8.1.getD g9.1.toNat ByteArray.empty)) fun v8=>
  need ((g9.2.length+1)*24≤big)<|
  need (InI64 (g9.1+(1:Int)))<|
  self9 ((g9.1+(1:Int)),(g9.2++([(⟨(g1.2.2.2.2.2.2.getD g9.1.toNat 0),(⟨(v3.1.getD g9.1.toNat 0),v8⟩:ql)⟩:aL)]:List aL)))
 else
  ret ((⟨v1.1,(⟨g8.2.2.1,g8.2.2.2⟩:bF),g9.2,v4.1,v5.1⟩:bq),true)
noncomputable def pU (b_:bQ) (g1:(Int×(List bC)×(List aM)×(List ByteArray)×(List Int)×(List Int)×(List Int))) (v1:((List Int)×Int)):((List ByteArray)×Int×(List Bool)×(List Int))→M (bq×Bool):=fun g8=>
 bnd (vo b_.bE g8.1 ([]:List Int)) fun v3=>
 bnd (vv b_.Resets g1.2.2.2.2.1) fun v4=>
 bnd (Iu b_.cK g1.2.2.2.2.2.1) fun v5=>
 bif (((((v1.2 != (0:Int))||(g8.2.1 != (0:Int)))||(v3.2 != (0:Int)))||(v4.2 != (0:Int)))||(v5.2 != (0:Int))) then
  ret ((⟨([]:List Int),(⟨([]:List Bool),([]:List Int)⟩:bF),([]:List aL),([]:List Bool),([]:List Bool)⟩:bq),false)
 else
  bR (xZ b_ g1 v1 g8 v3 v4 v5) ((0:Int),([]:List aL))
noncomputable def zJ (b_:bQ) (l_:(List aV)) (m_:(List Int)) (self1:(Int×(List bC)×(List aM)×(List ByteArray)×(List Int)×(List Int)×(List Int))→M (bq×Bool)):(Int×(List bC)×(List aM)×(List ByteArray)×(List Int)×(List Int)×(List Int))→M (bq×Bool):=fun g1=>
 bif (decide (g1.1<(m_.length:Int))) then
  need (0≤g1.1∧g1.1<(m_.length:Int))<|
  need (0≤(m_.getD g1.1.toNat 0)∧(m_.getD g1.1.toNat 0)<(l_.length:Int))<|
  need ((g1.2.1.length+((l_.getD ((m_.getD g1.1.toNat 0).toNat) bJ).Limits).length)*24≤big)<|
  need (0≤(m_.getD g1.1.toNat 0)∧(m_.getD g1.1.toNat 0)<(l_.length:Int))<|
  need ((g1.2.2.1.length+((l_.getD ((m_.getD g1.1.toNat 0).toNat) bJ).Draws).length)*32≤big)<|
  need (0≤(m_.getD g1.1.toNat 0)∧(m_.getD g1.1.toNat 0)<(l_.length:Int))<|
  need ((g1.2.2.2.1.length+((l_.getD ((m_.getD g1.1.toNat 0).toNat) bJ).Functions).length)*16≤big)<|
  need (0≤(m_.getD g1.1.toNat 0)∧(m_.getD g1.1.toNat 0)<(l_.length:Int))<|
  need ((g1.2.2.2.2.1.length+((l_.getD ((m_.getD g1.1.toNat 0).toNat) bJ).Resets).length)*8≤big)<|
  need (0≤(m_.getD g1.1.toNat 0)∧(m_.getD g1.1.toNat 0)<(l_.length:Int))<|
  bif (decide ((0:Int)≤(l_.getD ((m_.getD g1.1.toNat 0).toNat) bJ).iF)) then
   need (0≤(m_.getD g1.1.toNat 0)∧(m_.getD g1.1.toNat 0)<(l_.length:Int))<|
   need ((g1.2.2.2.2.2.1.length+1)*8≤big)<|
   (jG l_ m_ g1 self1) ((g1.2.1++(l_.getD ((m_.getD g1.1.toNat 0).toNat) bJ).Limits),(g1.2.2.1++(l_.getD ((m_.getD g1.1.toNat 0).toNat) bJ).Draws),(g1.2.2.2.1++(l_.getD ((m_.getD g1.1.toNat 0).toNat) bJ).Functions),(g1.2.2.2.2.1++(l_.getD ((m_.getD g1.1.toNat 0).toNat) bJ).Resets),(g1.2.2.2.2.2.1++([(l_.getD ((m_.getD g1.1.toNat 0).toNat) bJ).iF]:List Int)))
  else
   (jG l_ m_ g1 self1) ((g1.2.1++(l_.getD ((m_.getD g1.1.toNat 0).toNat) bJ).Limits),(g1.2.2.1++(l_.getD ((m_.getD g1.1.toNat 0).toNat) bJ).Draws),(g1.2.2.2.1++(l_.getD ((m_.getD g1.1.toNat 0).toNat) bJ).Functions),(g1.2.2.2.2.1++(l_.getD ((m_.getD g1.1.toNat 0).toNat) bJ).Resets),g1.2.2.2.2.2.1)
 else
  bnd (xK b_.bY g1.2.1) fun v1=>
  bnd (xR b_.bH g1.2.2.1) fun v9=>
  (pU b_ g1 v1) (g1.2.2.2.1,v9.2,v9.1.On,v9.1.Level)
noncomputable def nJ (b_:bQ) (l_:(List aV)) (m_:(List Int)):M (bq×Bool):=
 bR (zJ b_ l_ m_) ((0:Int),([]:List bC),([]:List aM),([]:List ByteArray),([]:List Int),([]:List Int),([]:List Int))
noncomputable def Eb (v1:(bQ×aZ)) (v2:((List aV)×aZ)) (v3:(bq×Bool)) (self1:(Int×(List Int)×Int×(List Int)×(List Bool)×(List Int)×(List aL)×(List Bool)×(List Bool)×(List Int))→M (bQ×(List aV)×(List Int)×bq×Bool×aZ)):(Int×(List Int)×Int×(List Int)×(List Bool)×(List Int)×(List aL)×(List Bool)×(List Bool)×(List Int))→M (bQ×(List aV)×(List Int)×bq×Bool×aZ):=fun g1=>
 bif (decide (g1.1<(v2.1.length:Int))) then
  need (g1.2.2.2.2.2.2.2.2.2.length*8≤big)<|
  need ((g1.2.2.2.2.2.2.2.2.2.length+1)*8≤big)<|
  bnd (nJ v1.1 v2.1 (g1.2.2.2.2.2.2.2.2.2++([g1.1]:List Int))) fun v8=>
  bif ((v3.2&&v8.2)==true) then
   bnd (bI (5:Int) (⟨g1.2.1,g1.2.2.1⟩:aZ)) fun v9=>
   bif ((v3.2&&v8.2)&&(decide ((0:Int)<v9.1))) then
    need ((g1.2.2.2.2.2.2.2.2.2.length+1)*8≤big)<|
    need (InI64 (g1.1+(1:Int)))<|
    self1 ((g1.1+(1:Int)),v9.2.L,v9.2.At,v8.1.Setting,v8.1.Rails.On,v8.1.Rails.Level,v8.1.Uses,v8.1.Released,v8.1.Powered,(g1.2.2.2.2.2.2.2.2.2++([g1.1]:List Int)))
   else
    need (InI64 (g1.1+(1:Int)))<|
    self1 ((g1.1+(1:Int)),v9.2.L,v9.2.At,g1.2.2.2.1,g1.2.2.2.2.1,g1.2.2.2.2.2.1,g1.2.2.2.2.2.2.1,g1.2.2.2.2.2.2.2.1,g1.2.2.2.2.2.2.2.2.1,g1.2.2.2.2.2.2.2.2.2)
  else
   need ((v3.2&&v8.2)=false)<|
   need (InI64 (g1.1+(1:Int)))<|
   self1 ((g1.1+(1:Int)),g1.2.1,g1.2.2.1,g1.2.2.2.1,g1.2.2.2.2.1,g1.2.2.2.2.2.1,g1.2.2.2.2.2.2.1,g1.2.2.2.2.2.2.2.1,g1.2.2.2.2.2.2.2.2.1,g1.2.2.2.2.2.2.2.2.2)
 else
  ret (v1.1,v2.1,g1.2.2.2.2.2.2.2.2.2,(⟨g1.2.2.2.1,(⟨g1.2.2.2.2.1,g1.2.2.2.2.2.1⟩:bF),g1.2.2.2.2.2.2.1,g1.2.2.2.2.2.2.2.1,g1.2.2.2.2.2.2.2.2.1⟩:bq),v3.2,(⟨g1.2.1,g1.2.2.1⟩:aZ))
noncomputable def x9 (o0_:aZ):M (bQ×(List aV)×(List Int)×bq×Bool×aZ):=
 bnd (nQ o0_) fun v1=>
 bnd (lH v1.1 (5:Int) v1.2) fun v2=>
 bnd (nJ v1.1 v2.1 ([]:List Int)) fun v3=>
 bR (Eb v1 v2 v3) ((0:Int),v2.2.L,v2.2.At,v3.1.Setting,v3.1.Rails.On,v3.1.Rails.Level,v3.1.Uses,v3.1.Released,v3.1.Powered,([]:List Int))
noncomputable def nS (o0_:aZ):M (dP×aZ):=
 bnd (dI ([(1:Int),(2:Int),(3:Int),(10:Int),(11:Int),(12:Int),(9:Int)]:List Int) o0_) fun v1=>
 bnd (eY (-1:Int) (5:Int) v1.2) fun v2=>
 bnd (eY (-1:Int) (3:Int) v2.2) fun v3=>
 ret ((⟨v1.1,v2.1,v3.1⟩:dP),v3.2)
noncomputable def AA (g_:bq):M ((List Int)×(List Bool)×(List Int)×(List aL)×(List Bool)×(List Bool)):=
 need (g_.Setting.length*8≤big)<|
 need (g_.Rails.On.length*1≤big)<|
 need (g_.Rails.Level.length*8≤big)<|
 need (g_.Uses.length*24≤big)<|
 need (g_.Released.length*1≤big)<|
 need (g_.Powered.length*1≤big)<|
 ret (g_.Setting,g_.Rails.On,g_.Rails.Level,g_.Uses,g_.Released,g_.Powered)
noncomputable def nT (w_:dP) (v1:((List Int)×(List Bool)×(List Int)×(List aL)×(List Bool)×(List Bool))):(Nat×(List aL))→M (bq×Int):=fun g3=>
 need (g3.1≤g3.2.length)<|
 bif (decide ((0:Int)<w_.Value)) then
  need (InI64 (w_.Value - (1:Int)))<|
  need ((g3.1+1)*24≤big)<|
  ret ((⟨v1.1,(⟨v1.2.1,v1.2.2.1⟩:bF),((g3.2.take (g3.1))++([(⟨(-1:Int),(⟨w_.Unit,(w_.Value - (1:Int))⟩:ql)⟩:aL)]:List aL)),v1.2.2.2.2.1,v1.2.2.2.2.2⟩:bq),(0:Int))
 else
  ret ((⟨v1.1,(⟨v1.2.1,v1.2.2.1⟩:bF),(g3.2.take (g3.1)),v1.2.2.2.2.1,v1.2.2.2.2.2⟩:bq),(0:Int))
noncomputable def Cb (w_:dP) (v1:((List Int)×(List Bool)×(List Int)×(List aL)×(List Bool)×(List Bool))) (kk:(Nat×(List aL))→M (bq×Int)) (self4:Int→M (bq×Int)):Int→M (bq×Int):=fun g4=>
 bif (decide (g4<(v1.2.2.2.1.length:Int))) then
  need (0≤g4∧g4<(v1.2.2.2.1.length:Int))<|
  bif (((v1.2.2.2.1.getD g4.toNat bS).Use).eH==w_.Unit) then
   need (0≤g4∧((0:Nat):Int)+g4≤(v1.2.2.2.1.length:Int))<|
   need (InI64 (g4+(1:Int)))<|
   need (0≤(g4+(1:Int))∧(g4+(1:Int))≤(v1.2.2.2.1.length:Int))<|
   need ((0+g4.toNat)+(v1.2.2.2.1.length - (g4+(1:Int)).toNat)≤v1.2.2.2.1.length)<|
   kk ((g4.toNat+(v1.2.2.2.1.length - (g4+(1:Int)).toNat)),(Lg v1.2.2.2.1 ((0+g4.toNat)) ((v1.2.2.2.1.drop ((0+(g4+(1:Int)).toNat))).take ((v1.2.2.2.1.length - (g4+(1:Int)).toNat)))))
  else
   need (InI64 (g4+(1:Int)))<|
   self4 (g4+(1:Int))
 else
  kk (v1.2.2.2.1.length,v1.2.2.2.1)
noncomputable def fU (g_:bq) (w_:dP):(Int×Bool)→M (bq×Int):=fun g1=>
 bif ((((decide (w_.Unit<(0:Int)))||(decide (g1.1≤w_.Unit)))||(decide (w_.Value<(0:Int))))||(g1.2&&(decide ((1:Int)<w_.Value)))) then
  ret (g_,(2:Int))
 else
  bnd (AA g_) fun v1=>
  bif (w_.Kind==(1:Int)) then
   need (0≤w_.Unit∧w_.Unit<(v1.1.length:Int))<|
   ret ((⟨(v1.1.set (w_.Unit.toNat) w_.Value),(⟨v1.2.1,v1.2.2.1⟩:bF),v1.2.2.2.1,v1.2.2.2.2.1,v1.2.2.2.2.2⟩:bq),(0:Int))
  else
   bif (w_.Kind==(2:Int)) then
    need (0≤w_.Unit∧w_.Unit<(v1.2.2.1.length:Int))<|
    ret ((⟨v1.1,(⟨v1.2.1,(v1.2.2.1.set (w_.Unit.toNat) w_.Value)⟩:bF),v1.2.2.2.1,v1.2.2.2.2.1,v1.2.2.2.2.2⟩:bq),(0:Int))
   else
    bif (w_.Kind==(3:Int)) then
     need (0≤w_.Unit∧w_.Unit<(v1.2.1.length:Int))<|
     ret ((⟨v1.1,(⟨(v1.2.1.set (w_.Unit.toNat) (w_.Value==(1:Int))),v1.2.2.1⟩:bF),v1.2.2.2.1,v1.2.2.2.2.1,v1.2.2.2.2.2⟩:bq),(0:Int))
    else
     bif (w_.Kind==(11:Int)) then
      need (0≤w_.Unit∧w_.Unit<(v1.2.2.2.2.1.length:Int))<|
      ret ((⟨v1.1,(⟨v1.2.1,v1.2.2.1⟩:bF),v1.2.2.2.1,(v1.2.2.2.2.1.set (w_.Unit.toNat) (w_.Value==(1:Int))),v1.2.2.2.2.2⟩:bq),(0:Int))
     else
      bif (w_.Kind==(12:Int)) then
       need (0≤w_.Unit∧w_.Unit<(v1.2.2.2.2.2.length:Int))<|
       ret ((⟨v1.1,(⟨v1.2.1,v1.2.2.1⟩:bF),v1.2.2.2.1,v1.2.2.2.2.1,(v1.2.2.2.2.2.set (w_.Unit.toNat) (w_.Value==(1:Int)))⟩:bq),(0:Int))
      else
       bif (w_.Kind==(10:Int)) then
        bR (Cb w_ v1 (nT w_ v1)) (0:Int)
       else
        ret ((⟨v1.1,(⟨v1.2.1,v1.2.2.1⟩:bF),v1.2.2.2.1,v1.2.2.2.2.1,v1.2.2.2.2.2⟩:bq),(0:Int))
noncomputable def yc (b_:bQ) (g_:bq) (w_:dP):M (bq×Int):=
 bif (w_.Kind==(1:Int)) then
  (fU g_ w_) ((g_.Setting.length:Int),false)
 else
  bif (w_.Kind==(2:Int)) then
   (fU g_ w_) ((g_.Rails.Level.length:Int),false)
  else
   bif (w_.Kind==(3:Int)) then
    (fU g_ w_) ((g_.Rails.On.length:Int),true)
   else
    bif (w_.Kind==(11:Int)) then
     (fU g_ w_) ((g_.Released.length:Int),true)
    else
     bif (w_.Kind==(12:Int)) then
      (fU g_ w_) ((g_.Powered.length:Int),true)
     else
      bif (w_.Kind==(10:Int)) then
       (fU g_ w_) ((24:Int),false)
      else
       ret (g_,(2:Int))
noncomputable def Gd (a_:(List Int)) (b_:(List Int)) (self1:Int→M Bool):Int→M Bool:=fun g1=>
 bif (decide (g1<(a_.length:Int))) then
  need (0≤g1∧g1<(a_.length:Int))<|
  need (0≤g1∧g1<(b_.length:Int))<|
  bif ((a_.getD g1.toNat 0) != (b_.getD g1.toNat 0)) then
   ret false
  else
   need (InI64 (g1+(1:Int)))<|
   self1 (g1+(1:Int))
 else
  ret true
noncomputable def wC (a_:(List Int)) (b_:(List Int)):M Bool:=
 bif ((a_.length:Int) != (b_.length:Int)) then
  ret false
 else
  bR (Gd a_ b_) (0:Int)
noncomputable def Ec (a_:(List Bool)) (b_:(List Bool)) (self1:Int→M Bool):Int→M Bool:=fun g1=>
 bif (decide (g1<(a_.length:Int))) then
  need (0≤g1∧g1<(a_.length:Int))<|
  need (0≤g1∧g1<(b_.length:Int))<|
  bif (!((a_.getD g1.toNat false)==(b_.getD g1.toNat false))) then
   ret false
  else
   need (InI64 (g1+(1:Int)))<|
   self1 (g1+(1:Int))
 else
  ret true
noncomputable def oL (a_:(List Bool)) (b_:(List Bool)):M Bool:=
 bif ((a_.length:Int) != (b_.length:Int)) then
  ret false
 else
  bR (Ec a_ b_) (0:Int)
noncomputable def nU (a_:bF) (b_:bF):M Bool:=
 bnd (oL a_.On b_.On) fun v1=>
 bnd (fun v2=>v1=true→wC a_.Level b_.Level v2) fun v2=>
 ret (v1&&v2)
noncomputable def zK (a_:(List aL)) (b_:(List aL)) (self1:Int→M Bool):Int→M Bool:=fun g1=>
 bif (decide (g1<(a_.length:Int))) then
  need (0≤g1∧g1<(a_.length:Int))<|
  need (0≤g1∧g1<(b_.length:Int))<|
  bif (!(((a_.getD g1.toNat bS).Device==(b_.getD g1.toNat bS).Device)&&((((a_.getD g1.toNat bS).Use).eH==((b_.getD g1.toNat bS).Use).eH)&&((((a_.getD g1.toNat bS).Use).Function==((b_.getD g1.toNat bS).Use).Function)&&true)))) then
   ret false
  else
   need (InI64 (g1+(1:Int)))<|
   self1 (g1+(1:Int))
 else
  ret true
noncomputable def rP (a_:(List aL)) (b_:(List aL)):M Bool:=
 bif ((a_.length:Int) != (b_.length:Int)) then
  ret false
 else
  bR (zK a_ b_) (0:Int)
noncomputable def wD (a_:bq) (b_:bq):M Bool:=
 bnd (wC a_.Setting b_.Setting) fun v1=>
 bnd (fun v2=>v1=true→nU a_.Rails b_.Rails v2) fun v2=>
 bnd (fun v3=>(v1&&v2)=true→rP a_.Uses b_.Uses v3) fun v3=>
 bnd (fun v4=>((v1&&v2)&&v3)=true→oL a_.Released b_.Released v4) fun v4=>
 bnd (fun v5=>(((v1&&v2)&&v3)&&v4)=true→oL a_.Powered b_.Powered v5) fun v5=>
 ret ((((v1&&v2)&&v3)&&v4)&&v5)
noncomputable def kM (at_:Int) (v3:(bQ×(List aV)×(List Int)×bq×Bool×aZ)):(List dP)→M Bool:=fun g2=>
 bnd (l5 v3.1 v3.2.1 v3.2.2.1 v3.2.2.2.1 g2) fun v11=>
 need (InI64 ((g2.length:Int)+(1:Int)))<|
 need (((g2.length:Int)+(1:Int))≠0)<|
 bif (v11.2.2.2 != (0:Int)) then
  need (0≤((IntKind.i64.wrap at_).tmod ((g2.length:Int)+(1:Int)))∧((IntKind.i64.wrap at_).tmod ((g2.length:Int)+(1:Int)))≤(g2.length:Int))<|
  bnd (l5 v3.1 v3.2.1 v3.2.2.1 v3.2.2.2.1 (g2.take (((IntKind.i64.wrap at_).tmod ((g2.length:Int)+(1:Int))).toNat))) fun v12=>
  bnd (fun v13=>((v12.2.2.2==(0:Int))||(v12.2.2.2==v11.2.2.2))=true→qU v13) fun v13=>
  ret (((v12.2.2.2==(0:Int))||(v12.2.2.2==v11.2.2.2))&&v13)
 else
  need (0≤((IntKind.i64.wrap at_).tmod ((g2.length:Int)+(1:Int)))∧((IntKind.i64.wrap at_).tmod ((g2.length:Int)+(1:Int)))≤(g2.length:Int))<|
  bnd (l5 v3.1 v3.2.1 v3.2.2.1 v3.2.2.2.1 (g2.take (((IntKind.i64.wrap at_).tmod ((g2.length:Int)+(1:Int))).toNat))) fun v14=>
  bif (v14.2.2.2 != (0:Int)) then
   ret false
  else
   bif (v14.2.2.1 != (0:Int)) then
    bnd (fun v15=>((v14.2.1==v11.2.1)&&(v14.2.2.1==v11.2.2.1))=true→wD v14.1 v11.1 v15) fun v15=>
    bnd (fun v16=>(((v14.2.1==v11.2.1)&&(v14.2.2.1==v11.2.2.1))&&v15)=true→qU v16) fun v16=>
    ret ((((v14.2.1==v11.2.1)&&(v14.2.2.1==v11.2.2.1))&&v15)&&v16)
   else
    bif (v14.2.1 != ((IntKind.i64.wrap at_).tmod ((g2.length:Int)+(1:Int)))) then
     ret false
    else
     need (0≤((IntKind.i64.wrap at_).tmod ((g2.length:Int)+(1:Int)))∧((IntKind.i64.wrap at_).tmod ((g2.length:Int)+(1:Int)))≤(g2.length:Int))<|
     bnd (l5 v3.1 v3.2.1 v3.2.2.1 v14.1 ((g2.drop (((IntKind.i64.wrap at_).tmod ((g2.length:Int)+(1:Int))).toNat)).take ((g2.length - ((IntKind.i64.wrap at_).tmod ((g2.length:Int)+(1:Int))).toNat)))) fun v17=>
     bnd (fun v18=>((v17.2.2.2==(0:Int))&&(v17.2.2.1==v11.2.2.1))=true→wD v17.1 v11.1 v18) fun v18=>
     need ((((v17.2.2.2==(0:Int))&&(v17.2.2.1==v11.2.2.1))&&v18)=true→(v11.2.2.1==(0:Int))=true→InI64 ((g2.length:Int) - ((IntKind.i64.wrap at_).tmod ((g2.length:Int)+(1:Int)))))<|
     need ((((v17.2.2.2==(0:Int))&&(v17.2.2.1==v11.2.2.1))&&v18)=true→((v11.2.2.1==(0:Int))&&(v17.2.1==((g2.length:Int) - ((IntKind.i64.wrap at_).tmod ((g2.length:Int)+(1:Int))))))=false→(v11.2.2.1 != (0:Int))=true→InI64 (((IntKind.i64.wrap at_).tmod ((g2.length:Int)+(1:Int)))+v17.2.1))<|
     bnd (fun v19=>((((v17.2.2.2==(0:Int))&&(v17.2.2.1==v11.2.2.1))&&v18)&&(((v11.2.2.1==(0:Int))&&(v17.2.1==((g2.length:Int) - ((IntKind.i64.wrap at_).tmod ((g2.length:Int)+(1:Int))))))||((v11.2.2.1 != (0:Int))&&((((IntKind.i64.wrap at_).tmod ((g2.length:Int)+(1:Int)))+v17.2.1)==v11.2.1))))=true→qU v19) fun v19=>
     ret (((((v17.2.2.2==(0:Int))&&(v17.2.2.1==v11.2.2.1))&&v18)&&(((v11.2.2.1==(0:Int))&&(v17.2.1==((g2.length:Int) - ((IntKind.i64.wrap at_).tmod ((g2.length:Int)+(1:Int))))))||((v11.2.2.1 != (0:Int))&&((((IntKind.i64.wrap at_).tmod ((g2.length:Int)+(1:Int)))+v17.2.1)==v11.2.1))))&&v19)
noncomputable def yg (v3:(bQ×(List aV)×(List Int)×bq×Bool×aZ)) (kk:(List dP)→M Bool) (self3:(Int×(List Int)×Int×(List dP))→M Bool):(Int×(List Int)×Int×(List dP))→M Bool:=fun g3=>
 bif (decide ((0:Int)<g3.1)) then
  bnd (nS (⟨g3.2.1,g3.2.2.1⟩:aZ)) fun v25=>
  bnd (yc v3.1 v3.2.2.2.1 v25.1) fun v26=>
  bif (v26.2==(0:Int)) then
   need ((g3.2.2.2.length+1)*24≤big)<|
   need (InI64 (g3.1 - (1:Int)))<|
   self3 ((g3.1 - (1:Int)),v25.2.L,v25.2.At,(g3.2.2.2++([v25.1]:List dP)))
  else
   need (InI64 (g3.1 - (1:Int)))<|
   self3 ((g3.1 - (1:Int)),v25.2.L,v25.2.At,g3.2.2.2)
 else
  kk g3.2.2.2
noncomputable def wE (t_:(List Int)) (at_:Int):M Bool:=
 bif (decide ((400:Int)<(t_.length:Int))) then
  bnd (qU) fun v1=>
  ret v1
 else
  bnd (EZ t_) fun v2=>
  bnd (x9 (⟨v2.1,v2.2⟩:aZ)) fun v3=>
  bnd (bI (7:Int) v3.2.2.2.2.2) fun v20=>
  bR (yg v3 (kM at_ v3)) (v20.1,v20.2.L,v20.2.At,([]:List dP))
end Go.Proofs.YtfblhejmclcdmaaGreatDoor

/- A part of the proof. -/
import Derived.Test.YtnbjfoeapbncjaaGreatDoorA3
set_option maxHeartbeats 4000000
set_option linter.unusedVariables false
set_option linter.unusedSimpArgs false
namespace Go.Proofs.YtnbjfoeapbncjaaGreatDoor
open Go.Ab
set_option maxRecDepth 100000
noncomputable section
abbrev Sf (A B:Type):=(A→M B)→A→M B
structure bf where
 gN:Int
 bH:(List Int)
 bS:(List Int)
 Low:Int
 kZ:Int
def bK:bf:=⟨0,[],[],0,0⟩
instance:Inhabited bf:=⟨bK⟩
structure aL where
 dx:Int
 dY:(List Int)
 iI:Int
 jT:Int
 nk:Bool
def aZ:aL:=⟨0,[],0,0,false⟩
instance:Inhabited aL:=⟨aZ⟩
structure fA where
 uo:ByteArray
 bT:(List Int)
 aC:(List ByteArray)
def aM:fA:=⟨ByteArray.empty,[],[]⟩
instance:Inhabited fA:=⟨aM⟩
structure bI where
 bT:Int
 aF:(List fA)
def YR:bI:=⟨0,[]⟩
instance:Inhabited bI:=⟨YR⟩
structure fF where
 iF:(List Int)
def gF:fF:=⟨[]⟩
instance:Inhabited fF:=⟨gF⟩
structure eF where
 dx:Int
 nk:Bool
def jI:eF:=⟨0,false⟩
instance:Inhabited eF:=⟨jI⟩
structure aW where
 bM:(List bf)
 aT:(List aL)
 aU:bI
 bg:(List fF)
 bF:(List eF)
def abP:aW:=⟨[],[],YR,[],[]⟩
instance:Inhabited aW:=⟨abP⟩
structure bX where
 Eh:Int
 Low:Int
 kZ:Int
def lU:bX:=⟨0,0,0⟩
instance:Inhabited bX:=⟨lU⟩
structure bU where
 fG:Int
 Low:Int
 kZ:Int
 Load:Int
def fI:bU:=⟨0,0,0,0⟩
instance:Inhabited bU:=⟨fI⟩
structure ay where
 eH:(List bX)
 fU:(List bU)
 aC:(List ByteArray)
 bg:(List Int)
 gy:Int
 aO:(List Int)
def bE:ay:=⟨[],[],[],[],0,[]⟩
instance:Inhabited ay:=⟨bE⟩
structure dO where
 On:(List Bool)
 dX:(List Int)
def Uq:dO:=⟨[],[]⟩
instance:Inhabited dO:=⟨Uq⟩
structure qm where
 fD:Int
 iw:Int
def jD:qm:=⟨0,0⟩
instance:Inhabited qm:=⟨jD⟩
structure bN where
 dM:Int
 wV:qm
def cK:bN:=⟨0,jD⟩
instance:Inhabited bN:=⟨cK⟩
structure cZ where
 dB:(List Int)
 dF:dO
 dR:(List bN)
 dh:(List Bool)
 dJ:(List Bool)
def XV:cZ:=⟨[],Uq,[],[],[]⟩
instance:Inhabited cZ:=⟨XV⟩
structure gB where
 U0:Int
 UZ:Int
def xE:gB:=⟨0,0⟩
instance:Inhabited gB:=⟨xE⟩
structure dZ where
 aK:aW
 dS:(List ay)
 bB:(List Int)
 aH:cZ
 gG:Bool
def afs:dZ:=⟨abP,[],[],XV,false⟩
instance:Inhabited dZ:=⟨afs⟩
structure oO where
 aft:Int
 afu:Int
 flow:Int
 ag8:Int
 ag9:Bool
def YS:oO:=⟨0,0,0,0,false⟩
instance:Inhabited oO:=⟨YS⟩
structure gX where
 H8:Int
 aha:Int
 afv:Int
def lY:gX:=⟨0,0,0⟩
instance:Inhabited gX:=⟨lY⟩
structure eP where
 dH:(List (List Int))
 jF:(List Int)
 vY:(List Int)
 rZ:Int
def abQ:eP:=⟨[],[],[],0⟩
instance:Inhabited eP:=⟨abQ⟩
structure xG where
 Limit:Int
 Eh:Int
 Next:(List Int)
def YT:xG:=⟨0,0,[]⟩
instance:Inhabited xG:=⟨YT⟩
structure Ad where
 zo:Bool
 aT:(List Int)
 First:Int
 Last:Int
def abR:Ad:=⟨false,[],0,0⟩
instance:Inhabited Ad:=⟨abR⟩
structure eT where
 gN:Int
 dM:Int
 dz:(List Int)
 Branches:(List xG)
 Chain:Ad
 dR:(List bN)
 bT:(List Int)
 gZ:cZ
 Settings:(List (List Int))
 Other:Int
 dW:(List Int)
def abS:eT:=⟨0,0,[],[],abR,[],[],XV,[],0,[]⟩
instance:Inhabited eT:=⟨abS⟩
structure dU where
 L:(List Int)
 At:Int
def aiN:dU:=⟨[],0⟩
instance:Inhabited dU:=⟨aiN⟩
def adE (X:Nat→Int):AV:=.agg (iW 64 0 (BM iV X))
abbrev au (l:List Int):AV:=abH l
def XW (x:bf):AV:=.agg [iV x.gN,au x.bH,au x.bS,iV x.Low,iV x.kZ]
def EA (x:aL):AV:=.agg [iV x.dx,au x.dY,iV x.iI,iV x.jT,.bool x.nk]
def eG (l:List ByteArray):AV:=.sl 1 l.length false (bD AV.str ByteArray.empty l)
def KG (x:fA):AV:=.agg [.str x.uo,au x.bT,eG x.aC]
def aX (l:List fA):AV:=.sl 3 l.length false (bD KG aM l)
def jk (x:bI):AV:=.agg [iV x.bT,aX x.aF]
def afw (x:fF):AV:=.agg [au x.iF]
def adF (x:eF):AV:=.agg [iV x.dx,.bool x.nk]
def aY (l:List bf):AV:=.sl 5 l.length false (bD XW bK l)
def aQ (l:List aL):AV:=.sl 5 l.length false (bD EA aZ l)
def bV (l:List fF):AV:=.sl 1 l.length false (bD afw gF l)
def bG (l:List eF):AV:=.sl 2 l.length false (bD adF jI l)
def gP (x:aW):AV:=.agg [aY x.bM,aQ x.aT,iV x.aU.bT,aX x.aU.aF,bV x.bg,bG x.bF]
def Ae (x:bX):AV:=.agg [iV x.Eh,iV x.Low,iV x.kZ]
def H9 (x:bU):AV:=.agg [iV x.fG,iV x.Low,iV x.kZ,iV x.Load]
def dN (l:List bX):AV:=.sl 3 l.length false (bD Ae lU l)
def eD (l:List bU):AV:=.sl 4 l.length false (bD H9 fI l)
def pX (x:ay):AV:=.agg [dN x.eH,eD x.fU,eG x.aC,au x.bg,iV x.gy,au x.aO]
def aN (l:List Bool):AV:=.sl 1 l.length false (bD AV.bool false l)
def Cz (x:dO):AV:=.agg [aN x.On,au x.dX]
def adG (x:qm):AV:=.agg [iV x.fD,iV x.iw]
def oP (x:bN):AV:=.agg [iV x.dM,iV x.wV.fD,iV x.wV.iw]
def bP (l:List bN):AV:=.sl 3 l.length false (bD oP cK l)
def nV (x:cZ):AV:=.agg [au x.dB,aN x.dF.On,au x.dF.dX,bP x.dR,aN x.dh,aN x.dJ]
def abT (x:gB):AV:=.agg [iV x.U0,iV x.UZ]
def bC (l:List ay):AV:=.sl 6 l.length false (bD pX bE l)
def Af (x:dZ):AV:=.agg [aY x.aK.bM,aQ x.aK.aT,iV x.aK.aU.bT,aX x.aK.aU.aF,bV x.aK.bg,bG x.aK.bF,bC x.dS,au x.bB,au x.aH.dB,aN x.aH.dF.On,au x.aH.dF.dX,bP x.aH.dR,aN x.aH.dh,aN x.aH.dJ,.bool x.gG]
def adH (x:oO):AV:=.agg [iV x.aft,iV x.afu,iV x.flow,iV x.ag8,.bool x.ag9]
def vE (x:gX):AV:=.agg [iV x.H8,iV x.aha,iV x.afv]
def fB (l:List (List Int)):AV:=.sl 1 l.length false (bD au [] l)
def Fq (l:List Int):AV:=.sl 1 l.length false (bD (AV.int .u64) 0 l)
def Ia (x:eP):AV:=.agg [fB x.dH,Fq x.jF,au x.vY,.int .u64 x.rZ]
def adI (x:xG):AV:=.agg [iV x.Limit,iV x.Eh,au x.Next]
def zq (l:List xG):AV:=.sl 3 l.length false (bD adI YT l)
def vZ (x:eT):AV:=.agg [iV x.gN,iV x.dM,au x.dz,zq x.Branches,.bool x.Chain.zo,au x.Chain.aT,iV x.Chain.First,iV x.Chain.Last,bP x.dR,au x.bT,au x.gZ.dB,aN x.gZ.dF.On,au x.gZ.dF.dX,bP x.gZ.dR,aN x.gZ.dh,aN x.gZ.dJ,fB x.Settings,iV x.Other,au x.dW]
def Ms (l:List qm):AV:=.sl 2 l.length false (bD adG jD l)
def nW (l:List gB):AV:=.sl 2 l.length false (bD abT xE l)
def Ib (l:List oO):AV:=.sl 5 l.length false (bD adH YS l)
def Wh (l:List gX):AV:=.sl 3 l.length false (bD vE lY l)
def SX:M (aW×List ay):=ret ((⟨[],[],(⟨2,([(⟨({ data:=#[97] }:ByteArray),([0,1]:List Int),([({ data:=#[117,97,114,116] }:ByteArray)]:List ByteArray)⟩:fA)]:List fA)⟩:bI),[],[]⟩:aW),([(⟨[],[],([({ data:=#[117,97,114,116] }:ByteArray)]:List ByteArray),[],(-1:Int),[]⟩:ay),(⟨[],[],([({ data:=#[117,97,114,116] }:ByteArray)]:List ByteArray),[],(-1:Int),[]⟩:ay)]:List ay))
def KH (l_:List bf):Sf Unit (List Int):=λ av g1=>need ((decide ((0:Int)<(l_.length:Int)))=false)<|ret ([]:List Int)
def Fu (l_:List bf):M (List Int):=bJ (KH l_) ()
def M8 (v1:List Int):Sf Unit Int:=λ iZ g3=>need ((decide ((0:Int)<(v1.length:Int)))=false)<|ret (0:Int)
def M9 (l_:List bf):Sf Unit Int:=λ dL g2=>need ((decide ((0:Int)<(l_.length:Int)))=false)<|bnd (Fu l_) λ v1=>bJ (M8 v1) ()
def PV (l_:List bf):Sf Unit Int:=λ av g1=>need ((decide ((0:Int)<(l_.length:Int)))=false)<|bJ (M9 l_) ()
def tO (l_:List bf):M Int:=need ((decide ((16:Int)<(l_.length:Int)))=false)<|bJ (PV l_) ()
def Na (l_:List aL):Sf Unit Int:=λ dL g2=>need ((decide ((0:Int)<(l_.length:Int)))=false)<|ret (0:Int)
def PW (l_:List aL):Sf Unit Int:=λ av g1=>need ((decide ((0:Int)<(l_.length:Int)))=false)<|bJ (Na l_) ()
def tQ (l_:List aL):M Int:=need ((decide ((16:Int)<(l_.length:Int)))=false)<|bJ (PW l_) ()
def RH (s_:ByteArray):Sf Int Bool:=λ av g1=>bif decide (g1<((s_.size:Nat):Int)) then need (0≤g1∧g1<((s_.size:Nat):Int))<|need ((decide ((97:Int)≤(eX s_ g1.toNat)))=true→0≤g1∧g1<((s_.size:Nat):Int))<|need (((decide ((97:Int)≤(eX s_ g1.toNat)))&&(decide ((eX s_ g1.toNat)≤122)))=false→0≤g1∧g1<((s_.size:Nat):Int))<|need (((decide ((97:Int)≤(eX s_ g1.toNat)))&&(decide ((eX s_ g1.toNat)≤122)))=false→(decide ((48:Int)≤(eX s_ g1.toNat)))=true→0≤g1∧g1<((s_.size:Nat):Int))<|need ((((decide ((97:Int)≤(eX s_ g1.toNat)))&&(decide ((eX s_ g1.toNat)≤122)))||((decide ((48:Int)≤(eX s_ g1.toNat)))&&(decide ((eX s_ g1.toNat)≤57))))=false→0≤g1∧g1<((s_.size:Nat):Int))<|need ((!((((decide ((97:Int)≤(eX s_ g1.toNat)))&&(decide ((eX s_ g1.toNat)≤122)))||((decide ((48:Int)≤(eX s_ g1.toNat)))&&(decide ((eX s_ g1.toNat)≤57))))||((eX s_ g1.toNat)==45)))=false)<|need (aG (g1+1))<|av (g1+1) else ret true
def wh (s_:ByteArray):M Bool:=need (((((s_.size:Nat):Int)==0)||(decide ((16:Int)<((s_.size:Nat):Int))))=false→0≤(0:Int)∧(0:Int)<((s_.size:Nat):Int))<|need ((((((s_.size:Nat):Int)==0)||(decide ((16:Int)<((s_.size:Nat):Int))))||(decide ((eX s_ 0)<97)))=false→0≤(0:Int)∧(0:Int)<((s_.size:Nat):Int))<|need (((((((s_.size:Nat):Int)==0)||(decide ((16:Int)<((s_.size:Nat):Int))))||(decide ((eX s_ 0)<97)))||(decide ((122:Int)<(eX s_ 0))))=false)<|bJ (RH s_) 0
def Nb (g5:Int) (uT:Int→M Int):Sf Unit Int:=λ ahb g8=>need ((decide ((0:Int)<g5))=false)<|need (aG (g5+1))<|uT (g5+1)
def Nc (p_:bI) (i_:Int):Sf Int Int:=λ uT g5=>bif decide (g5<((((p_.aF.getD i_.toNat aM).aC).length:Nat):Int)) then bJ (Nb g5 uT) () else ret (0:Int)
def Nf (p_:bI) (i_:Int):Sf Int Int:=λ nN g4=>bif decide (g4<((((p_.aF.getD i_.toNat aM).aC).length:Nat):Int)) then need (0≤g4∧g4<((((p_.aF.getD i_.toNat aM).aC).length:Nat):Int))<|bnd (wh (((p_.aF.getD i_.toNat aM).aC).getD g4.toNat ByteArray.empty)) λ v4=>need ((!v4)=false)<|need (aG (g4+1))<|nN (g4+1) else bJ (Nc p_ i_) 0
def Ng (p_:bI) (i_:Int):Sf Int Int:=λ iZ g3=>bif decide (g3<((((p_.aF.getD i_.toNat aM).bT).length:Nat):Int)) then need (0≤g3∧g3<((((p_.aF.getD i_.toNat aM).bT).length:Nat):Int))<|need (aG (g3 - 1))<|need (0≤(g3 - 1)∧(g3 - 1)<((((p_.aF.getD i_.toNat aM).bT).length:Nat):Int))<|need ((decide ((((p_.aF.getD i_.toNat aM).bT).getD g3.toNat 0)≤(((p_.aF.getD i_.toNat aM).bT).getD ((g3 - 1).toNat) 0)))=false)<|need (aG (g3+1))<|iZ (g3+1) else bJ (Nf p_ i_) 0
def Nh (p_:bI) (i_:Int):Sf Int Int:=λ dL g2=>bif decide (g2<((((p_.aF.getD i_.toNat aM).bT).length:Nat):Int)) then need (0≤g2∧g2<((((p_.aF.getD i_.toNat aM).bT).length:Nat):Int))<|need ((decide ((((p_.aF.getD i_.toNat aM).bT).getD g2.toNat 0)<0))=false→0≤g2∧g2<((((p_.aF.getD i_.toNat aM).bT).length:Nat):Int))<|need (((decide ((((p_.aF.getD i_.toNat aM).bT).getD g2.toNat 0)<0))||(decide (p_.bT≤(((p_.aF.getD i_.toNat aM).bT).getD g2.toNat 0))))=false)<|need (aG (g2+1))<|dL (g2+1) else bJ (Ng p_ i_) 1
def PX (p_:bI) (i_:Int):Sf Unit Int:=λ av g1=>need ((decide ((0:Int)<i_))=false)<|need (((((((p_.aF.getD i_.toNat aM).bT).length:Nat):Int)==0)||(((((p_.aF.getD i_.toNat aM).aC).length:Nat):Int)==0))=false)<|need ((decide ((8:Int)<((((p_.aF.getD i_.toNat aM).aC).length:Nat):Int)))=false)<|bJ (Nh p_ i_) 0
def Mw (p_:bI) (i_:Int):M Int:=need (0≤i_∧i_<(p_.aF.length:Int))<|bnd (wh ((p_.aF.getD i_.toNat aM).uo)) λ v1=>need ((!v1)=false)<|bJ (PX p_ i_) ()
def PY (p_:bI):Sf Int Int:=λ av g1=>bif decide (g1<(p_.aF.length:Int)) then bnd (Mw p_ g1) λ v3=>need ((v3 != 0)=false)<|need (aG (g1+1))<|av (g1+1) else ret (0:Int)
def xH (p_:bI):M Int:=need (((decide (p_.bT<0))||(decide ((64:Int)<p_.bT)))=false)<|need ((decide ((24:Int)<(p_.aF.length:Int)))=false)<|bJ (PY p_) 0
def PZ (l_:List fF):Sf Unit Int:=λ av g1=>need ((decide ((0:Int)<(l_.length:Int)))=false)<|ret (0:Int)
def xI (l_:List fF):M Int:=need ((decide ((32:Int)<(l_.length:Int)))=false)<|bJ (PZ l_) ()
def P5 (l_:List eF):Sf Unit Int:=λ av g1=>need ((decide ((0:Int)<(l_.length:Int)))=false)<|ret (0:Int)
def xJ (l_:List eF):M Int:=need ((decide ((16:Int)<(l_.length:Int)))=false)<|bJ (P5 l_) ()
def Mx (b_:aW):M Int:=bnd (tO b_.bM) λ v1=>need ((v1 != 0)=false)<|bnd (tQ b_.aT) λ v2=>need ((v2 != 0)=false)<|bnd (xH b_.aU) λ v3=>need ((v3 != 0)=false)<|bnd (xI b_.bg) λ v4=>need ((v4 != 0)=false)<|bnd (xJ b_.bF) λ v5=>ret v5
def P6 (x_:ay):Sf Unit Int:=λ jL g6=>need ((decide ((1:Int)<(x_.aO.length:Int)))=false)<|ret (0:Int)
def P7 (x_:ay):Sf Unit Int:=λ uT g5=>need ((decide ((0:Int)<(x_.aO.length:Int)))=false)<|bJ (P6 x_) ()
def P8 (b_:aW) (x_:ay):Sf Unit Int:=λ nN g4=>need ((decide ((0:Int)<(x_.bg.length:Int)))=false)<|need (((decide (x_.gy<(-1:Int)))||(decide ((b_.bF.length:Int)≤x_.gy)))=false)<|bJ (P7 x_) ()
def P9 (b_:aW) (x_:ay):Sf Int Int:=λ iZ g3=>bif decide (g3<(x_.aC.length:Int)) then need (0≤g3∧g3<(x_.aC.length:Int))<|bnd (wh (x_.aC.getD g3.toNat ByteArray.empty)) λ v3=>need ((!v3)=false)<|need (aG (g3+1))<|iZ (g3+1) else bJ (P8 b_ x_) ()
def Qa (b_:aW) (x_:ay):Sf Unit Int:=λ dL g2=>need ((decide ((0:Int)<(x_.fU.length:Int)))=false)<|bJ (P9 b_ x_) 0
def RI (b_:aW) (x_:ay):Sf Unit Int:=λ av g1=>need ((decide ((0:Int)<(x_.eH.length:Int)))=false)<|bJ (Qa b_ x_) ()
def Qb (b_:aW) (l_:List ay) (x_:ay):M Int:=need ((((decide ((32:Int)<(x_.eH.length:Int)))||(decide ((32:Int)<(x_.fU.length:Int))))||(decide ((10:Int)<(x_.aC.length:Int))))=false)<|bJ (RI b_ x_) ()
def RJ (b_:aW) (l_:List ay):Sf Int Int:=λ av g1=>bif decide (g1<(l_.length:Int)) then need (0≤g1∧g1<(l_.length:Int))<|bnd (Qb b_ l_ (l_.getD g1.toNat bE)) λ v4=>need ((v4 != 0)=false)<|need (aG (g1+1))<|av (g1+1) else ret (0:Int)
def wo (b_:aW) (l_:List ay):M Int:=bnd (Mx b_) λ v1=>need ((v1 != 0)=false)<|need ((decide ((12:Int)<(l_.length:Int)))=false)<|bJ (RJ b_ l_) 0
def KI (g1:Int) (av:Int→M Bool):Sf Unit Bool:=λ nN g4=>need ((decide ((0:Int)<g1))=false)<|need (aG (g1+1))<|av (g1+1)
def KJ (l_:List ay) (ak:List Int):Sf Int Bool:=λ av g1=>bif decide (g1<(ak.length:Int)) then need (0≤g1∧g1<(ak.length:Int))<|need ((decide ((ak.getD g1.toNat 0)<0))=false→0≤g1∧g1<(ak.length:Int))<|need (((decide ((ak.getD g1.toNat 0)<0))||(decide ((l_.length:Int)≤(ak.getD g1.toNat 0))))=false)<|bJ (KI g1 av) () else ret true
def oC (l_:List ay) (ak:List Int):M Bool:=bJ (KJ l_ ak) 0
def Ni (ak:List Int):Sf Unit (List bX):=λ av g1=>need ((decide ((0:Int)<(ak.length:Int)))=false)<|ret ([]:List bX)
def Ic (l_:List ay) (ak:List Int):M (List bX):=bJ (Ni ak) ()
def Qc (ak:List Int):Sf Unit (List bU):=λ av g1=>need ((decide ((0:Int)<(ak.length:Int)))=false)<|ret ([]:List bU)
def MB (l_:List ay) (ak:List Int):M (List bU):=bJ (Qc ak) ()
def F8 (l_:List ay) (ak:List Int):Sf (Int×Int) Int:=λ av g1=>bif decide (g1.2<(ak.length:Int)) then need (0≤g1.2∧g1.2<(ak.length:Int))<|need (((decide ((0:Int)≤(ak.getD g1.2.toNat 0)))&&(decide ((ak.getD g1.2.toNat 0)<(l_.length:Int))))=true)<|need (0≤(ak.getD g1.2.toNat 0)∧(ak.getD g1.2.toNat 0)<(l_.length:Int))<|need (aG (g1.1+((((l_.getD ((ak.getD g1.2.toNat 0).toNat) bE).aC).length:Nat):Int)))<|need (aG (g1.2+1))<|av ((g1.1+((((l_.getD ((ak.getD g1.2.toNat 0).toNat) bE).aC).length:Nat):Int)),(g1.2+1)) else ret g1.1
def uz (l_:List ay) (ak:List Int):M Int:=bJ (F8 l_ ak) (0,0)
def Nj (m_:List bX):Sf Unit Bool:=λ av g1=>need ((decide ((0:Int)<(m_.length:Int)))=false)<|ret true
def Ag (l_:List bf) (m_:List bX):M Bool:=bnd (tO l_) λ v1=>need (((v1 != 0)||(decide ((32:Int)<(m_.length:Int))))=false)<|bJ (Nj m_) ()
def MC (l_:List bf) (m_:List bX):M Int:=bnd (tO l_) λ v1=>need ((v1 != 0)=false)<|bnd (Ag l_ m_) λ v2=>need ((!v2)=false)<|ret (0:Int)
def Nk (l_:List bf):Sf Unit (List gB×List Bool):=λ av g1=>need ((decide ((0:Int)<(l_.length:Int)))=false)<|ret (([]:List gB),[])
def Ah (l_:List bf) (s_:List Int):M (List gB×List Bool):=bJ (Nk l_) ()
def Ur (l_:List bf):Sf Unit Bool:=λ av g1=>need ((decide ((0:Int)<(l_.length:Int)))=false)<|ret true
def KL (l_:List bf) (r_:List gB) (RL:List Bool):M Bool:=bJ (Ur l_) ()
def RN (l_:List bf) (m_:List bX) (v1:List gB×List Bool):Sf Unit Bool:=λ av g1=>need ((decide ((0:Int)<(m_.length:Int)))=false)<|bnd (KL l_ v1.1 v1.2) λ v2=>ret v2
def Qd (l_:List bf) (s_:List Int) (m_:List bX):M Bool:=bnd (Ah l_ s_) λ v1=>bJ (RN l_ m_ v1) ()
def RO (l_:List bf):Sf (List Int) (List Int×Bool):=λ av g1=>need ((decide ((0:Int)≤((l_.length:Int) - 1)))=false)<|ret (([]:List Int),false)
def Qe (l_:List bf) (s_:List Int):M (List Int×Bool):=need ((0+s_.length)*8≤big)<|need (aG ((l_.length:Int) - 1))<|bJ (RO l_) (([]:List Int)++s_)
def Ie (l_:List bf) (m_:List bX) (g1:(List Int×Bool×(List (List Int)))) (av:(List Int×Bool×(List (List Int)))→M (List (List Int))):Unit→M (List (List Int)):=λ g4=>bnd (Qd l_ g1.1 m_) λ v5=>need (v5=true)<|need ((g1.2.2.length+1)*24≤big)<|bnd (Qe l_ g1.1) λ v6=>av (v6.1,v6.2,(g1.2.2++([g1.1]:List (List Int))))
def Us (l_:List bf) (m_:List bX):Sf (List Int×Bool×(List (List Int))) (List (List Int)):=λ av g1=>bif g1.2.1 then (Ie l_ m_ g1 av) () else ret g1.2.2
def SY (l_:List bf) (m_:List bX):M (List (List Int)):=need (0≤(l_.length:Int)∧(l_.length:Int)*((8:Nat):Int)≤((big:Nat):Int))<|bJ (Us l_ m_) ((List.replicate ((l_.length:Int).toNat) 0),true,([]:List (List Int)))
def CB (l_:List bf) (m_:List bX):M (List Int×Int):=bnd (MC l_ m_) λ v1=>need ((v1 != 0)=false)<|bnd (SY l_ m_) λ v2=>need (((v2.length:Int)==0)=false)<|need (0≤(0:Int)∧(0:Int)<(v2.length:Int))<|ret ((v2.getD 0 []),0)
def Qf (d_:List bU):Sf Unit Bool:=λ av g1=>need ((decide ((0:Int)<(d_.length:Int)))=false)<|ret true
def CF (l_:List aL) (d_:List bU):M Bool:=bnd (tQ l_) λ v1=>need (((v1 != 0)||(decide ((32:Int)<(d_.length:Int))))=false)<|bJ (Qf d_) ()
def ME (l_:List aL) (d_:List bU):M Int:=bnd (tQ l_) λ v1=>need ((v1 != 0)=false)<|bnd (CF l_ d_) λ v2=>need ((!v2)=false)<|ret (0:Int)
def RP (l_:List aL):Sf (List Bool) (List Bool):=λ av g1=>need ((decide ((0:Int)≤((l_.length:Int) - 1)))=false)<|ret g1
def F9 (l_:List aL) (d_:List bU):M (List Bool):=need (0≤(l_.length:Int)∧(l_.length:Int)*((1:Nat):Int)≤((big:Nat):Int))<|need (aG ((l_.length:Int) - 1))<|bJ (RP l_) (List.replicate ((l_.length:Int).toNat) false)
def Qg (l_:List aL):Sf (List Int) (List Int):=λ av g1=>need ((decide ((0:Int)≤((l_.length:Int) - 1)))=false)<|ret g1
def MF (l_:List aL) (d_:List bU):M (List Int):=need (0≤(l_.length:Int)∧(l_.length:Int)*((8:Nat):Int)≤((big:Nat):Int))<|need (aG ((l_.length:Int) - 1))<|bJ (Qg l_) (List.replicate ((l_.length:Int).toNat) 0)
def Nl (d_:List bU):Sf Unit Bool:=λ dL g2=>need ((decide ((0:Int)<(d_.length:Int)))=false)<|ret true
def Qh (l_:List aL) (d_:List bU):Sf Unit Bool:=λ av g1=>need ((decide ((0:Int)<(l_.length:Int)))=false)<|bJ (Nl d_) ()
def CG (l_:List aL) (r_:dO) (d_:List bU):M Bool:=bnd (F9 l_ d_) λ v1=>bnd (MF l_ d_) λ v2=>bJ (Qh l_ d_) ()
def Nn (l_:List aL) (d_:List bU) (v2:List Bool) (g1:List Int×List Int):Sf Unit (dO×Int):=λ dL g2=>need ((decide ((0:Int)≤((l_.length:Int) - 1)))=false)<|bnd (CG l_ (⟨v2,g1.2⟩:dO) d_) λ v3=>need ((!v3)=false)<|ret ((⟨v2,g1.2⟩:dO),0)
def Qi (l_:List aL) (d_:List bU) (v2:List Bool):Sf (List Int×List Int) (dO×Int):=λ av g1=>need ((decide ((0:Int)<(d_.length:Int)))=false)<|need (aG ((l_.length:Int) - 1))<|bJ (Nn l_ d_ v2 g1) ()
def CJ (l_:List aL) (d_:List bU):M (dO×Int):=bnd (ME l_ d_) λ v1=>need ((v1 != 0)=false)<|bnd (F9 l_ d_) λ v2=>need (0≤(l_.length:Int)∧(l_.length:Int)*((8:Nat):Int)≤((big:Nat):Int))<|need (0≤(l_.length:Int)∧(l_.length:Int)*((8:Nat):Int)≤((big:Nat):Int))<|bJ (Qi l_ d_ v2) ((List.replicate ((l_.length:Int).toNat) 0),(List.replicate ((l_.length:Int).toNat) 0))
def KM (l_:List fF) (g1:List Bool):Sf Unit (List Bool×Int):=λ dL g2=>need ((decide ((0:Int)≤((l_.length:Int) - 1)))=false)<|ret (g1,0)
def Np (l_:List fF) (iO:List Int):Sf (List Bool) (List Bool×Int):=λ av g1=>need ((decide ((0:Int)<(iO.length:Int)))=false)<|need (aG ((l_.length:Int) - 1))<|bJ (KM l_ g1) ()
def Ai (l_:List fF) (iO:List Int):M (List Bool×Int):=bnd (xI l_) λ v1=>need ((v1 != 0)=false)<|need (0≤(l_.length:Int)∧(l_.length:Int)*((1:Nat):Int)≤((big:Nat):Int))<|bJ (Np l_ iO) (List.replicate ((l_.length:Int).toNat) false)
def Ut (gY:List Int):Sf Unit Int:=λ av g1=>need ((decide ((0:Int)<(gY.length:Int)))=false)<|ret (0:Int)
def S9 (l_:List eF) (gY:List Int):M Int:=bnd (xJ l_) λ v1=>need ((v1 != 0)=false)<|bJ (Ut gY) ()
def Uu (l_:List eF) (g1:List Bool):Sf Unit (List Bool×Int):=λ dL g2=>need ((decide ((0:Int)≤((l_.length:Int) - 1)))=false)<|ret (g1,0)
def Wi (l_:List eF) (gY:List Int):Sf (List Bool) (List Bool×Int):=λ av g1=>need ((decide ((0:Int)<(gY.length:Int)))=false)<|need (aG ((l_.length:Int) - 1))<|bJ (Uu l_ g1) ()
def Qj (l_:List eF) (gY:List Int):M (List Bool×Int):=bnd (S9 l_ gY) λ v1=>need ((v1 != 0)=false)<|need (0≤(l_.length:Int)∧(l_.length:Int)*((1:Nat):Int)≤((big:Nat):Int))<|bJ (Wi l_ gY) (List.replicate ((l_.length:Int).toNat) false)
def Ig (l_:List bN):Sf Unit Unit:=λ av g1=>need ((decide ((0:Int)<(l_.length:Int)))=false)<|ret ()
def EB (l_:List bN) (ak:List Int):M Unit:=bJ (Ig l_) ()
def Nq (b_:aW) (ak:List Int) (g_:cZ) (v6:List Int×Int) (v7:dO×Int):Sf Unit (List Int×List Bool×List Int×List Bool×List Bool×Int×Int):=λ av g1=>need ((decide ((0:Int)<(ak.length:Int)))=false)<|bnd (Ai b_.bg ([]:List Int)) λ v8=>bnd (Qj b_.bF ([]:List Int)) λ v9=>bnd (EB g_.dR ak) λ v10=>ret (v6.1,v7.1.On,v7.1.dX,v8.1,v9.1,0,0)
def MG (b_:aW) (l_:List ay) (ak:List Int) (g_:cZ):M (List Int×List Bool×List Int×List Bool×List Bool×Int×Int):=bnd (wo b_ l_) λ v1=>need ((v1 != 0)=false)<|bnd (oC l_ ak) λ v2=>need ((!v2)=false)<|bnd (Ic l_ ak) λ v3=>bnd (MB l_ ak) λ v4=>bnd (grd (((decide ((32:Int)<(v3.length:Int)))||(decide ((32:Int)<(v4.length:Int))))=false) (uz l_ ak)) λ v5=>need ((((decide ((32:Int)<(v3.length:Int)))||(decide ((32:Int)<(v4.length:Int))))||(decide ((10:Int)<v5)))=false)<|bnd (CB b_.bM v3) λ v6=>need ((v6.2 != 0)=false)<|bnd (CJ b_.aT v4) λ v7=>need ((v7.2 != 0)=false)<|bJ (Nq b_ ak g_ v6 v7) ()
def Qk (b_:aW):M (cZ×Int):=bnd (MG b_ [] [] (⟨[],(⟨[],[]⟩:dO),[],[],[]⟩:cZ)) λ v1=>ret ((⟨v1.1,(⟨v1.2.1,v1.2.2.1⟩:dO),[],v1.2.2.2.1,v1.2.2.2.2.1⟩:cZ),v1.2.2.2.2.2.2)
def Nr (g_:cZ):Sf Unit Bool:=λ dL g2=>need ((decide ((0:Int)<(g_.dR.length:Int)))=false)<|ret true
def Ns (g_:cZ):Sf Unit Bool:=λ av g1=>need ((decide ((0:Int)<(g_.dB.length:Int)))=false)<|bJ (Nr g_) ()
def Ih (b_:aW) (l_:List ay) (g_:cZ):M Bool:=need (((((((g_.dB.length:Int) != (b_.bM.length:Int))||((g_.dF.On.length:Int) != (b_.aT.length:Int)))||((g_.dF.dX.length:Int) != (b_.aT.length:Int)))||((g_.dh.length:Int) != (b_.bg.length:Int)))||((g_.dJ.length:Int) != (b_.bF.length:Int)))=false)<|bJ (Ns g_) ()
def KN (l_:List bf):Sf Unit Bool:=λ av g1=>need ((decide ((0:Int)<(l_.length:Int)))=false)<|ret true
def Fv (l_:List bf) (s_:List Int):M Bool:=bnd (tO l_) λ v1=>need (((v1 != 0)||((s_.length:Int) != (l_.length:Int)))=false)<|bJ (KN l_) ()
def Ql (l_:List bf) (m_:List bX) (v3:List gB×List Bool):Sf Unit Bool:=λ av g1=>need ((decide ((0:Int)<(m_.length:Int)))=false)<|bnd (KL l_ v3.1 v3.2) λ v4=>ret v4
def MH (l_:List bf) (s_:List Int) (m_:List bX):M Bool:=bnd (Fv l_ s_) λ v1=>bnd (grd ((!v1)=false) (Ag l_ m_)) λ v2=>need (((!v1)||(!v2))=false)<|bnd (Ah l_ s_) λ v3=>bJ (Ql l_ m_ v3) ()
def Qm (l_:List aL):Sf Unit Bool:=λ av g1=>need ((decide ((0:Int)<(l_.length:Int)))=false)<|ret true
def MI (l_:List aL) (r_:dO):M Bool:=bnd (tQ l_) λ v1=>need ((((v1 != 0)||((r_.On.length:Int) != (l_.length:Int)))||((r_.dX.length:Int) != (l_.length:Int)))=false)<|bJ (Qm l_) ()
def MJ (l_:List aL) (r_:dO) (d_:List bU):M Bool:=bnd (CF l_ d_) λ v1=>bnd (grd (v1=true) (MI l_ r_)) λ v2=>bnd (grd ((v1&&v2)=true) (CG l_ r_ d_)) λ v3=>ret ((v1&&v2)&&v3)
def RQ (l_:List bN):Sf Unit Unit:=λ av g1=>need ((decide ((0:Int)<(l_.length:Int)))=false)<|ret ()
def Qn (l_:List bN):M Unit:=bJ (RQ l_) ()
def Nt (l_:List qm) (g1:Int×List Int):Sf Unit (List Int×Int):=λ dL g2=>need ((decide ((0:Int)<(l_.length:Int)))=false)<|ret (g1.2,0)
def Nu (p_:bI) (l_:List qm):Sf (Int×List Int) (List Int×Int):=λ av g1=>bif decide (g1.1<p_.bT) then need (0≤g1.1∧g1.1<(g1.2.length:Int))<|need (aG (g1.1+1))<|av ((g1.1+1),(g1.2.set (g1.1.toNat) (-1:Int))) else bJ (Nt l_ g1) ()
def Ii (p_:bI) (l_:List qm):M (List Int×Int):=bnd (xH p_) λ v1=>need ((v1 != 0)=false)<|need (0≤p_.bT∧p_.bT*((8:Nat):Int)≤((big:Nat):Int))<|bJ (Nu p_ l_) (0,(List.replicate (p_.bT.toNat) 0))
def Nv (l_:List fF):Sf Unit Bool:=λ av g1=>need ((decide ((0:Int)<(l_.length:Int)))=false)<|ret true
def Ij (l_:List fF) (iE:List Bool):M Bool:=bnd (xI l_) λ v1=>need (((v1 != 0)||((iE.length:Int) != (l_.length:Int)))=false)<|bJ (Nv l_) ()
def Qo (l_:List eF):Sf Unit Bool:=λ av g1=>need ((decide ((0:Int)<(l_.length:Int)))=false)<|ret true
def MK (l_:List eF) (RL:List Bool):M Bool:=bnd (xJ l_) λ v1=>need (((v1 != 0)||((RL.length:Int) != (l_.length:Int)))=false)<|bJ (Qo l_) ()
def KO (ak:List Int):Sf Unit Int:=λ nN g4=>need ((decide ((0:Int)<(ak.length:Int)))=false)<|ret (0:Int)
def KP (b_:aW) (ak:List Int) (g_:cZ):Sf Unit Int:=λ iZ g3=>need ((decide ((0:Int)<(ak.length:Int)))=false)<|bnd (MK b_.bF g_.dJ) λ v9=>need ((!v9)=false)<|bJ (KO ak) ()
def KQ (b_:aW) (ak:List Int) (g_:cZ):Sf Unit Int:=λ dL g2=>need ((decide ((0:Int)<(ak.length:Int)))=false)<|bnd (Ij b_.bg g_.dh) λ v8=>need ((!v8)=false)<|bJ (KP b_ ak g_) ()
def Nw (b_:aW) (ak:List Int) (g_:cZ):Sf Unit Int:=λ av g1=>need ((decide ((0:Int)<(ak.length:Int)))=false)<|bnd (MJ b_.aT g_.dF ([]:List bU)) λ v5=>need ((!v5)=false)<|bnd (Qn g_.dR) λ v6=>bnd (Ii b_.aU ([]:List qm)) λ v7=>need ((v7.2 != 0)=false)<|bJ (KQ b_ ak g_) ()
def Ik (b_:aW) (l_:List ay) (ak:List Int) (g_:cZ) (qF:Bool):M Int:=bnd (wo b_ l_) λ v1=>bnd (grd ((v1 != 0)=false) (oC l_ ak)) λ v2=>bnd (grd (((v1 != 0)||(!v2))=false) (Ih b_ l_ g_)) λ v3=>need ((((v1 != 0)||(!v2))||(!v3))=false)<|bnd (MH b_.bM g_.dB ([]:List bX)) λ v4=>need ((!v4)=false)<|bJ (Nw b_ ak g_) ()
def ML (b_:aW) (l_:List ay) (ak:List Int) (g_:cZ):M Bool:=bnd (Ik b_ l_ ak g_ false) λ v1=>ret (v1==(0:Int))
def Il (b_:aW) (l_:List ay) (ak:List Int) (g_:cZ) (aV:Int):M Int:=bnd (wo b_ l_) λ v1=>need ((v1 != 0)=false)<|bnd (oC l_ ak) λ v2=>need ((!v2)=false)<|bnd (ML b_ l_ ak g_) λ v3=>need ((!v3)=false)<|need (((decide (aV<0))||(decide ((l_.length:Int)≤aV)))=false)<|ret (0:Int)
def Wj (l_:List Int):Sf Unit Bool:=λ av g1=>need ((decide ((0:Int)<(l_.length:Int)))=false)<|ret false
def Wm (l_:List Int) (x_:Int):M Bool:=bJ (Wj l_) ()
def Ga (l_:List ay) (bA:List Int):Sf (Int×List bX) (List bX):=λ av g1=>bif decide (g1.1<(bA.length:Int)) then need (0≤g1.1∧g1.1<(bA.length:Int))<|need (((decide ((0:Int)≤(bA.getD g1.1.toNat 0)))&&(decide ((bA.getD g1.1.toNat 0)<(l_.length:Int))))=true)<|need (0≤(bA.getD g1.1.toNat 0)∧(bA.getD g1.1.toNat 0)<(l_.length:Int))<|need ((g1.2.length+((l_.getD ((bA.getD g1.1.toNat 0).toNat) bE).eH).length)*24≤big)<|need (aG (g1.1+1))<|av ((g1.1+1),(g1.2++(l_.getD ((bA.getD g1.1.toNat 0).toNat) bE).eH)) else ret g1.2
def AZ (l_:List ay) (bA:List Int):M (List bX):=bJ (Ga l_ bA) (0,[])
def Im (l_:List ay) (bA:List Int):Sf (Int×List bU) (List bU):=λ av g1=>bif decide (g1.1<(bA.length:Int)) then need (0≤g1.1∧g1.1<(bA.length:Int))<|need (((decide ((0:Int)≤(bA.getD g1.1.toNat 0)))&&(decide ((bA.getD g1.1.toNat 0)<(l_.length:Int))))=true)<|need (0≤(bA.getD g1.1.toNat 0)∧(bA.getD g1.1.toNat 0)<(l_.length:Int))<|need ((g1.2.length+((l_.getD ((bA.getD g1.1.toNat 0).toNat) bE).fU).length)*32≤big)<|need (aG (g1.1+1))<|av ((g1.1+1),(g1.2++(l_.getD ((bA.getD g1.1.toNat 0).toNat) bE).fU)) else ret g1.2
def CK (l_:List ay) (bA:List Int):M (List bU):=bJ (Im l_ bA) (0,[])
def aas (l_:List bN) (av:Unit→M Unit):Unit→M Unit:=Ig l_ av
def Io (l_:List bN) (bA:List Int):M Unit:=EB l_ bA
def Gb (b_:aW) (l_:List ay) (g_:cZ) (bA:List Int) (v6:List Int×Int) (v7:dO×Int):Sf (Int×List Int) (List Int×List Bool×List Int×List Bool×List Bool×Int×Int):=λ av g1=>bif decide (g1.1<(bA.length:Int)) then need (0≤g1.1∧g1.1<(bA.length:Int))<|need (0≤(bA.getD g1.1.toNat 0)∧(bA.getD g1.1.toNat 0)<(l_.length:Int))<|need ((g1.2.length+((l_.getD ((bA.getD g1.1.toNat 0).toNat) bE).bg).length)*8≤big)<|need (0≤(bA.getD g1.1.toNat 0)∧(bA.getD g1.1.toNat 0)<(l_.length:Int))<|need ((decide ((0:Int)≤(l_.getD ((bA.getD g1.1.toNat 0).toNat) bE).gy))=false)<|need (aG (g1.1+1))<|av ((g1.1+1),(g1.2++(l_.getD ((bA.getD g1.1.toNat 0).toNat) bE).bg)) else bnd (Ai b_.bg g1.2) λ v8=>bnd (Qj b_.bF ([]:List Int)) λ v9=>bnd (Io g_.dR bA) λ v10=>ret (v6.1,v7.1.On,v7.1.dX,v8.1,v9.1,0,0)
def CO (b_:aW) (l_:List ay) (g_:cZ) (bA:List Int):M (List Int×List Bool×List Int×List Bool×List Bool×Int×Int):=bnd (wo b_ l_) λ v1=>need ((v1 != 0)=false)<|bnd (oC l_ bA) λ v2=>need ((!v2)=false)<|bnd (AZ l_ bA) λ v3=>bnd (CK l_ bA) λ v4=>bnd (grd (((decide ((32:Int)<(v3.length:Int)))||(decide ((32:Int)<(v4.length:Int))))=false) (uz l_ bA)) λ v5=>need ((((decide ((32:Int)<(v3.length:Int)))||(decide ((32:Int)<(v4.length:Int))))||(decide ((10:Int)<v5)))=false)<|bnd (CB b_.bM v3) λ v6=>need ((v6.2 != 0)=false)<|bnd (CJ b_.aT v4) λ v7=>need ((v7.2 != 0)=false)<|bJ (Gb b_ l_ g_ bA v6 v7) (0,[])
def Qp (l_:List bN):Sf Unit Unit:=λ av g1=>need ((decide ((0:Int)<(l_.length:Int)))=false)<|ret ()
def MN (b_:aW) (l_:List bN):M Unit:=bJ (Qp l_) ()
def Qq (l_:List ByteArray):Sf Int Bool:=λ av g1=>bif decide (g1<(l_.length:Int)) then need (0≤g1∧g1<(l_.length:Int))<|bnd (wh (l_.getD g1.toNat ByteArray.empty)) λ v4=>need ((!v4)=false)<|need (aG (g1+1))<|av (g1+1) else ret true
def MO (p_:bI) (l_:List ByteArray):M Bool:=bnd (xH p_) λ v1=>need (((v1 != 0)||(decide ((10:Int)<(l_.length:Int))))=false)<|bJ (Qq l_) 0
def RS (iJ:List Int):Sf Unit Bool:=λ av g1=>need ((decide ((0:Int)<(iJ.length:Int)))=false)<|ret true
def Qr (p_:bI) (l_:List ByteArray) (iJ:List Int):M Bool:=need ((decide ((l_.length:Int)<(iJ.length:Int)))=false)<|bJ (RS iJ) ()
def Ta (p_:bI) (l_:List ByteArray) (dP:List Int):M Int:=bnd (MO p_ l_) λ v1=>need ((!v1)=false)<|bnd (Qr p_ l_ dP) λ v2=>need ((!v2)=false)<|ret (0:Int)
def Wn (g_:fA) (eU:ByteArray):Sf Unit Int:=λ av g1=>need ((decide ((0:Int)<(g_.aC.length:Int)))=true)<|need (0≤(0:Int)∧(0:Int)<(g_.aC.length:Int))<|need (((g_.aC.getD 0 ByteArray.empty).toList==eU.toList)=true)<|ret (0:Int)
def Qs (g_:fA) (eU:ByteArray):M Int:=bJ (Wn g_ eU) ()
def Ny (p_:bI) (eU:ByteArray):Sf (Int×List Int) (List Int):=λ av g1=>bif decide (g1.1<(p_.aF.length:Int)) then need (0≤g1.1∧g1.1<(p_.aF.length:Int))<|bnd (Qs (p_.aF.getD g1.1.toNat aM) eU) λ v3=>need ((decide ((0:Int)≤v3))=true)<|need ((g1.2.length+1)*8≤big)<|need (aG (g1.1+1))<|av ((g1.1+1),(g1.2++([g1.1]:List Int))) else ret g1.2
def Ip (p_:bI) (eU:ByteArray):M (List Int):=bJ (Ny p_ eU) (0,[])
def RU (iJ:List Int):Sf Unit Bool:=λ av g1=>need ((decide ((0:Int)<(iJ.length:Int)))=false)<|ret true
def Qt (p_:bI) (iJ:List Int) (g_:Int):M Bool:=bJ (RU iJ) ()
def Nz (Gc:(bI×List ByteArray×List Int)→M (List Int×Bool)) (mq:bI×List ByteArray×List Int) (v1:List Int):Sf Unit (List Int×Bool):=λ av g1=>need ((decide ((0:Int)<(v1.length:Int)))=true)<|need (0≤(0:Int)∧(0:Int)<(v1.length:Int))<|bnd (Qt mq.1 mq.2.2 (v1.getD 0 0)) λ v4=>need ((!v4)=false)<|need (mq.2.2.length*8≤big)<|need (0≤(0:Int)∧(0:Int)<(v1.length:Int))<|need ((mq.2.2.length+1)*8≤big)<|bnd (Gc (mq.1,mq.2.1,(mq.2.2++([(v1.getD 0 0)]:List Int)))) λ v5=>need (v5.2=true)<|ret (v5.1,true)
def mG:Sf (bI×List ByteArray×List Int) (List Int×Bool):=λ Gc mq=>bif (mq.2.2.length:Int)==(mq.2.1.length:Int) then need (mq.2.2.length*8≤big)<|ret (mq.2.2,true) else need (0≤(mq.2.2.length:Int)∧(mq.2.2.length:Int)<(mq.2.1.length:Int))<|bnd (Ip mq.1 (mq.2.1.getD ((mq.2.2.length:Int).toNat) ByteArray.empty)) λ v1=>bJ (Nz Gc mq v1) ()
def Iq (p_:bI) (l_:List ByteArray) (iJ:List Int):M (List Int×Bool):=bJ mG (p_,l_,iJ)
def Ir (p_:bI) (l_:List ByteArray) (dP:List Int):M (List Int×Int):=bnd (Ta p_ l_ dP) λ v1=>need ((v1 != 0)=false)<|bnd (Iq p_ l_ dP) λ v2=>need ((!v2.2)=false)<|ret (v2.1,0)
def KR (b_:aW) (l_:List ay) (aV:Int) (v4:List Int×List Bool×List Int×List Bool×List Bool×Int×Int) (v6:List Int×Int):Sf (Int×List bN) (cZ×Int×Int):=λ dL g2=>bif decide (g2.1<((((l_.getD aV.toNat bE).aC).length:Nat):Int)) then need (0≤g2.1∧g2.1<((((l_.getD aV.toNat bE).aC).length:Nat):Int))<|need (aG (((0:Nat):Int)+g2.1))<|need (0≤(((0:Nat):Int)+g2.1)∧(((0:Nat):Int)+g2.1)<(v6.1.length:Int))<|need (0≤(v6.1.getD ((((0:Nat):Int)+g2.1).toNat) 0)∧(v6.1.getD ((((0:Nat):Int)+g2.1).toNat) 0)<(b_.aU.aF.length:Int))<|bnd (Qs (b_.aU.aF.getD ((v6.1.getD ((((0:Nat):Int)+g2.1).toNat) 0).toNat) aM) (((l_.getD aV.toNat bE).aC).getD g2.1.toNat ByteArray.empty)) λ v9=>need ((g2.2.length+1)*24≤big)<|need (aG (g2.1+1))<|dL ((g2.1+1),(g2.2++([(⟨aV,(⟨(v6.1.getD ((((0:Nat):Int)+g2.1).toNat) 0),v9⟩:qm)⟩:bN)]:List bN))) else ret ((⟨v4.1,(⟨v4.2.1,v4.2.2.1⟩:dO),g2.2,v4.2.2.2.1,v4.2.2.2.2.1⟩:cZ),0,0)
def A8 (b_:aW) (l_:List ay) (aV:Int):List Int→M (cZ×Int×Int):=λ g1=>bnd (CO b_ l_ (⟨[],(⟨[],[]⟩:dO),[],[],[]⟩:cZ) g1) λ v4=>need ((v4.2.2.2.2.2.2 != 0)=false)<|bnd (MN b_ ([]:List bN)) λ v5=>need (0≤aV∧aV<(l_.length:Int))<|need (((l_.getD aV.toNat bE).aC).length*16≤big)<|bnd (Ir b_.aU ((l_.getD aV.toNat bE).aC) ([]:List Int)) λ v6=>need ((v6.2 != 0)=false)<|need (0≤aV∧aV<(l_.length:Int))<|bJ (KR b_ l_ aV v4 v6) (0,[])
def Iu (b_:aW) (l_:List ay) (ak:List Int) (g_:cZ) (aV:Int):M (cZ×Int×Int):=bnd (Il b_ l_ ak g_ aV) λ v1=>need ((v1 != 0)=false)<|bnd (Wm ak aV) λ v2=>need (v2=false)<|need (ak.length*8≤big)<|need ((ak.length+1)*8≤big)<|bnd (EB g_.dR ak) λ v10=>(A8 b_ l_ aV) (ak++([aV]:List Int))
def yG (c_:bf):M Bool:=ret ((decide ((8:Int)<(c_.bH.length:Int)))||(decide ((8:Int)<(c_.bS.length:Int))))
def uD (s_:List bf):Sf Int Int:=λ av g1=>bif decide (g1<(s_.length:Int)) then need (0≤g1∧g1<(s_.length:Int))<|bnd (yG (s_.getD g1.toNat bK)) λ v3=>bif v3 then ret g1 else need (aG (g1+1))<|av (g1+1) else ret (-1:Int)
def nO (s_:List bf):M Int:=bJ (uD s_) 0
def jo (s_:List bf):M Bool:=bnd (nO s_) λ v1=>ret (decide ((0:Int)≤v1))
def kU (n_:Int) (A9:Int) (CP:Int):M Bool:=ret ((decide (A9≤n_))&&(decide (n_≤CP)))
def sZ (p_:Int) (a1_:Int):M Bool:=need (aG (a1_ - 1))<|bnd (kU p_ 0 (a1_ - 1)) λ v1=>ret (!v1)
def zu (s_:List Int) (bA:Int):Sf Int Int:=λ av g1=>bif decide (g1<(s_.length:Int)) then need (0≤g1∧g1<(s_.length:Int))<|bnd (sZ (s_.getD g1.toNat 0) bA) λ v3=>bif v3 then ret g1 else need (aG (g1+1))<|av (g1+1) else ret (-1:Int)
def tT (s_:List Int) (bA:Int):M Int:=bJ (zu s_ bA) 0
def kC (s_:List Int) (bA:Int):M Bool:=bnd (tT s_ bA) λ v1=>ret (decide ((0:Int)≤v1))
def EJ (s_:List Int) (v_:Int):Sf Int Int:=λ av g1=>bif decide (g1<(s_.length:Int)) then need (0≤g1∧g1<(s_.length:Int))<|bif v_==(s_.getD g1.toNat 0) then ret g1 else need (aG (g1+1))<|av (g1+1) else ret (-1:Int)
def slices_Index_int (s_:List Int) (v_:Int):M Int:=bJ (EJ s_ v_) 0
def slices_Contains_int (s_:List Int) (v_:Int):M Bool:=bnd (slices_Index_int s_ v_) λ v1=>ret (decide ((0:Int)≤v1))
def Gd (l_:List Int) (A9:Int) (CP:Int):Sf Int Bool:=λ av g1=>bif decide (g1<(l_.length:Int)) then need (0≤g1∧g1<(l_.length:Int))<|bnd (kU (l_.getD g1.toNat 0) A9 CP) λ v5=>need ((!v5)=false→0≤g1∧g1≤(l_.length:Int))<|bnd (grd ((!v5)=false) (slices_Contains_int (l_.take (g1.toNat)) (l_.getD g1.toNat 0))) λ v6=>bif (!v5)||v6 then ret false else need (aG (g1+1))<|av (g1+1) else ret true
def jQ (l_:List Int) (A9:Int) (CP:Int):M Bool:=bJ (Gd l_ A9 CP) 0
def EK (s1_:List Int) (s2_:List Int):Sf Int Bool:=λ av g1=>bif decide (g1<(s1_.length:Int)) then need (0≤g1∧g1<(s1_.length:Int))<|need (0≤g1∧g1<(s2_.length:Int))<|bif (s1_.getD g1.toNat 0) != (s2_.getD g1.toNat 0) then ret false else need (aG (g1+1))<|av (g1+1) else ret true
def slices_Equal_int (s1_:List Int) (s2_:List Int):M Bool:=bif (s1_.length:Int) != (s2_.length:Int) then ret false else bJ (EK s1_ s2_) 0
def CS (c_:bf) (at_:Int):M Bool:=bnd (kC c_.bH at_) λ v1=>bnd (grd (v1=false) (kU c_.kZ 0 4000000000)) λ v2=>bnd (grd ((v1||(!v2))=false) (kU c_.Low 0 c_.kZ)) λ v3=>bif (v1||(!v2))||(!v3) then ret false else bif c_.gN==1 then need ((((c_.bH.length:Int)==0)&&((c_.bS.length:Int)==1))=true→0≤(0:Int)∧(0:Int)<(c_.bS.length:Int))<|bnd (grd ((((c_.bH.length:Int)==0)&&((c_.bS.length:Int)==1))=true) (kU (c_.bS.getD 0 0) 1 4000000000)) λ v4=>ret ((((c_.bH.length:Int)==0)&&((c_.bS.length:Int)==1))&&v4) else bif c_.gN==2 then bif c_.gN==2 then bnd (grd ((((c_.bH.length:Int)==1)&&(decide ((0:Int)<(c_.bS.length:Int))))=true) (jQ c_.bS 1 64)) λ v5=>ret ((((c_.bH.length:Int)==1)&&(decide ((0:Int)<(c_.bS.length:Int))))&&v5) else bif c_.gN==4 then need ((decide ((0:Int)<(c_.bS.length:Int)))=true→aG ((c_.bH.length:Int) - 1))<|bnd (grd ((decide ((0:Int)<(c_.bS.length:Int)))=true) (jQ c_.bS 0 ((c_.bH.length:Int) - 1))) λ v6=>ret ((decide ((0:Int)<(c_.bS.length:Int)))&&v6) else bif c_.gN==5 then bif ((c_.bH.length:Int)==1)==true then bnd (grd (((c_.bH.length:Int)==1)=true) (slices_Equal_int c_.bS ([0,1]:List Int))) λ v7=>ret (((c_.bH.length:Int)==1)&&v7) else ret (((c_.bH.length:Int)==1)&&false) else ret false else bif c_.gN==3 then bnd (grd ((((c_.bH.length:Int)==1)&&(decide ((0:Int)<(c_.bS.length:Int))))=true) (jQ c_.bS 1 64)) λ v8=>ret ((((c_.bH.length:Int)==1)&&(decide ((0:Int)<(c_.bS.length:Int))))&&v8) else bif c_.gN==4 then need ((decide ((0:Int)<(c_.bS.length:Int)))=true→aG ((c_.bH.length:Int) - 1))<|bnd (grd ((decide ((0:Int)<(c_.bS.length:Int)))=true) (jQ c_.bS 0 ((c_.bH.length:Int) - 1))) λ v9=>ret ((decide ((0:Int)<(c_.bS.length:Int)))&&v9) else bif c_.gN==5 then bif ((c_.bH.length:Int)==1)==true then bnd (grd (((c_.bH.length:Int)==1)=true) (slices_Equal_int c_.bS ([0,1]:List Int))) λ v10=>ret (((c_.bH.length:Int)==1)&&v10) else ret (((c_.bH.length:Int)==1)&&false) else ret false
def oQ (l_:List bf) (g2:Int×Int×List Int) (dL:(Int×Int×List Int)→M Int):List Int→M Int:=λ g8=>need (aG (g2.1*((((l_.getD g2.2.1.toNat bK).bS).length:Nat):Int)))<|need ((decide ((4096:Int)<(g2.1*((((l_.getD g2.2.1.toNat bK).bS).length:Nat):Int))))=false→0≤g2.2.1∧g2.2.1<(g8.length:Int))<|bif (decide ((4096:Int)<(g2.1*((((l_.getD g2.2.1.toNat bK).bS).length:Nat):Int))))||(decide ((4:Int)<(g8.getD g2.2.1.toNat 0))) then ret (3:Int) else need (aG (g2.2.1+1))<|dL ((g2.1*((((l_.getD g2.2.1.toNat bK).bS).length:Nat):Int)),(g2.2.1+1),g8)
def NA (l_:List bf) (g2:Int×Int×List Int) (dL:(Int×Int×List Int)→M Int):Sf (Int×List Int) Int:=λ uU g7=>bif decide (g7.1<((((l_.getD g2.2.1.toNat bK).bH).length:Nat):Int)) then need (0≤g7.1∧g7.1<((((l_.getD g2.2.1.toNat bK).bH).length:Nat):Int))<|need (0≤g2.2.1∧g2.2.1<(g7.2.length:Int))<|need (0≤(((l_.getD g2.2.1.toNat bK).bH).getD g7.1.toNat 0)∧(((l_.getD g2.2.1.toNat bK).bH).getD g7.1.toNat 0)<(g7.2.length:Int))<|need (0≤g2.2.1∧g2.2.1<(g7.2.length:Int))<|need (aG (g7.1+1))<|uU ((g7.1+1),(g7.2.set (g2.2.1.toNat) (if (g7.2.getD ((((l_.getD g2.2.1.toNat bK).bH).getD g7.1.toNat 0).toNat) 0) > (g7.2.getD g2.2.1.toNat 0) then (g7.2.getD ((((l_.getD g2.2.1.toNat bK).bH).getD g7.1.toNat 0).toNat) 0) else (g7.2.getD g2.2.1.toNat 0)))) else bif ((l_.getD g2.2.1.toNat bK).gN==2)||((l_.getD g2.2.1.toNat bK).gN==3) then need (0≤g2.2.1∧g2.2.1<(g7.2.length:Int))<|need (aG ((g7.2.getD g2.2.1.toNat 0)+1))<|need (0≤g2.2.1∧g2.2.1<(g7.2.length:Int))<|(oQ l_ g2 dL) (g7.2.set (g2.2.1.toNat) ((g7.2.getD g2.2.1.toNat 0)+1)) else (oQ l_ g2 dL) g7.2
def NC (l_:List bf):Sf (Int×Int×List Int) Int:=λ dL g2=>bif decide (g2.2.1<(l_.length:Int)) then need (0≤g2.2.1∧g2.2.1<(l_.length:Int))<|bJ (NA l_ g2 dL) (0,g2.2.2) else ret (0:Int)
def Qu (l_:List bf):Sf Int Int:=λ av g1=>bif decide (g1<(l_.length:Int)) then need (0≤g1∧g1<(l_.length:Int))<|bnd (CS (l_.getD g1.toNat bK) g1) λ v4=>bif !v4 then ret (1:Int) else need (aG (g1+1))<|av (g1+1) else need (0≤(l_.length:Int)∧(l_.length:Int)*((8:Nat):Int)≤((big:Nat):Int))<|bJ (NC l_) (1,0,(List.replicate ((l_.length:Int).toNat) 0))
def pY (l_:List bf):M Int:=bnd (grd ((decide ((16:Int)<(l_.length:Int)))=false) (jo l_)) λ v1=>bif (decide ((16:Int)<(l_.length:Int)))||v1 then ret (3:Int) else bJ (Qu l_) 0
def mH (s_:aL):M Bool:=ret (decide ((16:Int)<(s_.dY.length:Int)))
def uE (s_:List aL):Sf Int Int:=λ av g1=>bif decide (g1<(s_.length:Int)) then need (0≤g1∧g1<(s_.length:Int))<|bnd (mH (s_.getD g1.toNat aZ)) λ v3=>bif v3 then ret g1 else need (aG (g1+1))<|av (g1+1) else ret (-1:Int)
def nP (s_:List aL):M Int:=bJ (uE s_) 0
def jq (s_:List aL):M Bool:=bnd (nP s_) λ v1=>ret (decide ((0:Int)≤v1))
def jY (n_:Int) (A9:Int) (CP:Int):M Bool:=ret ((decide (A9≤n_))&&(decide (n_≤CP)))
def Ba (s_:aL):Sf Int Bool:=λ av g1=>bif decide (g1<(s_.dY.length:Int)) then need (0≤g1∧g1<(s_.dY.length:Int))<|bnd (jY (s_.dY.getD g1.toNat 0) 1 5000) λ v6=>need ((!v6)=false→(decide ((0:Int)<g1))=true→aG (g1 - 1))<|need ((!v6)=false→(decide ((0:Int)<g1))=true→0≤(g1 - 1)∧(g1 - 1)<(s_.dY.length:Int))<|bif (!v6)||((decide ((0:Int)<g1))&&(decide ((s_.dY.getD g1.toNat 0)≤(s_.dY.getD ((g1 - 1).toNat) 0)))) then ret false else need (aG (g1+1))<|av (g1+1) else ret true
def vF (s_:aL) (at_:Int):M Bool:=need (aG (at_ - 1))<|bnd (jY s_.dx (-1:Int) (at_ - 1)) λ v1=>bnd (grd (((!v1)||((s_.dY.length:Int)==0))=false) (jY s_.iI 0 5000)) λ v2=>bnd (grd (((((!v1)||((s_.dY.length:Int)==0))||(!v2))||((decide (s_.dx<0))&&(s_.iI != 0)))=false) (jY s_.jT 0 10000)) λ v3=>bif ((((!v1)||((s_.dY.length:Int)==0))||(!v2))||((decide (s_.dx<0))&&(s_.iI != 0)))||(!v3) then ret false else bJ (Ba s_) 0
def Bb (l_:List aL):Sf Int Int:=λ av g1=>bif decide (g1<(l_.length:Int)) then need (0≤g1∧g1<(l_.length:Int))<|bnd (vF (l_.getD g1.toNat aZ) g1) λ v4=>bif !v4 then ret (1:Int) else need (aG (g1+1))<|av (g1+1) else ret (0:Int)
def kV (l_:List aL):M Int:=bnd (grd ((decide ((16:Int)<(l_.length:Int)))=false) (jq l_)) λ v1=>bif (decide ((16:Int)<(l_.length:Int)))||v1 then ret (3:Int) else bJ (Bb l_) 0
def Iw (s_:ByteArray):Sf Int Bool:=λ av g1=>bif decide (g1<((s_.size:Nat):Int)) then need (0≤g1∧g1<((s_.size:Nat):Int))<|bif (((eX s_ g1.toNat) != 45)&&((decide ((eX s_ g1.toNat)<48))||(decide ((57:Int)<(eX s_ g1.toNat)))))&&((decide ((eX s_ g1.toNat)<97))||(decide ((122:Int)<(eX s_ g1.toNat)))) then ret false else need (aG (g1+1))<|av (g1+1) else ret true
def r9 (s_:ByteArray):M Bool:=need (((s_.toList==({ data:=#[] }:ByteArray).toList)||(decide ((16:Int)<((s_.size:Nat):Int))))=false→0≤(0:Int)∧(0:Int)<((s_.size:Nat):Int))<|need ((((s_.toList==({ data:=#[] }:ByteArray).toList)||(decide ((16:Int)<((s_.size:Nat):Int))))||(decide ((eX s_ 0)<97)))=false→0≤(0:Int)∧(0:Int)<((s_.size:Nat):Int))<|bif (((s_.toList==({ data:=#[] }:ByteArray).toList)||(decide ((16:Int)<((s_.size:Nat):Int))))||(decide ((eX s_ 0)<97)))||(decide ((122:Int)<(eX s_ 0))) then ret false else bJ (Iw s_) 1
def qG (s_:List ByteArray) (v_:ByteArray):Sf Int Int:=λ av g1=>bif decide (g1<(s_.length:Int)) then need (0≤g1∧g1<(s_.length:Int))<|bif v_.toList==(s_.getD g1.toNat ByteArray.empty).toList then ret g1 else need (aG (g1+1))<|av (g1+1) else ret (-1:Int)
def slices_Index_string (s_:List ByteArray) (v_:ByteArray):M Int:=bJ (qG s_ v_) 0
def slices_Contains_string (s_:List ByteArray) (v_:ByteArray):M Bool:=bnd (slices_Index_string s_ v_) λ v1=>ret (decide ((0:Int)≤v1))
def CU (g_:fA):Sf Int Int:=λ nN g4=>bif decide (g4<(g_.aC.length:Int)) then need (0≤g4∧g4<(g_.aC.length:Int))<|need (0≤g4∧g4≤(g_.aC.length:Int))<|bnd (slices_Contains_string (g_.aC.take (g4.toNat)) (g_.aC.getD g4.toNat ByteArray.empty)) λ v6=>bif v6 then ret (5:Int) else need (aG (g4+1))<|nN (g4+1) else ret (0:Int)
def CV (g_:fA):Sf Int Int:=λ iZ g3=>bif decide (g3<(g_.aC.length:Int)) then need (0≤g3∧g3<(g_.aC.length:Int))<|bnd (r9 (g_.aC.getD g3.toNat ByteArray.empty)) λ v3=>bif !v3 then ret (1:Int) else need (aG (g3+1))<|iZ (g3+1) else bJ (CU g_) 0
def CW (g_:fA):Sf Int Int:=λ dL g2=>bif decide (g2<(g_.bT.length:Int)) then need (0≤g2∧g2<(g_.bT.length:Int))<|need (aG (g2 - 1))<|need (0≤(g2 - 1)∧(g2 - 1)<(g_.bT.length:Int))<|bif decide ((g_.bT.getD g2.toNat 0)≤(g_.bT.getD ((g2 - 1).toNat) 0)) then ret (12:Int) else need (aG (g2+1))<|dL (g2+1) else bJ (CV g_) 0
def Fw (CX:Int) (g_:fA):Sf Int Int:=λ av g1=>bif decide (g1<(g_.bT.length:Int)) then need (0≤g1∧g1<(g_.bT.length:Int))<|bif (decide ((g_.bT.getD g1.toNat 0)<0))||(decide (CX≤(g_.bT.getD g1.toNat 0))) then ret (2:Int) else need (aG (g1+1))<|av (g1+1) else bJ (CW g_) 1
def Aj (CX:Int) (g_:fA):M Int:=bif ((g_.bT.length:Int)==0)||((g_.aC.length:Int)==0) then ret (9:Int) else bif decide ((8:Int)<(g_.aC.length:Int)) then ret (3:Int) else bJ (Fw CX g_) 0
def Fx (p_:bI) (av:(Int×(kM→Option Int))→M Int):(Int×(kM→Option Int))→M Int:=λ g1=>bif decide (g1.1<(p_.aF.length:Int)) then need (0≤g1.1∧g1.1<(p_.aF.length:Int))<|bnd (r9 ((p_.aF.getD g1.1.toNat aM).uo)) λ v5=>bif !v5 then ret (1:Int) else bif (vS g1.2 (.s ((p_.aF.getD g1.1.toNat aM).uo))) != 0 then ret (5:Int) else bnd (Aj p_.bT (p_.aF.getD g1.1.toNat aM)) λ v6=>bif v6 != 0 then ret v6 else need (aG (g1.1+1))<|av ((g1.1+1),(FR g1.2 (.s ((p_.aF.getD g1.1.toNat aM).uo)) (bif true then 1 else 0))) else ret (0:Int)
def pz (p_:bI):M Int:=bif (decide (p_.bT<0))||(decide ((64:Int)<p_.bT)) then ret (2:Int) else bif decide ((24:Int)<(p_.aF.length:Int)) then ret (3:Int) else bJ (Fx p_) (0,(λ _=>none))
def Bc (l_:List fF) (g1:Int) (av:Int→M Int):Sf Int Int:=λ uU g7=>bif decide (g7<((((l_.getD g1.toNat gF).iF).length:Nat):Int)) then need (0≤g7∧g7<((((l_.getD g1.toNat gF).iF).length:Nat):Int))<|need (aG (g7 - 1))<|need (0≤(g7 - 1)∧(g7 - 1)<((((l_.getD g1.toNat gF).iF).length:Nat):Int))<|bif decide ((((l_.getD g1.toNat gF).iF).getD g7.toNat 0)≤(((l_.getD g1.toNat gF).iF).getD ((g7 - 1).toNat) 0)) then ret (12:Int) else need (aG (g7+1))<|uU (g7+1) else need (aG (g1+1))<|av (g1+1)
def CY (l_:List fF) (g1:Int) (av:Int→M Int):Sf Int Int:=λ jL g6=>bif decide (g6<((((l_.getD g1.toNat gF).iF).length:Nat):Int)) then need (0≤g6∧g6<((((l_.getD g1.toNat gF).iF).length:Nat):Int))<|bif (decide ((((l_.getD g1.toNat gF).iF).getD g6.toNat 0)<0))||(decide (g1≤(((l_.getD g1.toNat gF).iF).getD g6.toNat 0))) then ret (2:Int) else need (aG (g6+1))<|jL (g6+1) else bJ (Bc l_ g1 av) 1
def CZ (l_:List fF):Sf Int Int:=λ av g1=>bif decide (g1<(l_.length:Int)) then need (0≤g1∧g1<(l_.length:Int))<|bJ (CY l_ g1 av) 0 else ret (0:Int)
def p8 (l_:List fF):M Int:=bif decide ((32:Int)<(l_.length:Int)) then ret (3:Int) else bJ (CZ l_) 0
def Bd (l_:List eF):Sf Int Int:=λ av g1=>bif decide (g1<(l_.length:Int)) then need (0≤g1∧g1<(l_.length:Int))<|bif (decide ((l_.getD g1.toNat jI).dx<(-1:Int)))||(decide (g1≤(l_.getD g1.toNat jI).dx)) then ret (2:Int) else need (aG (g1+1))<|av (g1+1) else ret (0:Int)
def nE (l_:List eF):M Int:=bif decide ((16:Int)<(l_.length:Int)) then ret (3:Int) else bJ (Bd l_) 0
def xK (b_:aW):M Int:=bnd (pY b_.bM) λ v1=>bif v1 != 0 then ret v1 else bnd (kV b_.aT) λ v2=>bif v2 != 0 then ret v2 else bnd (pz b_.aU) λ v3=>bif v3 != 0 then ret v3 else bnd (p8 b_.bg) λ v4=>bif v4 != 0 then ret v4 else bnd (nE b_.bF) λ v5=>ret v5
def mI (x_:Int) (XY:Int) (Qv:Int):M Bool:=ret ((decide (XY≤x_))&&(decide (x_≤Qv)))
def C8 (n_:ay):Sf Int Int:=λ jL g6=>bif decide (g6<(n_.aO.length:Int)) then need (0≤g6∧g6<(n_.aO.length:Int))<|need (aG (g6 - 1))<|need (0≤(g6 - 1)∧(g6 - 1)<(n_.aO.length:Int))<|bif decide ((n_.aO.getD g6.toNat 0)≤(n_.aO.getD ((g6 - 1).toNat) 0)) then ret (12:Int) else need (aG (g6+1))<|jL (g6+1) else ret (0:Int)
def C9 (n_:ay) (fZ:Int):Sf Int Int:=λ uT g5=>bif decide (g5<(n_.aO.length:Int)) then need (0≤g5∧g5<(n_.aO.length:Int))<|need (aG (fZ - 1))<|bnd (mI (n_.aO.getD g5.toNat 0) 0 (fZ - 1)) λ v19=>bif !v19 then ret (2:Int) else need (aG (g5+1))<|uT (g5+1) else bJ (C8 n_) 1
def Da (b_:aW) (n_:ay) (fZ:Int):Sf Int Int:=λ nN g4=>bif decide (g4<(n_.bg.length:Int)) then need (0≤g4∧g4<(n_.bg.length:Int))<|need (aG ((b_.bg.length:Int) - 1))<|bnd (mI (n_.bg.getD g4.toNat 0) 0 ((b_.bg.length:Int) - 1)) λ v15=>bif !v15 then ret (2:Int) else need (aG (g4+1))<|nN (g4+1) else need (aG ((b_.bF.length:Int) - 1))<|bnd (mI n_.gy (-1:Int) ((b_.bF.length:Int) - 1)) λ v16=>bif !v16 then ret (2:Int) else bJ (C9 n_ fZ) 0
def Db (b_:aW) (n_:ay) (fZ:Int):Sf Int Int:=λ iZ g3=>bif decide (g3<(n_.aC.length:Int)) then need (0≤g3∧g3<(n_.aC.length:Int))<|bnd (r9 (n_.aC.getD g3.toNat ByteArray.empty)) λ v12=>bif !v12 then ret (1:Int) else need (aG (g3+1))<|iZ (g3+1) else bJ (Da b_ n_ fZ) 0
def Dc (b_:aW) (n_:ay) (fZ:Int):Sf Int Int:=λ dL g2=>bif decide (g2<(n_.fU.length:Int)) then need (0≤g2∧g2<(n_.fU.length:Int))<|need (aG ((b_.aT.length:Int) - 1))<|bnd (mI ((n_.fU.getD g2.toNat fI).fG) 0 ((b_.aT.length:Int) - 1)) λ v8=>bnd (grd (((((!v8)||(decide ((n_.fU.getD g2.toNat fI).Low<0)))||(decide ((n_.fU.getD g2.toNat fI).kZ<(n_.fU.getD g2.toNat fI).Low)))||(decide ((5000:Int)<(n_.fU.getD g2.toNat fI).kZ)))=false) (mI ((n_.fU.getD g2.toNat fI).Load) 0 10000)) λ v9=>bif ((((!v8)||(decide ((n_.fU.getD g2.toNat fI).Low<0)))||(decide ((n_.fU.getD g2.toNat fI).kZ<(n_.fU.getD g2.toNat fI).Low)))||(decide ((5000:Int)<(n_.fU.getD g2.toNat fI).kZ)))||(!v9) then ret (2:Int) else need (aG (g2+1))<|dL (g2+1) else bJ (Db b_ n_ fZ) 0
def Fy (b_:aW) (n_:ay) (fZ:Int):Sf Int Int:=λ av g1=>bif decide (g1<(n_.eH.length:Int)) then need (0≤g1∧g1<(n_.eH.length:Int))<|need (aG ((b_.bM.length:Int) - 1))<|bnd (mI ((n_.eH.getD g1.toNat lU).Eh) 0 ((b_.bM.length:Int) - 1)) λ v3=>bif (((!v3)||(decide ((n_.eH.getD g1.toNat lU).Low<0)))||(decide ((n_.eH.getD g1.toNat lU).kZ<(n_.eH.getD g1.toNat lU).Low)))||(decide ((4000000000:Int)<(n_.eH.getD g1.toNat lU).kZ)) then ret (2:Int) else need (aG (g1+1))<|av (g1+1) else bJ (Dc b_ n_ fZ) 0
def Ak (b_:aW) (n_:ay) (fZ:Int):M Int:=bif ((decide ((32:Int)<(n_.eH.length:Int)))||(decide ((32:Int)<(n_.fU.length:Int))))||(decide ((10:Int)<(n_.aC.length:Int))) then ret (3:Int) else bJ (Fy b_ n_ fZ) 0
def Fz (b_:aW) (l_:List ay):Sf Int Int:=λ av g1=>bif decide (g1<(l_.length:Int)) then need (0≤g1∧g1<(l_.length:Int))<|bnd (Ak b_ (l_.getD g1.toNat bE) (l_.length:Int)) λ v4=>bif v4 != 0 then ret v4 else need (aG (g1+1))<|av (g1+1) else ret (0:Int)
def kW (b_:aW) (l_:List ay):M Int:=bnd (xK b_) λ v1=>bif v1 != 0 then ret v1 else bif decide ((12:Int)<(l_.length:Int)) then ret (3:Int) else bJ (Fz b_ l_) 0
def Qw (l_:List ay) (ak:List Int):Sf Int Int:=λ av g1=>bif decide (g1<(ak.length:Int)) then need (0≤g1∧g1<(ak.length:Int))<|need (((decide ((ak.getD g1.toNat 0)<0))||(decide ((l_.length:Int)≤(ak.getD g1.toNat 0))))=false→0≤g1∧g1≤(ak.length:Int))<|bnd (grd (((decide ((ak.getD g1.toNat 0)<0))||(decide ((l_.length:Int)≤(ak.getD g1.toNat 0))))=false) (slices_Contains_int (ak.take (g1.toNat)) (ak.getD g1.toNat 0))) λ v4=>need ((((decide ((ak.getD g1.toNat 0)<0))||(decide ((l_.length:Int)≤(ak.getD g1.toNat 0))))||v4)=false)<|need (aG (g1+1))<|av (g1+1) else ret (0:Int)
def MP (b_:aW) (l_:List ay) (ak:List Int):M Int:=bnd (kW b_ l_) λ v1=>need ((v1 != 0)=false)<|bJ (Qw l_ ak) 0
def Gf (l_:List ay) (ak:List Int):Sf Int Bool:=λ av g1=>bif decide (g1<(ak.length:Int)) then need (0≤g1∧g1<(ak.length:Int))<|need (aG ((l_.length:Int) - 1))<|bnd (mI (ak.getD g1.toNat 0) 0 ((l_.length:Int) - 1)) λ v5=>need ((!v5)=false→0≤g1∧g1≤(ak.length:Int))<|bnd (grd ((!v5)=false) (slices_Contains_int (ak.take (g1.toNat)) (ak.getD g1.toNat 0))) λ v6=>need (((!v5)||v6)=false)<|need (aG (g1+1))<|av (g1+1) else ret true
def Bg (l_:List ay) (ak:List Int):M Bool:=bJ (Gf l_ ak) 0
def BN (s_:dZ):Sf Int Bool:=λ dL g2=>bif decide (g2<(s_.aH.dR.length:Int)) then need (0≤g2∧g2<(s_.aH.dR.length:Int))<|need (aG ((s_.dS.length:Int) - 1))<|bnd (mI ((s_.aH.dR.getD g2.toNat cK).dM) (-1:Int) ((s_.dS.length:Int) - 1)) λ v4=>need ((!v4)=false)<|need (aG (g2+1))<|dL (g2+1) else ret true
def Df (s_:dZ):Sf Unit Bool:=λ av g1=>need ((decide ((0:Int)<(s_.aK.bM.length:Int)))=false)<|bJ (BN s_) 0
def xL (s_:dZ):M Bool:=bnd (Bg s_.dS s_.bB) λ v1=>need (((((((!v1)||((s_.aH.dB.length:Int) != (s_.aK.bM.length:Int)))||((s_.aH.dF.On.length:Int) != (s_.aK.aT.length:Int)))||((s_.aH.dF.dX.length:Int) != (s_.aK.aT.length:Int)))||((s_.aH.dh.length:Int) != (s_.aK.bg.length:Int)))||((s_.aH.dJ.length:Int) != (s_.aK.bF.length:Int)))=false)<|bJ (Df s_) ()
def lH (s_:List bX):Sf Unit Int:=λ av g1=>need ((decide ((0:Int)<(s_.length:Int)))=false)<|ret (-1:Int)
def nQ (s_:List bX) (f_:List bf):M Int:=bJ (lH s_) ()
def lI (s_:List bX) (f_:List bf):M Bool:=bnd (nQ s_ f_) λ v1=>ret (decide ((0:Int)≤v1))
def Al (l_:List bf) (m_:List bX):M Bool:=bnd (pY l_) λ v1=>bnd (grd (((v1==(0:Int))&&(decide ((m_.length:Int)≤32)))=true) (lI m_ l_)) λ v2=>ret (((v1==(0:Int))&&(decide ((m_.length:Int)≤32)))&&(!v2))
def KS (s_:List Int):Sf Unit Bool:=λ av g1=>need ((decide ((0:Int)<(s_.length:Int)))=false)<|ret true
def yH (l_:List bf) (s_:List Int):M Bool:=need (((s_.length:Int) != (l_.length:Int))=false)<|bJ (KS s_) ()
def Dg (l_:List bf):Sf (List gB) (List gB):=λ av g1=>need ((decide ((0:Int)<(l_.length:Int)))=false)<|ret g1
def xM (l_:List bf) (s_:List Int):M (List gB):=need (0≤(l_.length:Int)∧(l_.length:Int)*((16:Nat):Int)≤((big:Nat):Int))<|bJ (Dg l_) (List.replicate ((l_.length:Int).toNat) xE)
def qW (s_:List bX) (av:Unit→M Int):Unit→M Int:=lH s_ av
def lJ (s_:List bX) (f_:List gB):M Int:=bJ (qW s_) ()
def kg (s_:List bX) (f_:List gB):M Bool:=bnd (lJ s_ f_) λ v1=>ret (decide ((0:Int)≤v1))
def Qx (l_:List bf) (m_:List bX) (v3:List gB):Sf Unit Bool:=λ av g1=>need ((decide ((0:Int)<(l_.length:Int)))=false)<|bnd (kg m_ v3) λ v4=>ret (!v4)
def MQ (l_:List bf) (s_:List Int) (m_:List bX):M Bool:=bnd (Al l_ m_) λ v1=>bnd (grd ((!v1)=false) (yH l_ s_)) λ v2=>need (((!v1)||(!v2))=false)<|bnd (xM l_ s_) λ v3=>bJ (Qx l_ m_ v3) ()
def wu (s_:dZ):M Bool:=bnd (MQ s_.aK.bM s_.aH.dB ([]:List bX)) λ v1=>ret v1
def Dh (l_:List bf) (s_:List Int):M (List gB×Int):=bnd (pY l_) λ v1=>need ((v1 != 0)=false)<|bnd (yH l_ s_) λ v2=>need ((!v2)=false)<|bnd (xM l_ s_) λ v3=>ret (v3,0)
def BO (s_:dZ) (g1:Int) (av:Int→M Bool):Sf Unit Bool:=λ nN g4=>need ((decide ((0:Int)<((((s_.dS.getD ((s_.bB.getD g1.toNat 0).toNat) bE).eH).length:Nat):Int)))=false)<|need (aG (g1+1))<|av (g1+1)
def BP (s_:dZ):Sf Int Bool:=λ av g1=>bif decide (g1<(s_.bB.length:Int)) then need (0≤g1∧g1<(s_.bB.length:Int))<|need (0≤(s_.bB.getD g1.toNat 0)∧(s_.bB.getD g1.toNat 0)<(s_.dS.length:Int))<|bJ (BO s_ g1 av) () else ret true
def wz (s_:dZ):M Bool:=bnd (Dh s_.aK.bM s_.aH.dB) λ v1=>need ((v1.2 != 0)=false)<|bJ (BP s_) 0
def xO (s_:List Bool):M (List Bool):=need (s_.length*1≤big)<|ret s_
def slices_Clone_int (s_:List Int):M (List Int):=need (s_.length*8≤big)<|ret s_
def Tc (r_:dO):M (List Bool×List Int):=bnd (xO r_.On) λ v1=>bnd (slices_Clone_int r_.dX) λ v2=>ret (v1,v2)
def ND (r_:dO):Sf Unit Bool:=λ av g1=>need ((decide ((0:Int)<(r_.dX.length:Int)))=false)<|ret true
def Iy (l_:List aL) (r_:dO):M Bool:=bnd (kV l_) λ v1=>need ((((v1 != 0)||((r_.On.length:Int) != (l_.length:Int)))||((r_.dX.length:Int) != (l_.length:Int)))=false)<|bJ (ND r_) ()
def lZ (s_:List bU):Sf Unit Int:=λ av g1=>need ((decide ((0:Int)<(s_.length:Int)))=false)<|ret (-1:Int)
def jZ (s_:List bU) (f_:List aL):M Int:=bJ (lZ s_) ()
def l5 (s_:List bU) (f_:List aL):M Bool:=bnd (jZ s_ f_) λ v1=>ret (decide ((0:Int)≤v1))
def Am (l_:List aL) (d_:List bU):M Bool:=bnd (kV l_) λ v1=>bnd (grd (((v1==(0:Int))&&(decide ((d_.length:Int)≤32)))=true) (l5 d_ l_)) λ v2=>ret (((v1==(0:Int))&&(decide ((d_.length:Int)≤32)))&&(!v2))
def iQ (s_:List aL):M (List aL):=ret s_
def Bh (v1:List aL) (dL:List Bool→M (List Bool)) (k2:Nat):List Bool→M (List Bool):=λ g5=>need (0≤((v1.length - 1 - k2:Nat):Int)∧((v1.length - 1 - k2:Nat):Int)<(g5.length:Int))<|bif (g5.getD (((v1.length - 1 - k2:Nat):Int).toNat) false)&&(decide ((0:Int)≤(v1.getD (v1.length - 1 - k2) aZ).dx)) then need (0≤(v1.getD (v1.length - 1 - k2) aZ).dx∧(v1.getD (v1.length - 1 - k2) aZ).dx<(g5.length:Int))<|dL (g5.set (((v1.getD (v1.length - 1 - k2) aZ).dx).toNat) true) else dL g5
def NG:List Bool→M (List Bool):=λ g2=>ret g2
def NH (v1:List aL) (k2:Nat):Sf (List Bool) (List Bool):=λ dL g2=>need (0≤((v1.length - 1 - k2:Nat):Int)∧((v1.length - 1 - k2:Nat):Int)<(g2.length:Int))<|need (0≤((v1.length - 1 - k2:Nat):Int)∧((v1.length - 1 - k2:Nat):Int)<(g2.length:Int))<|(Bh v1 dL k2) (g2.set (((v1.length - 1 - k2:Nat):Int).toNat) ((g2.getD (((v1.length - 1 - k2:Nat):Int).toNat) false)||(v1.getD (v1.length - 1 - k2) aZ).nk))
def Qy (l_:List aL) (d_:List bU):Sf (Int×List Bool) (List Bool):=λ av g1=>bif decide (g1.1<(d_.length:Int)) then need (0≤g1.1∧g1.1<(d_.length:Int))<|need (0≤(d_.getD g1.1.toNat fI).fG∧(d_.getD g1.1.toNat fI).fG<(g1.2.length:Int))<|need (aG (g1.1+1))<|av ((g1.1+1),(g1.2.set (((d_.getD g1.1.toNat fI).fG).toNat) true)) else bnd (iQ l_) λ v1=>need (v1.length≤1000000)<|Wd v1.length (NH v1) NG v1.length g1.2
def xP (l_:List aL) (d_:List bU):M (List Bool):=need (0≤(l_.length:Int)∧(l_.length:Int)*((1:Nat):Int)≤((big:Nat):Int))<|bJ (Qy l_ d_) (0,(List.replicate ((l_.length:Int).toNat) false))
def KT:List Int→M (List Int):=λ g2=>ret g2
def KU (v1:List aL) (k2:Nat):Sf (List Int) (List Int):=λ dL g2=>bif decide ((0:Int)≤(v1.getD (v1.length - 1 - k2) aZ).dx) then need (0≤(v1.getD (v1.length - 1 - k2) aZ).dx∧(v1.getD (v1.length - 1 - k2) aZ).dx<(g2.length:Int))<|need (0≤((v1.length - 1 - k2:Nat):Int)∧((v1.length - 1 - k2:Nat):Int)<(g2.length:Int))<|need (aG ((g2.getD (((v1.getD (v1.length - 1 - k2) aZ).dx).toNat) 0)+(g2.getD (((v1.length - 1 - k2:Nat):Int).toNat) 0)))<|need (0≤(v1.getD (v1.length - 1 - k2) aZ).dx∧(v1.getD (v1.length - 1 - k2) aZ).dx<(g2.length:Int))<|dL (g2.set (((v1.getD (v1.length - 1 - k2) aZ).dx).toNat) ((g2.getD (((v1.getD (v1.length - 1 - k2) aZ).dx).toNat) 0)+(g2.getD (((v1.length - 1 - k2:Nat):Int).toNat) 0))) else dL g2
def NI (l_:List aL) (d_:List bU):Sf (Int×List Int) (List Int):=λ av g1=>bif decide (g1.1<(d_.length:Int)) then need (0≤g1.1∧g1.1<(d_.length:Int))<|need (0≤(d_.getD g1.1.toNat fI).fG∧(d_.getD g1.1.toNat fI).fG<(g1.2.length:Int))<|need (aG ((g1.2.getD (((d_.getD g1.1.toNat fI).fG).toNat) 0)+(d_.getD g1.1.toNat fI).Load))<|need (0≤(d_.getD g1.1.toNat fI).fG∧(d_.getD g1.1.toNat fI).fG<(g1.2.length:Int))<|need (aG (g1.1+1))<|av ((g1.1+1),(g1.2.set (((d_.getD g1.1.toNat fI).fG).toNat) ((g1.2.getD (((d_.getD g1.1.toNat fI).fG).toNat) 0)+(d_.getD g1.1.toNat fI).Load))) else bnd (iQ l_) λ v1=>need (v1.length≤1000000)<|Wd v1.length (KU v1) KT v1.length g1.2
def Iz (l_:List aL) (d_:List bU):M (List Int):=need (0≤(l_.length:Int)∧(l_.length:Int)*((8:Nat):Int)≤((big:Nat):Int))<|bJ (NI l_ d_) (0,(List.replicate ((l_.length:Int).toNat) 0))
def KV (s_:List bU) (av:Unit→M Int):Unit→M Int:=lZ s_ av
def l6 (s_:List bU) (f0_:List aL) (f1_:List Bool) (f2_:List Int):M Int:=jZ s_ f0_
def kD (s_:List bU) (f0_:List aL) (f1_:List Bool) (f2_:List Int):M Bool:=bnd (l6 s_ f0_ f1_ f2_) λ v1=>ret (decide ((0:Int)≤v1))
def NJ (l_:List aL) (r_:dO) (d_:List bU):Sf Unit Bool:=λ av g1=>need ((decide ((0:Int)<(l_.length:Int)))=false)<|bnd (kD d_ l_ r_.On r_.dX) λ v5=>ret (!v5)
def Ao (l_:List aL) (r_:dO) (d_:List bU):M Bool:=bnd (Iy l_ r_) λ v1=>bnd (grd ((!v1)=false) (Am l_ d_)) λ v2=>need (((!v1)||(!v2))=false)<|bnd (xP l_ d_) λ v3=>bnd (Iz l_ d_) λ v4=>bJ (NJ l_ r_ d_) ()
def zw (s_:dZ):Sf (Int×List bU) Bool:=λ av g1=>bif decide (g1.1<(s_.bB.length:Int)) then need (0≤g1.1∧g1.1<(s_.bB.length:Int))<|need (0≤(s_.bB.getD g1.1.toNat 0)∧(s_.bB.getD g1.1.toNat 0)<(s_.dS.length:Int))<|need ((g1.2.length+((s_.dS.getD ((s_.bB.getD g1.1.toNat 0).toNat) bE).fU).length)*32≤big)<|need (aG (g1.1+1))<|av ((g1.1+1),(g1.2++(s_.dS.getD ((s_.bB.getD g1.1.toNat 0).toNat) bE).fU)) else bnd (Tc s_.aH.dF) λ v1=>bnd (Ao s_.aK.aT (⟨v1.1,v1.2⟩:dO) g1.2) λ v2=>ret v2
def tV (s_:dZ):M Bool:=bJ (zw s_) (0,[])
def NK (p_:bI) (l_:List qm) (g2:(Int×(Nat→Int)×List Bool)) (dL:(Int×(Nat→Int)×List Bool)→M ((Nat→Int)×Int)) (uT:(Int×(Nat→Int)×List Bool)→M ((Nat→Int)×Int)):(Int×(Nat→Int)×List Bool)→M ((Nat→Int)×Int):=λ g5=>bif decide (g5.1<((((p_.aF.getD (((l_.getD g2.1.toNat jD).fD).toNat) aM).bT).length:Nat):Int)) then need (0≤g5.1∧g5.1<((((p_.aF.getD (((l_.getD g2.1.toNat jD).fD).toNat) aM).bT).length:Nat):Int))<|need (0≤(((p_.aF.getD (((l_.getD g2.1.toNat jD).fD).toNat) aM).bT).getD g5.1.toNat 0)∧(((p_.aF.getD (((l_.getD g2.1.toNat jD).fD).toNat) aM).bT).getD g5.1.toNat 0)<((64:Nat):Int))<|need ((decide ((0:Int)≤(g5.2.1 ((((p_.aF.getD (((l_.getD g2.1.toNat jD).fD).toNat) aM).bT).getD g5.1.toNat 0).toNat))))=false)<|need (0≤(((p_.aF.getD (((l_.getD g2.1.toNat jD).fD).toNat) aM).bT).getD g5.1.toNat 0)∧(((p_.aF.getD (((l_.getD g2.1.toNat jD).fD).toNat) aM).bT).getD g5.1.toNat 0)<((64:Nat):Int))<|need (aG (g5.1+1))<|uT ((g5.1+1),(upd g5.2.1 ((((p_.aF.getD (((l_.getD g2.1.toNat jD).fD).toNat) aM).bT).getD g5.1.toNat 0).toNat) ((l_.getD g2.1.toNat jD).fD)),g5.2.2) else need (aG (g2.1+1))<|dL ((g2.1+1),g5.2.1,g5.2.2)
def NM (p_:bI) (l_:List qm) (dL:(Int×(Nat→Int)×List Bool)→M ((Nat→Int)×Int)):(Int×(Nat→Int)×List Bool)→M ((Nat→Int)×Int):=λ g2=>bif decide (g2.1<(l_.length:Int)) then need (0≤g2.1∧g2.1<(l_.length:Int))<|need ((((decide ((l_.getD g2.1.toNat jD).fD<0))||(decide ((p_.aF.length:Int)≤(l_.getD g2.1.toNat jD).fD)))||(decide ((l_.getD g2.1.toNat jD).iw<0)))=false→0≤(l_.getD g2.1.toNat jD).fD∧(l_.getD g2.1.toNat jD).fD<(p_.aF.length:Int))<|need (((((decide ((l_.getD g2.1.toNat jD).fD<0))||(decide ((p_.aF.length:Int)≤(l_.getD g2.1.toNat jD).fD)))||(decide ((l_.getD g2.1.toNat jD).iw<0)))||(decide (((((p_.aF.getD (((l_.getD g2.1.toNat jD).fD).toNat) aM).aC).length:Nat):Int)≤(l_.getD g2.1.toNat jD).iw)))=false)<|need (0≤(l_.getD g2.1.toNat jD).fD∧(l_.getD g2.1.toNat jD).fD<(g2.2.2.length:Int))<|need ((g2.2.2.getD (((l_.getD g2.1.toNat jD).fD).toNat) false)=false)<|need (0≤(l_.getD g2.1.toNat jD).fD∧(l_.getD g2.1.toNat jD).fD<(g2.2.2.length:Int))<|need (0≤(l_.getD g2.1.toNat jD).fD∧(l_.getD g2.1.toNat jD).fD<(p_.aF.length:Int))<|bJ (NK p_ l_ g2 dL) (0,g2.2.1,(g2.2.2.set (((l_.getD g2.1.toNat jD).fD).toNat) true)) else ret (g2.2.1,0)
def Qz (p_:bI) (l_:List qm) (av:(Int×(Nat→Int)×(Nat→Int))→M ((Nat→Int)×Int)):(Int×(Nat→Int)×(Nat→Int))→M ((Nat→Int)×Int):=λ g1=>bif decide (g1.1<(64:Int)) then need (0≤g1.1∧g1.1<((64:Nat):Int))<|need (aG (g1.1+1))<|av ((g1.1+1),g1.2.1,(upd g1.2.2 (g1.1.toNat) (-1:Int))) else bnd (pz p_) λ v1=>need ((v1 != 0)=false)<|need (0≤(p_.aF.length:Int)∧(p_.aF.length:Int)*((1:Nat):Int)≤((big:Nat):Int))<|bJ (NM p_ l_) (0,g1.2.2,(List.replicate ((p_.aF.length:Int).toNat) false))
def MR (p_:bI) (l_:List qm):M ((Nat→Int)×Int):=bJ (Qz p_ l_) (0,(λ _=>0),(λ _=>0))
def uV (s_:Nat) (bA:List Int):M (List Int):=need (s_≤bA.length∧s_*8≤big)<|ret (bA.take s_)
def Di (p_:bI):(Nat→Int)→M (List Int×Int):=λ g1=>need (0≤p_.bT∧p_.bT≤((64:Nat):Int))<|bnd (uV p_.bT.toNat ((List.range (64)).map g1)) λ v2=>ret (v2,0)
def Dj (p_:bI) (l_:List qm):M (List Int×Int):=bnd (MR p_ l_) λ v1=>need ((v1.2 != 0)=false)<|(Di p_) v1.1
def EL (s_:dZ):Sf (Int×List qm) Bool:=λ av g1=>bif decide (g1.1<(s_.aH.dR.length:Int)) then need (0≤g1.1∧g1.1<(s_.aH.dR.length:Int))<|need ((g1.2.length+1)*16≤big)<|need (aG (g1.1+1))<|av ((g1.1+1),(g1.2++([((s_.aH.dR.getD g1.1.toNat cK).wV)]:List qm))) else bnd (Dj s_.aK.aU g1.2) λ v1=>ret (v1.2==(0:Int))
def zx (s_:dZ):M Bool:=bJ (EL s_) (0,[])
def wX (s_:dZ) (g1:Int) (av:Int→M Bool) (uU:(Int×(kM→Option Int))→M Bool):(Int×(kM→Option Int))→M Bool:=λ g7=>bif decide (g7.1<((((s_.dS.getD ((s_.bB.getD g1.toNat 0).toNat) bE).aC).length:Nat):Int)) then need (0≤g7.1∧g7.1<((((s_.dS.getD ((s_.bB.getD g1.toNat 0).toNat) bE).aC).length:Nat):Int))<|need (aG ((vS g7.2 (.s (((s_.dS.getD ((s_.bB.getD g1.toNat 0).toNat) bE).aC).getD g7.1.toNat ByteArray.empty))) - 1))<|need ((decide ((vS (FR g7.2 (.s (((s_.dS.getD ((s_.bB.getD g1.toNat 0).toNat) bE).aC).getD g7.1.toNat ByteArray.empty)) ((vS g7.2 (.s (((s_.dS.getD ((s_.bB.getD g1.toNat 0).toNat) bE).aC).getD g7.1.toNat ByteArray.empty))) - 1)) (.s (((s_.dS.getD ((s_.bB.getD g1.toNat 0).toNat) bE).aC).getD g7.1.toNat ByteArray.empty)))<0))=false)<|need (aG (g7.1+1))<|uU ((g7.1+1),(FR g7.2 (.s (((s_.dS.getD ((s_.bB.getD g1.toNat 0).toNat) bE).aC).getD g7.1.toNat ByteArray.empty)) ((vS g7.2 (.s (((s_.dS.getD ((s_.bB.getD g1.toNat 0).toNat) bE).aC).getD g7.1.toNat ByteArray.empty))) - 1))) else need (aG (g1+1))<|av (g1+1)
def yI (s_:dZ) (g1:Int) (av:Int→M Bool) (jL:(Int×(kM→Option Int))→M Bool):(Int×(kM→Option Int))→M Bool:=λ g6=>bif decide (g6.1<(s_.aH.dR.length:Int)) then need (0≤g6.1∧g6.1<(s_.aH.dR.length:Int))<|need (((s_.aH.dR.getD g6.1.toNat cK).dM==(s_.bB.getD g1.toNat 0))=true)<|need (0≤((s_.aH.dR.getD g6.1.toNat cK).wV).fD∧((s_.aH.dR.getD g6.1.toNat cK).wV).fD<(s_.aK.aU.aF.length:Int))<|need (0≤((s_.aH.dR.getD g6.1.toNat cK).wV).iw∧((s_.aH.dR.getD g6.1.toNat cK).wV).iw<((((s_.aK.aU.aF.getD ((((s_.aH.dR.getD g6.1.toNat cK).wV).fD).toNat) aM).aC).length:Nat):Int))<|need (aG ((vS g6.2 (.s (((s_.aK.aU.aF.getD ((((s_.aH.dR.getD g6.1.toNat cK).wV).fD).toNat) aM).aC).getD ((((s_.aH.dR.getD g6.1.toNat cK).wV).iw).toNat) ByteArray.empty)))+1))<|need (aG (g6.1+1))<|jL ((g6.1+1),(FR g6.2 (.s (((s_.aK.aU.aF.getD ((((s_.aH.dR.getD g6.1.toNat cK).wV).fD).toNat) aM).aC).getD ((((s_.aH.dR.getD g6.1.toNat cK).wV).iw).toNat) ByteArray.empty)) ((vS g6.2 (.s (((s_.aK.aU.aF.getD ((((s_.aH.dR.getD g6.1.toNat cK).wV).fD).toNat) aM).aC).getD ((((s_.aH.dR.getD g6.1.toNat cK).wV).iw).toNat) ByteArray.empty)))+1))) else need (0≤(s_.bB.getD g1.toNat 0)∧(s_.bB.getD g1.toNat 0)<(s_.dS.length:Int))<|bJ (wX s_ g1 av) (0,g6.2)
def yJ (s_:dZ):Sf Int Bool:=λ av g1=>bif decide (g1<(s_.bB.length:Int)) then need (0≤g1∧g1<(s_.bB.length:Int))<|bJ (yI s_ g1 av) (0,(λ _=>none)) else ret true
def rA (s_:dZ):M Bool:=bJ (yJ s_) 0
def NP (l_:List fF):Sf Unit Bool:=λ av g1=>need ((decide ((0:Int)<(l_.length:Int)))=false)<|ret true
def IB (l_:List fF) (iE:List Bool):M Bool:=need (((iE.length:Int) != (l_.length:Int))=false)<|bJ (NP l_) ()
def IC (l_:List fF) (iE:List Bool):M Bool:=bnd (p8 l_) λ v1=>bnd (grd ((v1==(0:Int))=true) (IB l_ iE)) λ v2=>ret ((v1==(0:Int))&&v2)
def wB (s_:List Int) (bA:dZ):Sf Unit (Int×dZ):=λ av g1=>need ((decide ((0:Int)<(s_.length:Int)))=false)<|ret ((-1:Int),bA)
def p9 (s_:List Int) (bA:dZ):M (Int×dZ):=bJ (wB s_ bA) ()
def mJ (s_:List Int) (bA:dZ):M (Bool×dZ):=bnd (p9 s_ bA) λ v1=>ret ((decide ((0:Int)≤v1.1)),v1.2)
def BQ (s_:dZ):Sf (Int×List bf×List aL×Int×List fA×List fF×List eF×List ay×List Int×List Int×List Bool×List Int×List bN×List Bool×List Bool×Bool) Bool:=λ av g1=>bif decide (g1.1<(s_.bB.length:Int)) then need (0≤g1.1∧g1.1<(s_.bB.length:Int))<|need (0≤(s_.bB.getD g1.1.toNat 0)∧(s_.bB.getD g1.1.toNat 0)<(g1.2.2.2.2.2.2.2.1.length:Int))<|bnd (mJ ((g1.2.2.2.2.2.2.2.1.getD ((s_.bB.getD g1.1.toNat 0).toNat) bE).bg) (⟨(⟨g1.2.1,g1.2.2.1,(⟨g1.2.2.2.1,g1.2.2.2.2.1⟩:bI),g1.2.2.2.2.2.1,g1.2.2.2.2.2.2.1⟩:aW),g1.2.2.2.2.2.2.2.1,g1.2.2.2.2.2.2.2.2.1,(⟨g1.2.2.2.2.2.2.2.2.2.1,(⟨g1.2.2.2.2.2.2.2.2.2.2.1,g1.2.2.2.2.2.2.2.2.2.2.2.1⟩:dO),g1.2.2.2.2.2.2.2.2.2.2.2.2.1,g1.2.2.2.2.2.2.2.2.2.2.2.2.2.1,g1.2.2.2.2.2.2.2.2.2.2.2.2.2.2.1⟩:cZ),g1.2.2.2.2.2.2.2.2.2.2.2.2.2.2.2⟩:dZ)) λ v4=>need (v4.1=false)<|need (aG (g1.1+1))<|av ((g1.1+1),v4.2.aK.bM,v4.2.aK.aT,v4.2.aK.aU.bT,v4.2.aK.aU.aF,v4.2.aK.bg,v4.2.aK.bF,v4.2.dS,v4.2.bB,v4.2.aH.dB,v4.2.aH.dF.On,v4.2.aH.dF.dX,v4.2.aH.dR,v4.2.aH.dh,v4.2.aH.dJ,v4.2.gG) else ret true
def wC (s_:dZ):M Bool:=bnd (IC s_.aK.bg s_.aH.dh) λ v1=>need ((!v1)=false)<|bJ (BQ s_) (0,s_.aK.bM,s_.aK.aT,s_.aK.aU.bT,s_.aK.aU.aF,s_.aK.bg,s_.aK.bF,s_.dS,s_.bB,s_.aH.dB,s_.aH.dF.On,s_.aH.dF.dX,s_.aH.dR,s_.aH.dh,s_.aH.dJ,s_.gG)
def NQ (l_:List eF):Sf Unit Bool:=λ av g1=>need ((decide ((0:Int)<(l_.length:Int)))=false)<|ret true
def IE (l_:List eF) (RL:List Bool):M Bool:=need (((RL.length:Int) != (l_.length:Int))=false)<|bJ (NQ l_) ()
def IG (l_:List eF) (RL:List Bool):M Bool:=bnd (nE l_) λ v1=>bnd (grd ((v1==(0:Int))=true) (IE l_ RL)) λ v2=>ret ((v1==(0:Int))&&v2)
def rC (m_:Int) (afx:List bf) (afy:List aL) (afz:Int) (afA:List fA) (afB:List fF) (afC:List eF) (Uv:List ay) (afD:List Int) (afE:List Int) (afF:List Bool) (abV:List Int) (abW:List bN) (abX:List Bool) (Wo:List Bool) (abY:Bool):M Bool:=need (0≤m_∧m_<(Uv.length:Int))<|need ((decide ((0:Int)≤(Uv.getD m_.toNat bE).gy))=true→0≤(Uv.getD m_.toNat bE).gy∧(Uv.getD m_.toNat bE).gy<(Wo.length:Int))<|ret ((decide ((0:Int)≤(Uv.getD m_.toNat bE).gy))&&(!(Wo.getD (((Uv.getD m_.toNat bE).gy).toNat) false)))
def wD (s_:List Int) (bA:dZ):Sf Int (Int×dZ):=λ av g1=>bif decide (g1<(s_.length:Int)) then need (0≤g1∧g1<(s_.length:Int))<|bnd (rC (s_.getD g1.toNat 0) bA.aK.bM bA.aK.aT bA.aK.aU.bT bA.aK.aU.aF bA.aK.bg bA.aK.bF bA.dS bA.bB bA.aH.dB bA.aH.dF.On bA.aH.dF.dX bA.aH.dR bA.aH.dh bA.aH.dJ bA.gG) λ v3=>need (v3=false)<|need (aG (g1+1))<|av (g1+1) else ret ((-1:Int),bA)
def qb (s_:List Int) (bA:dZ):M (Int×dZ):=bJ (wD s_ bA) 0
def mK (s_:List Int) (bA:dZ):M (Bool×dZ):=bnd (qb s_ bA) λ v1=>ret ((decide ((0:Int)≤v1.1)),v1.2)
def uW (s_:dZ):M Bool:=bnd (IG s_.aK.bF s_.aH.dJ) λ v1=>need ((!v1)=false)<|bnd (mK s_.bB s_) λ v2=>ret (!v2.1)
def wE (s_:dZ):M Int:=need (0≤(0:Int)∧(0:Int)<((8:Nat):Int))<|bnd (xL s_) λ v1=>need ((!v1)=false)<|need (aG ((0:Int)+1))<|need (0≤((0:Int)+1)∧((0:Int)+1)<((8:Nat):Int))<|bnd (wu s_) λ v2=>need ((!v2)=false)<|need (aG (((0:Int)+1)+1))<|need (0≤(((0:Int)+1)+1)∧(((0:Int)+1)+1)<((8:Nat):Int))<|bnd (wz s_) λ v3=>need ((!v3)=false)<|need (aG ((((0:Int)+1)+1)+1))<|need (0≤((((0:Int)+1)+1)+1)∧((((0:Int)+1)+1)+1)<((8:Nat):Int))<|bnd (tV s_) λ v4=>need ((!v4)=false)<|need (aG (((((0:Int)+1)+1)+1)+1))<|need (0≤(((((0:Int)+1)+1)+1)+1)∧(((((0:Int)+1)+1)+1)+1)<((8:Nat):Int))<|bnd (zx s_) λ v5=>need ((!v5)=false)<|need (aG ((((((0:Int)+1)+1)+1)+1)+1))<|need (0≤((((((0:Int)+1)+1)+1)+1)+1)∧((((((0:Int)+1)+1)+1)+1)+1)<((8:Nat):Int))<|bnd (rA s_) λ v6=>need ((!v6)=false)<|need (aG (((((((0:Int)+1)+1)+1)+1)+1)+1))<|need (0≤(((((((0:Int)+1)+1)+1)+1)+1)+1)∧(((((((0:Int)+1)+1)+1)+1)+1)+1)<((8:Nat):Int))<|bnd (wC s_) λ v7=>need ((!v7)=false)<|need (aG ((((((((0:Int)+1)+1)+1)+1)+1)+1)+1))<|need (0≤((((((((0:Int)+1)+1)+1)+1)+1)+1)+1)∧((((((((0:Int)+1)+1)+1)+1)+1)+1)+1)<((8:Nat):Int))<|bnd (uW s_) λ v8=>need ((!v8)=false)<|need (aG (((((((((0:Int)+1)+1)+1)+1)+1)+1)+1)+1))<|ret (0:Int)
def II (b_:aW) (l_:List ay) (ak:List Int) (g_:cZ) (qF:Bool):M Int:=bnd (kW b_ l_) λ v1=>need ((v1 != 0)=false)<|bnd (wE (⟨b_,l_,ak,g_,qF⟩:dZ)) λ v2=>ret v2
def MS (b_:aW) (l_:List ay) (ak:List Int) (g_:cZ):M Bool:=bnd (II b_ l_ ak g_ false) λ v1=>ret (v1==(0:Int))
def IJ (b_:aW) (l_:List ay) (ak:List Int) (g_:cZ) (aV:Int):M Int:=bnd (MP b_ l_ ak) λ v1=>need ((v1 != 0)=false)<|bnd (MS b_ l_ ak g_) λ v2=>need ((!v2)=false)<|need (((decide (aV<0))||(decide ((l_.length:Int)≤aV)))=false)<|ret (0:Int)
def nX (bA:List Int):M (List Int):=slices_Clone_int bA
def Dk (n_:ay):M (List bX):=ret n_.eH
def yK (l_:List ay) (ak:List Int):Sf (Int×List bX) (List bX):=λ av g1=>bif decide (g1.1<(ak.length:Int)) then need (0≤g1.1∧g1.1<(ak.length:Int))<|need (((decide ((0:Int)≤(ak.getD g1.1.toNat 0)))&&(decide ((ak.getD g1.1.toNat 0)<(l_.length:Int))))=true)<|need (0≤(ak.getD g1.1.toNat 0)∧(ak.getD g1.1.toNat 0)<(l_.length:Int))<|bnd (Dk (l_.getD ((ak.getD g1.1.toNat 0).toNat) bE)) λ v3=>need ((g1.2.length+v3.length)*24≤big)<|need (aG (g1.1+1))<|av ((g1.1+1),(g1.2++v3)) else ret g1.2
def rD (l_:List ay) (ak:List Int):M (List bX):=bJ (yK l_ ak) (0,[])
def IK (l_:List ay) (ak:List Int):M (List bX):=bnd (rD l_ ak) λ v1=>ret v1
def FB (n_:ay):M (List bU):=ret n_.fU
def zy (l_:List ay) (ak:List Int):Sf (Int×List bU) (List bU):=λ av g1=>bif decide (g1.1<(ak.length:Int)) then need (0≤g1.1∧g1.1<(ak.length:Int))<|need (((decide ((0:Int)≤(ak.getD g1.1.toNat 0)))&&(decide ((ak.getD g1.1.toNat 0)<(l_.length:Int))))=true)<|need (0≤(ak.getD g1.1.toNat 0)∧(ak.getD g1.1.toNat 0)<(l_.length:Int))<|bnd (FB (l_.getD ((ak.getD g1.1.toNat 0).toNat) bE)) λ v3=>need ((g1.2.length+v3.length)*32≤big)<|need (aG (g1.1+1))<|av ((g1.1+1),(g1.2++v3)) else ret g1.2
def tX (l_:List ay) (ak:List Int):M (List bU):=bJ (zy l_ ak) (0,[])
def MU (l_:List ay) (ak:List Int):M (List bU):=bnd (tX l_ ak) λ v1=>ret v1
def xQ (n_:ay):M (List ByteArray):=ret n_.aC
def Ap (l_:List ay) (ak:List Int):Sf (Int×List ByteArray) (List ByteArray):=λ av g1=>bif decide (g1.1<(ak.length:Int)) then need (0≤g1.1∧g1.1<(ak.length:Int))<|need (((decide ((0:Int)≤(ak.getD g1.1.toNat 0)))&&(decide ((ak.getD g1.1.toNat 0)<(l_.length:Int))))=true)<|need (0≤(ak.getD g1.1.toNat 0)∧(ak.getD g1.1.toNat 0)<(l_.length:Int))<|bnd (xQ (l_.getD ((ak.getD g1.1.toNat 0).toNat) bE)) λ v3=>need ((g1.2.length+v3.length)*16≤big)<|need (aG (g1.1+1))<|av ((g1.1+1),(g1.2++v3)) else ret g1.2
def uX (l_:List ay) (ak:List Int):M (List ByteArray):=bJ (Ap l_ ak) (0,[])
def Bj (l_:List ay) (ak:List Int):M (List ByteArray):=bnd (uX l_ ak) λ v1=>ret v1
def IL (l_:List bf) (m_:List bX):M Int:=bnd (pY l_) λ v1=>need ((v1 != 0)=false)<|bnd (Al l_ m_) λ v2=>need ((!v2)=false)<|ret (0:Int)
def RV (l_:List bf):Sf Unit (List oO):=λ dL g2=>need ((decide ((0:Int)<(l_.length:Int)))=false)<|ret ([]:List oO)
def RX (l_:List bf) (m_:List bX):Sf Unit (List oO):=λ av g1=>need ((decide ((0:Int)<(m_.length:Int)))=false)<|bJ (RV l_) ()
def QA (l_:List bf) (m_:List bX):M (List oO):=bJ (RX l_ m_) ()
def YU (l_:List bf) (av:List gB→M (List gB)):List gB→M (List gB):=Dg l_ av
def QB (l_:List bf) (bA:List Int):M (List gB):=xM l_ bA
def Dl (l_:List bf) (bA:List Int):M (List gB×Int):=Dh l_ bA
def xR (Oz:Int) (bA:List Int) (pE:Bool):M (Bool×List Int):=need ((Oz==0)=true)<|bnd (nX bA) λ v1=>ret ((!true),v1)
def Gg (BR:Bool) (v1:List oO) (g1:List Int):Sf Unit (List Int):=λ iZ g3=>need ((decide ((0:Int)<(v1.length:Int)))=false)<|bnd (xR 0 g1 BR) λ v5=>need ((!v5.1)=true)<|ret v5.2
def Gh (l_:List bf) (BR:Bool) (v1:List oO):Sf (List Int) (List Int):=λ av g1=>bnd (Dl l_ g1) λ v4=>bJ (Gg BR v1 g1) ()
def Bl (l_:List bf) (m_:List bX) (BR:Bool):M (List Int):=bnd (QA l_ m_) λ v1=>need (0≤(l_.length:Int)∧(l_.length:Int)*((8:Nat):Int)≤((big:Nat):Int))<|bJ (Gh l_ BR v1) (List.replicate ((l_.length:Int).toNat) 0)
def IQ (l_:List bf) (m_:List bX):M (List Int×Int):=bnd (IL l_ m_) λ v1=>need ((v1 != 0)=false)<|bnd (Bl l_ m_ false) λ v2=>ret (v2,0)
def IU (l_:List aL) (d_:List bU):M Int:=bnd (kV l_) λ v1=>need ((v1 != 0)=false)<|bnd (Am l_ d_) λ v2=>need ((!v2)=false)<|ret (0:Int)
def Bn (x_:Int) (y_:Int):M (Int×Int):=need (0≤(32:Int))<|need (0≤(32:Int))<|need (0≤(32:Int))<|need (0≤(32:Int))<|need (0≤(32:Int))<|ret ((IntKind.u64.wrap ((IntKind.u64.wrap ((IntKind.u64.wrap ((Ce .u64 x_ 32)*(Ce .u64 y_ 32)))+(Ce .u64 (IntKind.u64.wrap ((IntKind.u64.wrap ((Ce .u64 x_ 32)*(zU .u64 y_ 4294967295)))+(Ce .u64 (IntKind.u64.wrap ((zU .u64 x_ 4294967295)*(zU .u64 y_ 4294967295))) 32))) 32)))+(Ce .u64 (IntKind.u64.wrap ((zU .u64 (IntKind.u64.wrap ((IntKind.u64.wrap ((Ce .u64 x_ 32)*(zU .u64 y_ 4294967295)))+(Ce .u64 (IntKind.u64.wrap ((zU .u64 x_ 4294967295)*(zU .u64 y_ 4294967295))) 32))) 4294967295)+(IntKind.u64.wrap ((zU .u64 x_ 4294967295)*(Ce .u64 y_ 32))))) 32))),(IntKind.u64.wrap (x_*y_)))
def oD (x_:Int) (y_:Int):M (Int×Int):=bnd (Bn x_ y_) λ v1=>ret (v1.1,v1.2)
def wY (x_:List gX) (v1:Int×Int):Sf (List gX) (List gX):=λ av g1=>need ((decide ((((Nat.min x_.length ((IntKind.i64.wrap v1.2).toNat)):Nat):Int)<(g1.length:Int)))=false)<|ret g1
def qH (x_:List gX) (pF:Int):M (List gX):=need ((decide (pF<0))=false)<|bnd (oD (IntKind.u64.wrap (x_.length:Int)) (IntKind.u64.wrap pF)) λ v1=>need (((decide ((0:Int)<v1.1))||(decide ((9223372036854775807:Int)<v1.2)))=false)<|need (0≤(IntKind.i64.wrap v1.2)∧(IntKind.i64.wrap v1.2)*((24:Nat):Int)≤((big:Nat):Int))<|bJ (wY x_ v1) (V9 (List.replicate ((IntKind.i64.wrap v1.2).toNat) lY) (0) (x_.take ((Nat.min x_.length ((IntKind.i64.wrap v1.2).toNat)))))
def cmp_isNaN_int (x_:Int):M Bool:=ret (x_ != x_)
def cmp_Less_int (x_:Int) (y_:Int):M Bool:=bnd (cmp_isNaN_int x_) λ v1=>bnd (grd (v1=true) (cmp_isNaN_int y_)) λ v2=>ret ((v1&&(!v2))||(decide (x_<y_)))
def sj (x_:Int):M Bool:=ret (x_ != x_)
def mM (x_:List Int) (gI:Int):Int→M (Int×Bool):=λ g2=>need ((decide (g2<(x_.length:Int)))=true→0≤g2∧g2<(x_.length:Int))<|need ((decide (g2<(x_.length:Int)))=true→((x_.getD g2.toNat 0)==gI)=false→0≤g2∧g2<(x_.length:Int))<|bnd (grd ((decide (g2<(x_.length:Int)))=true) (grd (((x_.getD g2.toNat 0)==gI)=false) (sj (x_.getD g2.toNat 0)))) λ v4=>bnd (grd ((decide (g2<(x_.length:Int)))=true) (grd (((x_.getD g2.toNat 0)==gI)=false) (grd (v4=true) (sj gI)))) λ v5=>ret (g2,((decide (g2<(x_.length:Int)))&&(((x_.getD g2.toNat 0)==gI)||(v4&&v5))))
def wF (x_:List Int) (gI:Int) (kk:Int→M (Int×Bool)):Sf (Int×Int) (Int×Bool):=λ iZ g3=>bif decide (g3.1<g3.2) then need (aG (g3.1+g3.2))<|need (0≤(1:Int))<|need (0≤(IntKind.i64.wrap (Ce .u64 (IntKind.u64.wrap (g3.1+g3.2)) 1))∧(IntKind.i64.wrap (Ce .u64 (IntKind.u64.wrap (g3.1+g3.2)) 1))<(x_.length:Int))<|bnd (cmp_Less_int (x_.getD ((IntKind.i64.wrap (Ce .u64 (IntKind.u64.wrap (g3.1+g3.2)) 1)).toNat) 0) gI) λ v8=>bif v8 then need (aG ((IntKind.i64.wrap (Ce .u64 (IntKind.u64.wrap (g3.1+g3.2)) 1))+1))<|iZ (((IntKind.i64.wrap (Ce .u64 (IntKind.u64.wrap (g3.1+g3.2)) 1))+1),g3.2) else iZ (g3.1,(IntKind.i64.wrap (Ce .u64 (IntKind.u64.wrap (g3.1+g3.2)) 1))) else kk g3.1
def slices_BinarySearch_int (x_:List Int) (gI:Int):M (Int×Bool):=bJ (wF x_ gI (mM x_ gI)) (0,(x_.length:Int))
def IV (s_:aL) (IW:Int):M (Int×Bool):=bnd (slices_BinarySearch_int s_.dY IW) λ v1=>ret (v1.1,(decide (v1.1<(s_.dY.length:Int))))
def Gi:(List gX×List Int)→M (List gX×List Int×Int):=λ g2=>ret (g2.1,g2.2,(-1:Int))
def Gj (v2:List Bool) (v3:List aL) (k2:Nat):Sf (List gX×List Int) (List gX×List Int×Int):=λ dL g2=>need (0≤((v3.length - 1 - k2:Nat):Int)∧((v3.length - 1 - k2:Nat):Int)<(v2.length:Int))<|bif !(v2.getD (((v3.length - 1 - k2:Nat):Int).toNat) false) then dL (g2.1,g2.2) else need (0≤((v3.length - 1 - k2:Nat):Int)∧((v3.length - 1 - k2:Nat):Int)<(g2.1.length:Int))<|bnd (IV (v3.getD (v3.length - 1 - k2) aZ) ((g2.1.getD (((v3.length - 1 - k2:Nat):Int).toNat) lY).H8)) λ v6=>bif !v6.2 then ret (g2.1,g2.2,((v3.length - 1 - k2:Nat):Int)) else need (0≤((v3.length - 1 - k2:Nat):Int)∧((v3.length - 1 - k2:Nat):Int)<(g2.2.length:Int))<|need (0≤v6.1∧v6.1<((((v3.getD (v3.length - 1 - k2) aZ).dY).length:Nat):Int))<|need (aG ((((v3.getD (v3.length - 1 - k2) aZ).dY).getD v6.1.toNat 0)+(v3.getD (v3.length - 1 - k2) aZ).iI))<|need ((decide ((0:Int)≤(v3.getD (v3.length - 1 - k2) aZ).dx))=true→0≤(v3.getD (v3.length - 1 - k2) aZ).dx∧(v3.getD (v3.length - 1 - k2) aZ).dx<(g2.1.length:Int))<|bif (decide ((0:Int)≤(v3.getD (v3.length - 1 - k2) aZ).dx))&&(decide ((g2.1.getD (((v3.getD (v3.length - 1 - k2) aZ).dx).toNat) lY).H8<((((v3.getD (v3.length - 1 - k2) aZ).dY).getD v6.1.toNat 0)+(v3.getD (v3.length - 1 - k2) aZ).iI))) then need (0≤(v3.getD (v3.length - 1 - k2) aZ).dx∧(v3.getD (v3.length - 1 - k2) aZ).dx<(g2.1.length:Int))<|dL ((g2.1.set (((v3.getD (v3.length - 1 - k2) aZ).dx).toNat) (⟨((((v3.getD (v3.length - 1 - k2) aZ).dY).getD v6.1.toNat 0)+(v3.getD (v3.length - 1 - k2) aZ).iI),(-1:Int),((v3.length - 1 - k2:Nat):Int)⟩:gX)),(g2.2.set (((v3.length - 1 - k2:Nat):Int).toNat) v6.1)) else dL (g2.1,(g2.2.set (((v3.length - 1 - k2:Nat):Int).toNat) v6.1))
def IX (l_:List aL) (d_:List bU):Sf (Int×List gX×List Int) (List gX×List Int×Int):=λ av g1=>bif decide (g1.1<(d_.length:Int)) then need (0≤g1.1∧g1.1<(d_.length:Int))<|need (0≤(d_.getD g1.1.toNat fI).fG∧(d_.getD g1.1.toNat fI).fG<(g1.2.1.length:Int))<|bif decide ((g1.2.1.getD (((d_.getD g1.1.toNat fI).fG).toNat) lY).H8<(d_.getD g1.1.toNat fI).Low) then need (0≤(d_.getD g1.1.toNat fI).fG∧(d_.getD g1.1.toNat fI).fG<(g1.2.1.length:Int))<|need (aG (g1.1+1))<|av ((g1.1+1),(g1.2.1.set (((d_.getD g1.1.toNat fI).fG).toNat) (⟨(d_.getD g1.1.toNat fI).Low,g1.1,(-1:Int)⟩:gX)),g1.2.2) else need (aG (g1.1+1))<|av ((g1.1+1),g1.2.1,g1.2.2) else bnd (xP l_ d_) λ v2=>bnd (iQ l_) λ v3=>need (v3.length≤1000000)<|Wd v3.length (Gj v2 v3) Gi v3.length (g1.2.1,g1.2.2)
def Dn (l_:List aL) (d_:List bU):M (List gX×List Int×Int):=bnd (qH ([(⟨0,(-1:Int),(-1:Int)⟩:gX)]:List gX) (l_.length:Int)) λ v1=>need (0≤(l_.length:Int)∧(l_.length:Int)*((8:Nat):Int)≤((big:Nat):Int))<|bJ (IX l_ d_) (0,v1,(List.replicate ((l_.length:Int).toNat) 0))
def IY (l_:List aL) (d_:List bU):M (dO×Int):=bnd (IU l_ d_) λ v1=>need ((v1 != 0)=false)<|bnd (Dn l_ d_) λ v2=>bnd (xP l_ d_) λ v3=>bnd (grd ((decide ((0:Int)≤v2.2.2))=false) (Ao l_ (⟨v3,v2.2.1⟩:dO) d_)) λ v4=>need (((decide ((0:Int)≤v2.2.2))||(!v4))=false)<|ret ((⟨v3,v2.2.1⟩:dO),0)
def FC (n_:ay):M (List Int):=ret n_.bg
def EM (l_:List ay) (ak:List Int):Sf (Int×List Int) (List Int):=λ av g1=>bif decide (g1.1<(ak.length:Int)) then need (0≤g1.1∧g1.1<(ak.length:Int))<|need (((decide ((0:Int)≤(ak.getD g1.1.toNat 0)))&&(decide ((ak.getD g1.1.toNat 0)<(l_.length:Int))))=true)<|need (0≤(ak.getD g1.1.toNat 0)∧(ak.getD g1.1.toNat 0)<(l_.length:Int))<|bnd (FC (l_.getD ((ak.getD g1.1.toNat 0).toNat) bE)) λ v3=>need ((g1.2.length+v3.length)*8≤big)<|need (aG (g1.1+1))<|av ((g1.1+1),(g1.2++v3)) else ret g1.2
def zA (l_:List ay) (ak:List Int):M (List Int):=bJ (EM l_ ak) (0,[])
def NR (l_:List fF) (g1:List Bool):Sf Unit (List Bool):=λ dL g2=>need ((decide ((0:Int)≤((l_.length:Int) - 1)))=false)<|ret g1
def NS (l_:List fF) (iO:List Int):Sf (List Bool) (List Bool):=λ av g1=>need ((decide ((0:Int)<(iO.length:Int)))=false)<|need (aG ((l_.length:Int) - 1))<|bJ (NR l_ g1) ()
def IZ (l_:List fF) (iO:List Int):M (List Bool):=need (0≤(l_.length:Int)∧(l_.length:Int)*((1:Nat):Int)≤((big:Nat):Int))<|bJ (NS l_ iO) (List.replicate ((l_.length:Int).toNat) false)
def NT (l_:List fF) (iO:List Int):Sf Unit (List Bool×Int):=λ av g1=>need ((decide ((0:Int)<(iO.length:Int)))=false)<|bnd (IZ l_ iO) λ v2=>ret (v2,0)
def I5 (l_:List fF) (iO:List Int):M (List Bool×Int):=bnd (p8 l_) λ v1=>need ((v1 != 0)=false)<|bJ (NT l_ iO) ()
def FD (n_:ay):M (List Int):=need ((decide (n_.gy<0))=true)<|ret ([]:List Int)
def Aq (l_:List ay) (ak:List Int):Sf (Int×List Int) (List Int):=λ av g1=>bif decide (g1.1<(ak.length:Int)) then need (0≤g1.1∧g1.1<(ak.length:Int))<|need (((decide ((0:Int)≤(ak.getD g1.1.toNat 0)))&&(decide ((ak.getD g1.1.toNat 0)<(l_.length:Int))))=true)<|need (0≤(ak.getD g1.1.toNat 0)∧(ak.getD g1.1.toNat 0)<(l_.length:Int))<|bnd (FD (l_.getD ((ak.getD g1.1.toNat 0).toNat) bE)) λ v3=>need ((g1.2.length+v3.length)*8≤big)<|need (aG (g1.1+1))<|av ((g1.1+1),(g1.2++v3)) else ret g1.2
def uY (l_:List ay) (ak:List Int):M (List Int):=bJ (Aq l_ ak) (0,[])
def I6 (gY:List Int):Sf Unit Int:=λ av g1=>need ((decide ((0:Int)<(gY.length:Int)))=false)<|ret (0:Int)
def Dp (l_:List eF) (gY:List Int):M Int:=bnd (nE l_) λ v1=>need ((v1 != 0)=false)<|bJ (I6 gY) ()
def Uw (l_:List eF):Sf (List Bool) (List Bool×Int):=λ av g1=>need ((decide ((0:Int)≤((l_.length:Int) - 1)))=false)<|ret (g1,0)
def Td (l_:List eF) (gY:List Int):M (List Bool×Int):=bnd (Dp l_ gY) λ v1=>need ((v1 != 0)=false)<|need (0≤(l_.length:Int)∧(l_.length:Int)*((1:Nat):Int)≤((big:Nat):Int))<|need (aG ((l_.length:Int) - 1))<|bJ (Uw l_) (List.replicate ((l_.length:Int).toNat) false)
def NU (b_:aW) (l_:List ay) (ak:List Int) (jl:List bN) (v4:List Int×Int) (v5:dO×Int):Sf (Int×List bN) (List Int×List Bool×List Int×List Bool×List Bool×Int×Int×List bN):=λ av g1=>bif decide (g1.1<(jl.length:Int)) then need (0≤g1.1∧g1.1<(jl.length:Int))<|bnd (slices_Contains_int ak ((jl.getD g1.1.toNat cK).dM)) λ v8=>need (v8=true)<|need ((g1.2.length+1)*24≤big)<|need (aG (g1.1+1))<|av ((g1.1+1),(g1.2++([(⟨(jl.getD g1.1.toNat cK).dM,((jl.getD g1.1.toNat cK).wV)⟩:bN)]:List bN))) else bnd (zA l_ ak) λ v9=>bnd (I5 b_.bg v9) λ v10=>bnd (uY l_ ak) λ v11=>bnd (Td b_.bF v11) λ v12=>ret (v4.1,v5.1.On,v5.1.dX,v10.1,v12.1,0,0,g1.2)
def MV (b_:aW) (l_:List ay) (ak:List Int) (jl:List bN):M (List Int×List Bool×List Int×List Bool×List Bool×Int×Int×List bN):=bnd (IK l_ ak) λ v1=>bnd (MU l_ ak) λ v2=>need ((((decide ((32:Int)<(v1.length:Int)))||(decide ((32:Int)<(v2.length:Int))))==false)=true)<|bnd (Bj l_ ak) λ v3=>need ((((decide ((32:Int)<(v1.length:Int)))||(decide ((32:Int)<(v2.length:Int))))||(decide ((10:Int)<(v3.length:Int))))=false)<|bnd (IQ b_.bM v1) λ v4=>need ((v4.2 != 0)=false)<|bnd (IY b_.aT v2) λ v5=>need ((v5.2 != 0)=false)<|bJ (NU b_ l_ ak jl v4 v5) (0,[])
def QC (b_:aW) (jl:List bN) (MW:List ByteArray):Sf (Int×List ByteArray×List Int) (List ByteArray×List Int):=λ av g1=>bif decide (g1.1<(jl.length:Int)) then need (0≤g1.1∧g1.1<(jl.length:Int))<|need (0≤((jl.getD g1.1.toNat cK).wV).fD∧((jl.getD g1.1.toNat cK).wV).fD<(b_.aU.aF.length:Int))<|need (0≤((jl.getD g1.1.toNat cK).wV).iw∧((jl.getD g1.1.toNat cK).wV).iw<((((b_.aU.aF.getD ((((jl.getD g1.1.toNat cK).wV).fD).toNat) aM).aC).length:Nat):Int))<|need ((g1.2.1.length+1)*16≤big)<|need ((g1.2.2.length+1)*8≤big)<|need (aG (g1.1+1))<|av ((g1.1+1),(g1.2.1++([(((b_.aU.aF.getD ((((jl.getD g1.1.toNat cK).wV).fD).toNat) aM).aC).getD ((((jl.getD g1.1.toNat cK).wV).iw).toNat) ByteArray.empty)]:List ByteArray)),(g1.2.2++([((jl.getD g1.1.toNat cK).wV).fD]:List Int))) else need ((g1.2.1.length+MW.length)*16≤big)<|ret ((g1.2.1++MW),g1.2.2)
def xS (b_:aW) (jl:List bN) (MW:List ByteArray):M (List ByteArray×List Int):=bJ (QC b_ jl MW) (0,[],[])
def Bo (f_:ByteArray):M Bool:=bnd (r9 f_) λ v1=>ret (!v1)
def wG (s_:List ByteArray):Sf Int Int:=λ av g1=>bif decide (g1<(s_.length:Int)) then need (0≤g1∧g1<(s_.length:Int))<|bnd (Bo (s_.getD g1.toNat ByteArray.empty)) λ v3=>need (v3=false)<|need (aG (g1+1))<|av (g1+1) else ret (-1:Int)
def qc (s_:List ByteArray):M Int:=bJ (wG s_) 0
def mO (s_:List ByteArray):M Bool:=bnd (qc s_) λ v1=>ret (decide ((0:Int)≤v1))
def QD (p_:bI) (eU:ByteArray):Sf (Int×List Int) (List Int):=λ av g1=>bif decide (g1.1<(p_.aF.length:Int)) then need (0≤g1.1∧g1.1<(p_.aF.length:Int))<|bnd (slices_Contains_string ((p_.aF.getD g1.1.toNat aM).aC) eU) λ v4=>need (v4=true)<|need ((g1.2.length+1)*8≤big)<|need (aG (g1.1+1))<|av ((g1.1+1),(g1.2++([g1.1]:List Int))) else ret g1.2
def MX (p_:bI) (eU:ByteArray):M (List Int):=bnd (pz p_) λ v1=>need ((v1 != 0)=false)<|bJ (QD p_ eU) (0,[])
def Bp (p_:bI) (eU:ByteArray):M (List Int):=bnd (MX p_ eU) λ v1=>ret v1
def I7 (p_:bI) (g2:Int×List Int) (dL:(Int×List Int)→M (eP×Int)):Sf (Int×Int) (eP×Int):=λ uT g5=>bif decide (g5.2<((((p_.aF.getD g2.1.toNat aM).bT).length:Nat):Int)) then need (0≤g5.2∧g5.2<((((p_.aF.getD g2.1.toNat aM).bT).length:Nat):Int))<|need (0≤(((p_.aF.getD g2.1.toNat aM).bT).getD g5.2.toNat 0))<|need (aG (g5.2+1))<|uT ((orI .u64 g5.1 (acS .u64 1 (((p_.aF.getD g2.1.toNat aM).bT).getD g5.2.toNat 0))),(g5.2+1)) else need ((g2.2.length+1)*8≤big)<|need (aG (g2.1+1))<|dL ((g2.1+1),(g2.2++([g5.1]:List Int)))
def I8 (dP:List Int) (g1:(Int×(List (List Int)))) (g2:Int×List Int):Sf (Int×Int) (eP×Int):=λ jL g6=>bif decide (g6.1<(dP.length:Int)) then need (0≤g6.1∧g6.1<(dP.length:Int))<|need (0≤g6.1∧g6.1<(g1.2.length:Int))<|bnd (slices_Contains_int (g1.2.getD g6.1.toNat []) (dP.getD g6.1.toNat 0)) λ v8=>need ((!v8)=false→0≤(dP.getD g6.1.toNat 0)∧(dP.getD g6.1.toNat 0)<(g2.2.length:Int))<|need (((!v8)||((zU .u64 g6.2 (g2.2.getD ((dP.getD g6.1.toNat 0).toNat) 0)) != 0))=false)<|need (0≤(dP.getD g6.1.toNat 0)∧(dP.getD g6.1.toNat 0)<(g2.2.length:Int))<|need (aG (g6.1+1))<|jL ((g6.1+1),(orI .u64 g6.2 (g2.2.getD ((dP.getD g6.1.toNat 0).toNat) 0))) else ret ((⟨g1.2,g2.2,dP,g6.2⟩:eP),0)
def I9 (p_:bI) (l_:List ByteArray) (dP:List Int) (g1:(Int×(List (List Int)))):Sf (Int×List Int) (eP×Int):=λ dL g2=>bif decide (g2.1<(p_.aF.length:Int)) then need (0≤g2.1∧g2.1<(p_.aF.length:Int))<|bJ (I7 p_ g2 dL) (0,0) else need ((decide ((l_.length:Int)<(dP.length:Int)))=false)<|bJ (I8 dP g1 g2) (0,0)
def KW (p_:bI) (l_:List ByteArray) (dP:List Int):Sf (Int×(List (List Int))) (eP×Int):=λ av g1=>bif decide (g1.1<(l_.length:Int)) then need (0≤g1.1∧g1.1<(l_.length:Int))<|bnd (Bp p_ (l_.getD g1.1.toNat ByteArray.empty)) λ v5=>need ((g1.2.length+1)*24≤big)<|need (aG (g1.1+1))<|av ((g1.1+1),(g1.2++([v5]:List (List Int)))) else bJ (I9 p_ l_ dP g1) (0,[])
def tq (p_:bI) (l_:List ByteArray) (dP:List Int):M (eP×Int):=bnd (pz p_) λ v1=>bnd (grd (((v1 != 0)||(decide ((10:Int)<(l_.length:Int))))=false) (mO l_)) λ v2=>need ((((v1 != 0)||(decide ((10:Int)<(l_.length:Int))))||v2)=false)<|bJ (KW p_ l_ dP) (0,([]:List (List Int)))
def zB (x_:eP):Sf (Int×List Int) (List Int):=λ av g1=>bif decide (g1.1<(x_.dH.length:Int)) then need ((g1.2.length+1)*8≤big)<|need (aG (g1.1+1))<|av ((g1.1+1),(g1.2++([g1.1]:List Int))) else ret g1.2
def mP (x_:eP):M (List Int):=bJ (zB x_) ((x_.vY.length:Int),[])
def wH (iH:Int) (BR:List Int) (pE:eP) (qd:List Int):Sf Int (Bool×eP):=λ av g1=>bif decide (g1<(((pE.dH.getD ((BR.getD ((qd.length:Int).toNat) 0).toNat) []).length:Nat):Int)) then need (0≤g1∧g1<(((pE.dH.getD ((BR.getD ((qd.length:Int).toNat) 0).toNat) []).length:Nat):Int))<|need (0≤((pE.dH.getD ((BR.getD ((qd.length:Int).toNat) 0).toNat) []).getD g1.toNat 0)∧((pE.dH.getD ((BR.getD ((qd.length:Int).toNat) 0).toNat) []).getD g1.toNat 0)<(pE.jF.length:Int))<|need (((zU .u64 iH (pE.jF.getD (((pE.dH.getD ((BR.getD ((qd.length:Int).toNat) 0).toNat) []).getD g1.toNat 0).toNat) 0)) != 0)=true)<|need (aG (g1+1))<|av (g1+1) else ret (false,pE)
def qg (iH:Int) (BR:List Int) (pE:eP) (qd:List Int):M (Bool×eP):=need (((qd.length:Int)==(BR.length:Int))=false)<|need (0≤(qd.length:Int)∧(qd.length:Int)<(BR.length:Int))<|need (0≤(BR.getD ((qd.length:Int).toNat) 0)∧(BR.getD ((qd.length:Int).toNat) 0)<(pE.dH.length:Int))<|bJ (wH iH BR pE qd) 0
def lV (x_:eP) (EC:List Int):M (List Int×Bool):=need ((0:Int)=0∧0≤(EC.length:Int)∧(EC.length:Int)*((8:Nat):Int)≤((big:Nat):Int))<|bnd (qg x_.rZ EC x_ ([]:List Int)) λ v1=>ret (([]:List Int),v1.1)
def Dq (p_:bI) (l_:List ByteArray) (dP:List Int):M (List Int×Int):=bnd (tq p_ l_ dP) λ v1=>need ((v1.2 != 0)=false)<|bnd (mP v1.1) λ v2=>bnd (lV v1.1 v2) λ v3=>need ((!v3.2)=true)<|ret (([]:List Int),9)
def zC (b_:aW) (l_:List ay) (aV:Int) (bA:List Int):List bN→M (cZ×Int×Int):=λ g2=>bnd (nX bA) λ v6=>need ((v6.length+1)*8≤big)<|bnd (MV b_ l_ (v6++([aV]:List Int)) g2) λ v7=>need ((v7.2.2.2.2.2.2.1 != 0)=false)<|need (0≤aV∧aV<(l_.length:Int))<|bnd (xS b_ g2 ((l_.getD aV.toNat bE).aC)) λ v8=>bnd (Dq b_.aU v8.1 v8.2) λ v9=>need ((v9.2 != 0)=true)<|ret ((⟨[],(⟨[],[]⟩:dO),[],[],[]⟩:cZ),3,45)
def NV (g_:cZ) (bA:List Int) (kk:List bN→M (cZ×Int×Int)):Sf (Int×List bN) (cZ×Int×Int):=λ iZ g3=>bif decide (g3.1<(g_.dR.length:Int)) then need (0≤g3.1∧g3.1<(g_.dR.length:Int))<|bnd (slices_Contains_int bA ((g_.dR.getD g3.1.toNat cK).dM)) λ v12=>need (v12=true)<|need ((g3.2.length+1)*24≤big)<|need (aG (g3.1+1))<|iZ ((g3.1+1),(g3.2++([(⟨(g_.dR.getD g3.1.toNat cK).dM,((g_.dR.getD g3.1.toNat cK).wV)⟩:bN)]:List bN))) else kk g3.2
def Ja (b_:aW) (l_:List ay) (g_:cZ) (aV:Int) (bA:List Int):M (cZ×Int×Int):=bnd (IJ b_ l_ bA g_ aV) λ v1=>need ((v1 != 0)=false)<|bnd (slices_Contains_int bA aV) λ v2=>need (v2=false)<|bJ (NV g_ bA (zC b_ l_ aV bA)) (0,[])
def nY (bA:List Int):M (List Int):=slices_Clone_int bA
def Jb (aV:Int) (bA:List Int):M (List Int):=bnd (nY bA) λ v1=>need ((v1.length+1)*8≤big)<|ret (v1++([aV]:List Int))
def rE (s_:List bN):M (List bN):=need (s_.length*24≤big)<|ret s_
def Dr (u_:bN) (a1_:List Int):M Bool:=bnd (slices_Contains_int a1_ u_.dM) λ v1=>ret (!v1)
def uF (s_:List bN) (f_:List Int):Sf Int Int:=λ av g1=>bif decide (g1<(s_.length:Int)) then need (0≤g1∧g1<(s_.length:Int))<|bnd (Dr (⟨(s_.getD g1.toNat cK).dM,((s_.getD g1.toNat cK).wV)⟩:bN) f_) λ v3=>need (v3=false)<|need (aG (g1+1))<|av (g1+1) else ret (-1:Int)
def nR (s_:List bN) (f_:List Int):M Int:=bJ (uF s_ f_) 0
def mQ (adM:List Int) (bA:List bN):M Unit:=bnd (nR bA adM) λ v1=>need ((v1==(-1:Int))=true)<|ret ()
def Jc (g_:cZ) (ak:List Int):M (List bN):=bnd (rE g_.dR) λ v1=>bnd (mQ ak v1) λ v2=>ret v1
def uZ (OA:Int):M (Bool×List Int):=need (1*8≤big)<|ret ((decide (((1:Nat):Int)≤4000)),([OA]:List Int))
def wI (x_:eP) (k_:Int) (iH:Int) (v1:Bool×List Int):Sf Int (Bool×List Int):=λ av g1=>bif decide (g1<(((x_.dH.getD k_.toNat []).length:Nat):Int)) then need (0≤g1∧g1<(((x_.dH.getD k_.toNat []).length:Nat):Int))<|need (0≤((x_.dH.getD k_.toNat []).getD g1.toNat 0)∧((x_.dH.getD k_.toNat []).getD g1.toNat 0)<(x_.jF.length:Int))<|need (((zU .u64 iH (x_.jF.getD (((x_.dH.getD k_.toNat []).getD g1.toNat 0).toNat) 0))==0)=true→aG (k_+1))<|need (((zU .u64 iH (x_.jF.getD (((x_.dH.getD k_.toNat []).getD g1.toNat 0).toNat) 0))==0)=true→0≤((x_.dH.getD k_.toNat []).getD g1.toNat 0)∧((x_.dH.getD k_.toNat []).getD g1.toNat 0)<(x_.jF.length:Int))<|need ((((zU .u64 iH (x_.jF.getD (((x_.dH.getD k_.toNat []).getD g1.toNat 0).toNat) 0))==0)==true)=false)<|need (((zU .u64 iH (x_.jF.getD (((x_.dH.getD k_.toNat []).getD g1.toNat 0).toNat) 0))==0)=false)<|need (aG (g1+1))<|av (g1+1) else ret (true,v1.2)
def qh (x_:eP) (k_:Int) (iH:Int):M (Bool×List Int):=need ((k_==(x_.dH.length:Int))=false)<|bnd (uZ k_) λ v1=>need ((!v1.1)=false)<|need (0≤k_∧k_<(x_.dH.length:Int))<|bJ (wI x_ k_ iH v1) 0
def Dt (p_:bI) (l_:List ByteArray) (dP:List Int):M (List Int×Int):=bnd (tq p_ l_ dP) λ v1=>need ((v1.2 != 0)=false)<|bnd (mP v1.1) λ v2=>bnd (lV v1.1 v2) λ v3=>need (v3.2=false)<|bnd (qh v1.1 (dP.length:Int) v1.1.rZ) λ v4=>need ((!v4.1)=false)<|ret (v4.2,0)
def Bq (b_:aW) (l_:List ay) (g_:cZ) (aV:Int) (bA:List Int):M (eT×Int):=bnd (Ja b_ l_ g_ aV bA) λ v1=>need (((v1.2.2 != 0)&&(v1.2.2 != 45))=false)<|bnd (nY bA) λ v2=>bnd (Jb aV bA) λ v3=>need ((v1.2.2==(45:Int))=true)<|need ((v1.2.1==(4:Int))=false)<|need ((v1.2.1==(1:Int))=false)<|need ((v1.2.1==(2:Int))=false)<|bnd (Jc g_ bA) λ v4=>need (0≤aV∧aV<(l_.length:Int))<|bnd (xS b_ v4 ((l_.getD aV.toNat bE).aC)) λ v5=>bnd (Dt b_.aU v5.1 v5.2) λ v6=>need ((v6.2 != 0)=false)<|ret ((⟨3,aV,v2,[],(⟨false,[],0,0⟩:Ad),v4,v6.1,(⟨[],(⟨[],[]⟩:dO),[],[],[]⟩:cZ),([]:List (List Int)),0,[]⟩:eT),0)
def Gl (iH:Int) (bA:List Int) (Gm:eP):Sf (Int×List Int×List Bool) (Bool×List Int×eP×List Bool):=λ av g1=>bif decide (g1.1<(((Gm.dH.getD ((bA.getD 0 0).toNat) []).length:Nat):Int)) then need (0≤g1.1∧g1.1<(((Gm.dH.getD ((bA.getD 0 0).toNat) []).length:Nat):Int))<|need (0≤((Gm.dH.getD ((bA.getD 0 0).toNat) []).getD g1.1.toNat 0)∧((Gm.dH.getD ((bA.getD 0 0).toNat) []).getD g1.1.toNat 0)<(Gm.jF.length:Int))<|need (((zU .u64 iH (Gm.jF.getD (((Gm.dH.getD ((bA.getD 0 0).toNat) []).getD g1.1.toNat 0).toNat) 0))==0)=true→0≤((Gm.dH.getD ((bA.getD 0 0).toNat) []).getD g1.1.toNat 0)∧((Gm.dH.getD ((bA.getD 0 0).toNat) []).getD g1.1.toNat 0)<(Gm.jF.length:Int))<|need ((((zU .u64 iH (Gm.jF.getD (((Gm.dH.getD ((bA.getD 0 0).toNat) []).getD g1.1.toNat 0).toNat) 0))==0)==true)=false)<|need (((zU .u64 iH (Gm.jF.getD (((Gm.dH.getD ((bA.getD 0 0).toNat) []).getD g1.1.toNat 0).toNat) 0))==0)=false)<|need (aG (g1.1+1))<|av ((g1.1+1),g1.2.1,g1.2.2) else need (0≤(bA.getD 0 0)∧(bA.getD 0 0)<(g1.2.2.length:Int))<|ret (true,g1.2.1,Gm,(g1.2.2.set ((bA.getD 0 0).toNat) false))
def Br (iH:Int) (bA:List Int) (BR:List ByteArray) (Gm:eP) (o5_:List Bool):M (Bool×List Int×eP×List Bool):=need (((bA.length:Int)==0)=false)<|need (0≤(0:Int)∧(0:Int)<(bA.length:Int))<|need (0≤(1:Int)∧(1:Int)≤(bA.length:Int))<|need (((decide ((bA.getD 0 0)<0))||(decide ((BR.length:Int)≤(bA.getD 0 0))))=false→0≤(bA.getD 0 0)∧(bA.getD 0 0)<(o5_.length:Int))<|need ((((decide ((bA.getD 0 0)<0))||(decide ((BR.length:Int)≤(bA.getD 0 0))))||(o5_.getD ((bA.getD 0 0).toNat) false))=false)<|need (0≤(bA.getD 0 0)∧(bA.getD 0 0)<(o5_.length:Int))<|need (0≤(bA.getD 0 0)∧(bA.getD 0 0)<(Gm.dH.length:Int))<|bJ (Gl iH bA Gm) (0,((bA.drop (1)).take (bA.length - 1)),(o5_.set ((bA.getD 0 0).toNat) true))
def KX (l_:List ByteArray) (dP:List Int) (proof_:List Int) (v1:eP×Int):Sf (Int×List Bool) Bool:=λ av g1=>bif decide (g1.1<(dP.length:Int)) then need (0≤g1.1∧g1.1<(g1.2.length:Int))<|need (aG (g1.1+1))<|av ((g1.1+1),(g1.2.set (g1.1.toNat) true)) else bnd (Br v1.1.rZ proof_ l_ v1.1 g1.2) λ v2=>ret (v2.1&&((v2.2.1.length:Int)==0))
def FE (p_:bI) (l_:List ByteArray) (dP:List Int) (proof_:List Int):M Bool:=bnd (tq p_ l_ dP) λ v1=>bif ((v1.2 != 0)||((proof_.length:Int)==0))||(decide ((4000:Int)<(proof_.length:Int))) then ret false else need (0≤(l_.length:Int)∧(l_.length:Int)*((1:Nat):Int)≤((big:Nat):Int))<|bJ (KX l_ dP proof_ v1) (0,(List.replicate ((l_.length:Int).toNat) false))
def Gn (b_:aW) (l_:List ay) (r_:eT):Sf (Int×List qm) Bool:=λ av g1=>bif decide (g1.1<(r_.dR.length:Int)) then need (0≤g1.1∧g1.1<(r_.dR.length:Int))<|bnd (slices_Contains_int r_.dz ((r_.dR.getD g1.1.toNat cK).dM)) λ v3=>need ((!v3)=false)<|need ((g1.2.length+1)*16≤big)<|need (aG (g1.1+1))<|av ((g1.1+1),(g1.2++([((r_.dR.getD g1.1.toNat cK).wV)]:List qm))) else bnd (Dj b_.aU g1.2) λ v4=>need ((v4.2 != 0)=false)<|need (0≤r_.dM∧r_.dM<(l_.length:Int))<|bnd (xS b_ r_.dR ((l_.getD r_.dM.toNat bE).aC)) λ v5=>bnd (FE b_.aU v5.1 v5.2 r_.bT) λ v6=>ret v6
def Bt (b_:aW) (l_:List ay) (r_:eT):M Bool:=bJ (Gn b_ l_ r_) (0,[])
def KY (b_:aW) (l_:List ay) (r_:eT):Sf Int Bool:=λ av g1=>bif decide (g1<(r_.dz.length:Int)) then need (0≤g1∧g1<(r_.dz.length:Int))<|need ((((decide ((r_.dz.getD g1.toNat 0)<0))||(decide ((l_.length:Int)≤(r_.dz.getD g1.toNat 0))))||((r_.dz.getD g1.toNat 0)==r_.dM))=false→0≤g1∧g1≤(r_.dz.length:Int))<|bnd (grd ((((decide ((r_.dz.getD g1.toNat 0)<0))||(decide ((l_.length:Int)≤(r_.dz.getD g1.toNat 0))))||((r_.dz.getD g1.toNat 0)==r_.dM))=false) (slices_Contains_int (r_.dz.take (g1.toNat)) (r_.dz.getD g1.toNat 0))) λ v4=>need (((((decide ((r_.dz.getD g1.toNat 0)<0))||(decide ((l_.length:Int)≤(r_.dz.getD g1.toNat 0))))||((r_.dz.getD g1.toNat 0)==r_.dM))||v4)=false)<|need (aG (g1+1))<|av (g1+1) else need (r_.gN=3)<|bnd (Bt b_ l_ (⟨3,r_.dM,r_.dz,r_.Branches,r_.Chain,r_.dR,r_.bT,r_.gZ,r_.Settings,r_.Other,r_.dW⟩:eT)) λ v5=>ret (true&&v5)
def yL (b_:aW) (l_:List ay) (r_:eT):M Bool:=bnd (kW b_ l_) λ v1=>need ((((v1 != 0)||(decide (r_.dM<0)))||(decide ((l_.length:Int)≤r_.dM)))=false)<|bJ (KY b_ l_ r_) 0
def Bu (aD:(List (List Int))) (g1:Int) (av:Int→M Int):Sf Int Int:=λ uU g7=>bif decide (g7<(((aD.getD g1.toNat []).length:Nat):Int)) then need (0≤g7∧g7<(((aD.getD g1.toNat []).length:Nat):Int))<|need (aG (g7 - 1))<|need (0≤(g7 - 1)∧(g7 - 1)<(((aD.getD g1.toNat []).length:Nat):Int))<|bif decide (((aD.getD g1.toNat []).getD g7.toNat 0)≤((aD.getD g1.toNat []).getD ((g7 - 1).toNat) 0)) then ret (12:Int) else need (aG (g7+1))<|uU (g7+1) else need (aG (g1+1))<|av (g1+1)
def Du (aD:(List (List Int))) (g1:Int) (av:Int→M Int):Sf Int Int:=λ jL g6=>bif decide (g6<(((aD.getD g1.toNat []).length:Nat):Int)) then need (0≤g6∧g6<(((aD.getD g1.toNat []).length:Nat):Int))<|bif (decide (((aD.getD g1.toNat []).getD g6.toNat 0)<0))||(decide ((aD.length:Int)≤((aD.getD g1.toNat []).getD g6.toNat 0))) then ret (2:Int) else need (aG (g6+1))<|jL (g6+1) else bJ (Bu aD g1 av) 1
def Dv (aD:(List (List Int))):Sf Int Int:=λ av g1=>bif decide (g1<(aD.length:Int)) then need (0≤g1∧g1<(aD.length:Int))<|bJ (Du aD g1 av) 0 else ret (0:Int)
def xU (aD:(List (List Int))):M Int:=bif decide ((24:Int)<(aD.length:Int)) then ret (3:Int) else bJ (Dv aD) 0
def tY:Sf (Int×List Int) (List Int):=λ iZ g3=>bif decide (g3.1<(g3.2.length:Int)) then need (0≤g3.1∧g3.1≤(g3.2.length:Int))<|need (0≤g3.1∧((0:Nat):Int)+g3.1≤(g3.2.length:Int))<|need (aG (g3.1+(((Nat.min g3.1.toNat (g3.2.length - g3.1.toNat)):Nat):Int)))<|iZ ((g3.1+(((Nat.min g3.1.toNat (g3.2.length - g3.1.toNat)):Nat):Int)),(V9 g3.2 (0+g3.1.toNat) (g3.2.take ((Nat.min g3.1.toNat (g3.2.length - g3.1.toNat)))))) else ret g3.2
def mR (x_:List Int) (v1:Int×Int):Unit→M (List Int):=λ g2=>need (0≤(IntKind.i64.wrap v1.2)∧(IntKind.i64.wrap v1.2)*((8:Nat):Int)≤((big:Nat):Int))<|bJ tY ((((Nat.min x_.length ((IntKind.i64.wrap v1.2).toNat)):Nat):Int),(V9 (List.replicate ((IntKind.i64.wrap v1.2).toNat) 0) (0) (x_.take ((Nat.min x_.length ((IntKind.i64.wrap v1.2).toNat))))))
def mU (x_:List Int) (pF:Int):Unit→M (List Int):=λ g1=>bnd (oD (IntKind.u64.wrap (x_.length:Int)) (IntKind.u64.wrap pF)) λ v1=>need (((decide ((0:Int)<v1.1))||(decide ((9223372036854775807:Int)<v1.2)))=false)<|(mR x_ v1) ()
def l7 (x_:List Int) (pF:Int):M (List Int):=need ((decide (pF<0))=false)<|(mU x_ pF) ()
def FH (aD:(List (List Int))) (av:(Nat×Nat×List Int×List Int)→M (List Int)):Sf (Nat×Nat×Int×List Int×List Int) (List Int):=λ nN g4=>need (g4.1+g4.2.1≤g4.2.2.2.2.length)<|bif decide (g4.2.2.1<(aD.length:Int)) then need (0≤g4.2.2.1∧g4.2.2.1<(g4.2.2.2.1.length:Int))<|need ((decide ((g4.2.2.2.1.getD g4.2.2.1.toNat 0)<0))=true→0≤g4.2.2.1∧g4.2.2.1<(aD.length:Int))<|need ((decide ((g4.2.2.2.1.getD g4.2.2.1.toNat 0)<0))=true→0≤(0:Int)∧(0:Int)<((g4.2.1:Nat):Int))<|bnd (grd ((decide ((g4.2.2.2.1.getD g4.2.2.1.toNat 0)<0))=true) (slices_Contains_int (aD.getD g4.2.2.1.toNat []) (g4.2.2.2.2.getD (addN g4.1 0) 0))) λ v10=>bif (decide ((g4.2.2.2.1.getD g4.2.2.1.toNat 0)<0))&&v10 then need (0≤(0:Int)∧(0:Int)<((g4.2.1:Nat):Int))<|need (0≤(g4.2.2.2.2.getD (addN g4.1 0) 0)∧(g4.2.2.2.2.getD (addN g4.1 0) 0)<(g4.2.2.2.1.length:Int))<|need (aG ((g4.2.2.2.1.getD ((g4.2.2.2.2.getD (addN g4.1 0) 0).toNat) 0)+1))<|need (0≤g4.2.2.1∧g4.2.2.1<(g4.2.2.2.1.length:Int))<|need ((g4.2.1+1)*8≤big)<|need (aG (g4.2.2.1+1))<|nN (0,(g4.2.1+1),(g4.2.2.1+1),(g4.2.2.2.1.set (g4.2.2.1.toNat) ((g4.2.2.2.1.getD ((g4.2.2.2.2.getD (addN g4.1 0) 0).toNat) 0)+1)),(((g4.2.2.2.2.drop (g4.1)).take (g4.2.1))++([g4.2.2.1]:List Int))) else need (aG (g4.2.2.1+1))<|nN (g4.1,g4.2.1,(g4.2.2.1+1),g4.2.2.2.1,g4.2.2.2.2) else need (0≤(1:Int)∧(1:Int)≤((g4.2.1:Nat):Int))<|av ((g4.1+1),(g4.2.1 - 1),g4.2.2.2.1,g4.2.2.2.2)
def FI (aD:(List (List Int))) (gI:Int):Sf (Nat×Nat×List Int×List Int) (List Int):=λ av g1=>need (g1.1+g1.2.1≤g1.2.2.2.length)<|bif decide ((0:Int)<((g1.2.1:Nat):Int)) then bJ (FH aD av) (g1.1,g1.2.1,gI,g1.2.2.1,g1.2.2.2) else ret g1.2.2.1
def wJ (aD:(List (List Int))) (gI:Int):M (List Int):=bnd (l7 ([(-1:Int)]:List Int) (aD.length:Int)) λ v1=>need (0≤gI∧gI<(v1.length:Int))<|bJ (FI aD gI) (0,1,(v1.set (gI.toNat) 0),([gI]:List Int))
def sw (yU:Int×List Int) (QE:(Int×List Int)→M (List Int)):Int→M (List Int):=λ g66=>need ((yU.2.length+1)*8≤big)<|QE (g66,(yU.2++([g66]:List Int)))
def zD (aD:(List (List Int))) (g1:(Bool×(Int×(Int×List Int)))) (v7:List Int) (vG:Int×Int) (yU:Int×List Int) (kk:Int→M (List Int)):Sf Int (List Int):=λ abZ Wp=>bif decide (Wp<(((aD.getD yU.1.toNat []).length:Nat):Int)) then need (0≤Wp∧Wp<(((aD.getD yU.1.toNat []).length:Nat):Int))<|need ((decide (g1.2.1<((aD.getD yU.1.toNat []).getD Wp.toNat 0)))=true→0≤((aD.getD yU.1.toNat []).getD Wp.toNat 0)∧((aD.getD yU.1.toNat []).getD Wp.toNat 0)<(v7.length:Int))<|need ((decide (g1.2.1<((aD.getD yU.1.toNat []).getD Wp.toNat 0)))=true→aG (vG.1 - (yU.2.length:Int)))<|bif (decide (g1.2.1<((aD.getD yU.1.toNat []).getD Wp.toNat 0)))&&((v7.getD (((aD.getD yU.1.toNat []).getD Wp.toNat 0).toNat) 0)==(vG.1 - (yU.2.length:Int))) then kk ((aD.getD yU.1.toNat []).getD Wp.toNat 0) else need (aG (Wp+1))<|abZ (Wp+1) else kk yU.1
def nG (aD:(List (List Int))) (g1:(Bool×(Int×(Int×List Int)))) (av:(Bool×(Int×(Int×List Int)))→M (List Int)) (v7:List Int) (vG:Int×Int):Sf (Int×List Int) (List Int):=λ QE yU=>bif decide ((yU.2.length:Int)<vG.1) then need (0≤yU.1∧yU.1<(aD.length:Int))<|bJ (zD aD g1 v7 vG yU (sw yU QE)) 0 else need (aG (g1.2.1+1))<|av (false,0,((g1.2.1+1),yU.2))
def sD (aD:(List (List Int))) (g1:(Bool×(Int×(Int×List Int)))) (av:(Bool×(Int×(Int×List Int)))→M (List Int)) (v7:List Int):Sf (Int×Int) (List Int):=λ XZ vG=>bif decide (vG.2<(((aD.getD g1.2.1.toNat []).length:Nat):Int)) then need (0≤vG.2∧vG.2<(((aD.getD g1.2.1.toNat []).length:Nat):Int))<|need ((decide (g1.2.1≤((aD.getD g1.2.1.toNat []).getD vG.2.toNat 0)))=true→0≤((aD.getD g1.2.1.toNat []).getD vG.2.toNat 0)∧((aD.getD g1.2.1.toNat []).getD vG.2.toNat 0)<(v7.length:Int))<|need (((decide (g1.2.1≤((aD.getD g1.2.1.toNat []).getD vG.2.toNat 0)))&&(decide ((0:Int)≤(v7.getD (((aD.getD g1.2.1.toNat []).getD vG.2.toNat 0).toNat) 0))))=true→(vG.1==(0:Int))=false→0≤((aD.getD g1.2.1.toNat []).getD vG.2.toNat 0)∧((aD.getD g1.2.1.toNat []).getD vG.2.toNat 0)<(v7.length:Int))<|need (((decide (g1.2.1≤((aD.getD g1.2.1.toNat []).getD vG.2.toNat 0)))&&(decide ((0:Int)≤(v7.getD (((aD.getD g1.2.1.toNat []).getD vG.2.toNat 0).toNat) 0))))=true→(vG.1==(0:Int))=false→aG ((v7.getD (((aD.getD g1.2.1.toNat []).getD vG.2.toNat 0).toNat) 0)+1))<|bif ((decide (g1.2.1≤((aD.getD g1.2.1.toNat []).getD vG.2.toNat 0)))&&(decide ((0:Int)≤(v7.getD (((aD.getD g1.2.1.toNat []).getD vG.2.toNat 0).toNat) 0))))&&((vG.1==(0:Int))||(decide (((v7.getD (((aD.getD g1.2.1.toNat []).getD vG.2.toNat 0).toNat) 0)+1)<vG.1))) then need (0≤((aD.getD g1.2.1.toNat []).getD vG.2.toNat 0)∧((aD.getD g1.2.1.toNat []).getD vG.2.toNat 0)<(v7.length:Int))<|need (aG ((v7.getD (((aD.getD g1.2.1.toNat []).getD vG.2.toNat 0).toNat) 0)+1))<|need (aG (vG.2+1))<|XZ (((v7.getD (((aD.getD g1.2.1.toNat []).getD vG.2.toNat 0).toNat) 0)+1),(vG.2+1)) else need (aG (vG.2+1))<|XZ (vG.1,(vG.2+1)) else bif (vG.1==(0:Int))||(false&&(decide (((0:Nat):Int)≤vG.1))) then need (aG (g1.2.1+1))<|av (true,(g1.2.1+1),(0,([]))) else bJ (nG aD g1 av v7 vG) (g1.2.1,([g1.2.1]:List Int))
def wK (yV:Int×List Int) (QF:(Int×List Int)→M (List Int)):Int→M (List Int):=λ g77=>need ((yV.2.length+1)*8≤big)<|QF (g77,(yV.2++([g77]:List Int)))
def Gp (aD:(List (List Int))) (g1:(Bool×(Int×(Int×List Int)))) (v8:List Int) (u6:Int×Int) (yV:Int×List Int) (kk:Int→M (List Int)):Sf Int (List Int):=λ ab0 Wq=>bif decide (Wq<(((aD.getD yV.1.toNat []).length:Nat):Int)) then need (0≤Wq∧Wq<(((aD.getD yV.1.toNat []).length:Nat):Int))<|need ((decide (g1.2.2.1<((aD.getD yV.1.toNat []).getD Wq.toNat 0)))=true→0≤((aD.getD yV.1.toNat []).getD Wq.toNat 0)∧((aD.getD yV.1.toNat []).getD Wq.toNat 0)<(v8.length:Int))<|need ((decide (g1.2.2.1<((aD.getD yV.1.toNat []).getD Wq.toNat 0)))=true→aG (u6.1 - (yV.2.length:Int)))<|bif (decide (g1.2.2.1<((aD.getD yV.1.toNat []).getD Wq.toNat 0)))&&((v8.getD (((aD.getD yV.1.toNat []).getD Wq.toNat 0).toNat) 0)==(u6.1 - (yV.2.length:Int))) then kk ((aD.getD yV.1.toNat []).getD Wq.toNat 0) else need (aG (Wq+1))<|ab0 (Wq+1) else kk yV.1
def Gq (aD:(List (List Int))) (g1:(Bool×(Int×(Int×List Int)))) (av:(Bool×(Int×(Int×List Int)))→M (List Int)) (v8:List Int) (u6:Int×Int):Sf (Int×List Int) (List Int):=λ QF yV=>bif decide ((yV.2.length:Int)<u6.1) then need (0≤yV.1∧yV.1<(aD.length:Int))<|bJ (Gp aD g1 v8 u6 yV (wK yV QF)) 0 else need (aG (g1.2.2.1+1))<|av (false,0,((g1.2.2.1+1),yV.2))
def pG (aD:(List (List Int))) (g1:(Bool×(Int×(Int×List Int)))) (av:(Bool×(Int×(Int×List Int)))→M (List Int)) (v8:List Int):Sf (Int×Int) (List Int):=λ X0 u6=>bif decide (u6.2<(((aD.getD g1.2.2.1.toNat []).length:Nat):Int)) then need (0≤u6.2∧u6.2<(((aD.getD g1.2.2.1.toNat []).length:Nat):Int))<|need ((decide (g1.2.2.1≤((aD.getD g1.2.2.1.toNat []).getD u6.2.toNat 0)))=true→0≤((aD.getD g1.2.2.1.toNat []).getD u6.2.toNat 0)∧((aD.getD g1.2.2.1.toNat []).getD u6.2.toNat 0)<(v8.length:Int))<|need (((decide (g1.2.2.1≤((aD.getD g1.2.2.1.toNat []).getD u6.2.toNat 0)))&&(decide ((0:Int)≤(v8.getD (((aD.getD g1.2.2.1.toNat []).getD u6.2.toNat 0).toNat) 0))))=true→(u6.1==(0:Int))=false→0≤((aD.getD g1.2.2.1.toNat []).getD u6.2.toNat 0)∧((aD.getD g1.2.2.1.toNat []).getD u6.2.toNat 0)<(v8.length:Int))<|need (((decide (g1.2.2.1≤((aD.getD g1.2.2.1.toNat []).getD u6.2.toNat 0)))&&(decide ((0:Int)≤(v8.getD (((aD.getD g1.2.2.1.toNat []).getD u6.2.toNat 0).toNat) 0))))=true→(u6.1==(0:Int))=false→aG ((v8.getD (((aD.getD g1.2.2.1.toNat []).getD u6.2.toNat 0).toNat) 0)+1))<|bif ((decide (g1.2.2.1≤((aD.getD g1.2.2.1.toNat []).getD u6.2.toNat 0)))&&(decide ((0:Int)≤(v8.getD (((aD.getD g1.2.2.1.toNat []).getD u6.2.toNat 0).toNat) 0))))&&((u6.1==(0:Int))||(decide (((v8.getD (((aD.getD g1.2.2.1.toNat []).getD u6.2.toNat 0).toNat) 0)+1)<u6.1))) then need (0≤((aD.getD g1.2.2.1.toNat []).getD u6.2.toNat 0)∧((aD.getD g1.2.2.1.toNat []).getD u6.2.toNat 0)<(v8.length:Int))<|need (aG ((v8.getD (((aD.getD g1.2.2.1.toNat []).getD u6.2.toNat 0).toNat) 0)+1))<|need (aG (u6.2+1))<|X0 (((v8.getD (((aD.getD g1.2.2.1.toNat []).getD u6.2.toNat 0).toNat) 0)+1),(u6.2+1)) else need (aG (u6.2+1))<|X0 (u6.1,(u6.2+1)) else need ((u6.1==(0:Int))=false→0<g1.2.2.2.length)<|bif (u6.1==(0:Int))||(true&&(decide ((g1.2.2.2.length:Int)≤u6.1))) then need (aG (g1.2.2.1+1))<|av (false,0,((g1.2.2.1+1),g1.2.2.2)) else bJ (Gq aD g1 av v8 u6) (g1.2.2.1,([g1.2.2.1]:List Int))
def Bv (aD:(List (List Int))):Sf (Bool×(Int×(Int×List Int))) (List Int):=λ av g1=>bif g1.1 then bif decide (g1.2.1<(aD.length:Int)) then bnd (wJ aD g1.2.1) λ v7=>need (0≤g1.2.1∧g1.2.1<(aD.length:Int))<|bJ (sD aD g1 av v7) (0,0) else ret ([]:List Int) else bif decide (g1.2.2.1<(aD.length:Int)) then bnd (wJ aD g1.2.2.1) λ v8=>need (0≤g1.2.2.1∧g1.2.2.1<(aD.length:Int))<|bJ (pG aD g1 av v8) (0,0) else ret g1.2.2.2
def vH (aD:(List (List Int))):M (List Int):=bnd (xU aD) λ v1=>bif v1 != 0 then ret ([]:List Int) else bJ (Bv aD) (true,0,(0,([])))
def xV (l_:List ay) (gV:List Bool):Sf (Int×(List (List Int))) (List Int):=λ av g1=>bif decide (g1.1<(l_.length:Int)) then need (0≤g1.1∧g1.1<(l_.length:Int))<|need ((decide ((gV.length:Int)≤g1.1))=false→0≤g1.1∧g1.1<(gV.length:Int))<|bif (decide ((gV.length:Int)≤g1.1))||(!(gV.getD g1.1.toNat false)) then bnd (slices_Clone_int ((l_.getD g1.1.toNat bE).aO)) λ v3=>need (0≤g1.1∧g1.1<(g1.2.length:Int))<|need (aG (g1.1+1))<|av ((g1.1+1),(g1.2.set (g1.1.toNat) v3)) else need (aG (g1.1+1))<|av ((g1.1+1),g1.2) else bnd (vH g1.2) λ v4=>ret v4
def mV (l_:List ay) (gV:List Bool):M (List Int):=bif decide ((12:Int)<(l_.length:Int)) then ret ([]:List Int) else need (0≤(l_.length:Int)∧(l_.length:Int)*((24:Nat):Int)≤((big:Nat):Int))<|bJ (xV l_ gV) (0,(List.replicate ((l_.length:Int).toNat) []))
def RY (a_:List Int) (b_:List Int):Sf Int Bool:=λ av g1=>bif decide (g1<(a_.length:Int)) then need (0≤g1∧g1<(a_.length:Int))<|need (0≤g1∧g1<(b_.length:Int))<|need (((a_.getD g1.toNat 0) != (b_.getD g1.toNat 0))=false)<|need (aG (g1+1))<|av (g1+1) else ret true
def QG (a_:List Int) (b_:List Int):M Bool:=need (((a_.length:Int) != (b_.length:Int))=false)<|bJ (RY a_ b_) 0
def wL (l_:List ay) (oF:List Bool) (aV:Int):Sf (Int×Int) Int:=λ av g1=>bif decide (g1.2<((((l_.getD aV.toNat bE).aO).length:Nat):Int)) then need (0≤g1.2∧g1.2<((((l_.getD aV.toNat bE).aO).length:Nat):Int))<|need (((decide ((0:Int)≤(((l_.getD aV.toNat bE).aO).getD g1.2.toNat 0)))&&(decide ((((l_.getD aV.toNat bE).aO).getD g1.2.toNat 0)<(oF.length:Int))))=true→0≤(((l_.getD aV.toNat bE).aO).getD g1.2.toNat 0)∧(((l_.getD aV.toNat bE).aO).getD g1.2.toNat 0)<(oF.length:Int))<|bif (((decide ((0:Int)≤(((l_.getD aV.toNat bE).aO).getD g1.2.toNat 0)))&&(decide ((((l_.getD aV.toNat bE).aO).getD g1.2.toNat 0)<(oF.length:Int))))&&(oF.getD ((((l_.getD aV.toNat bE).aO).getD g1.2.toNat 0).toNat) false))&&((decide (g1.1<(0:Int)))||(decide ((((l_.getD aV.toNat bE).aO).getD g1.2.toNat 0)<g1.1))) then need (aG (g1.2+1))<|av ((((l_.getD aV.toNat bE).aO).getD g1.2.toNat 0),(g1.2+1)) else need (aG (g1.2+1))<|av (g1.1,(g1.2+1)) else ret g1.1
def lK (l_:List ay) (oF:List Bool) (aV:Int):M Int:=bif (decide (aV<0))||(decide ((l_.length:Int)≤aV)) then ret (-1:Int) else need (0≤aV∧aV<(l_.length:Int))<|bJ (wL l_ oF aV) ((-1:Int),0)
def pI:M Bool:=bnd (SX) λ v1=>bnd (Qk v1.1) λ v2=>bnd (Iu v1.1 v1.2 [] v2.1 0) λ v3=>bnd (Bq v1.1 v1.2 v3.1 1 ([0]:List Int)) λ v4=>bnd (grd ((((v3.2.2==(0:Int))&&(v4.2==(0:Int)))&&(v4.1.gN==3))=true) (yL v1.1 v1.2 v4.1)) λ v5=>bnd (grd (((((v3.2.2==(0:Int))&&(v4.2==(0:Int)))&&(v4.1.gN==3))&&v5)=true) (yL v1.1 v1.2 (⟨v4.1.gN,v4.1.dM,v4.1.dz,v4.1.Branches,v4.1.Chain,v4.1.dR,[],v4.1.gZ,v4.1.Settings,v4.1.Other,v4.1.dW⟩:eT))) λ v6=>need (((((((v3.2.2==(0:Int))&&(v4.2==(0:Int)))&&(v4.1.gN==3))&&v5)&&(!v6))==true)=true)<|need (((((((v3.2.2==(0:Int))&&(v4.2==(0:Int)))&&(v4.1.gN==3))&&v5)&&(!v6))==true)=true)<|need (((((((v3.2.2==(0:Int))&&(v4.2==(0:Int)))&&(v4.1.gN==3))&&v5)&&(!v6))==true)=true)<|need (((((((v3.2.2==(0:Int))&&(v4.2==(0:Int)))&&(v4.1.gN==3))&&v5)&&(!v6))==true)=true)<|bnd (mV ([(⟨[],[],[],[],0,([1]:List Int)⟩:ay),(⟨[],[],[],[],0,([0]:List Int)⟩:ay)]:List ay) ([]:List Bool)) λ v7=>need (((((((v3.2.2==(0:Int))&&(v4.2==(0:Int)))&&(v4.1.gN==3))&&v5)&&(!v6))==true)=true)<|bnd (grd ((((((v3.2.2==(0:Int))&&(v4.2==(0:Int)))&&(v4.1.gN==3))&&v5)&&(!v6))=true) (QG v7 ([0,1]:List Int))) λ v8=>need ((((((((v3.2.2==(0:Int))&&(v4.2==(0:Int)))&&(v4.1.gN==3))&&v5)&&(!v6))&&v8)==true)=true)<|need ((((((((v3.2.2==(0:Int))&&(v4.2==(0:Int)))&&(v4.1.gN==3))&&v5)&&(!v6))&&v8)==true)=true)<|need ((((((((v3.2.2==(0:Int))&&(v4.2==(0:Int)))&&(v4.1.gN==3))&&v5)&&(!v6))&&v8)==true)=true)<|bnd (grd (((((((v3.2.2==(0:Int))&&(v4.2==(0:Int)))&&(v4.1.gN==3))&&v5)&&(!v6))&&v8)=true) (lK ([(⟨[],[],[],[],0,([1]:List Int)⟩:ay),(⟨[],[],[],[],0,[]⟩:ay)]:List ay) ([false,true]:List Bool) 0)) λ v9=>ret (((((((v3.2.2==(0:Int))&&(v4.2==(0:Int)))&&(v4.1.gN==3))&&v5)&&(!v6))&&v8)&&(v9==(1:Int)))
def ED (l_:List Int):M (List Int×Int):=need (0≤(if (600:Int)<(l_.length:Int) then 600 else (l_.length:Int))∧(if (600:Int)<(l_.length:Int) then 600 else (l_.length:Int))≤(l_.length:Int))<|ret ((l_.take ((if (600:Int)<(l_.length:Int) then 600 else (l_.length:Int)).toNat)),0)
def EF (x_:Int) (n_:Int):M Int:=bif decide (n_<1) then ret (0:Int) else need (n_≠0)<|need (aG ((x_.tmod n_)+n_))<|need (n_≠0)<|ret (((x_.tmod n_)+n_).tmod n_)
def gq (n_:Int) (bA:dU):M (Int×dU):=bif decide ((bA.L.length:Int)≤bA.At) then ret (0,bA) else need (aG (bA.At+1))<|need (aG ((bA.At+1) - 1))<|need (0≤((bA.At+1) - 1)∧((bA.At+1) - 1)<(bA.L.length:Int))<|bnd (EF (bA.L.getD (((bA.At+1) - 1).toNat) 0) n_) λ v1=>ret (v1,(⟨bA.L,(bA.At+1)⟩:dU))
def oU (A9:Int) (CP:Int) (bA:dU):M (Int×dU):=need (aG (CP - A9))<|need (aG ((CP - A9)+1))<|bnd (gq ((CP - A9)+1) bA) λ v1=>need (aG (A9+v1.1))<|ret ((A9+v1.1),v1.2)
def jd (l_:List Int) (bA:dU):M (Int×dU):=bnd (gq (l_.length:Int) bA) λ v1=>need (0≤v1.1∧v1.1<(l_.length:Int))<|ret ((l_.getD v1.1.toNat 0),v1.2)
def oV (b_:aW) (bA:dU):M (bX×dU):=bnd (gq (b_.bM.length:Int) bA) λ v1=>bnd (jd ([0,0,6,12,24]:List Int) v1.2) λ v2=>bnd (jd ([24,48,100,300]:List Int) v2.2) λ v3=>ret ((⟨v1.1,v2.1,v3.1⟩:bX),v3.2)
def qI (b_:aW) (bA:dU):M (bU×dU):=bnd (gq (b_.aT.length:Int) bA) λ v1=>bnd (jd ([0,900,1000,1800]:List Int) v1.2) λ v2=>bnd (jd ([1800,3300,5000]:List Int) v2.2) λ v3=>bnd (jd ([0,10,50,200]:List Int) v3.2) λ v4=>ret ((⟨v1.1,v2.1,v3.1,v4.1⟩:bU),v4.2)
def xW:M (List ByteArray):=ret ([({ data:=#[117,97,114,116] }:ByteArray),({ data:=#[115,112,105] }:ByteArray),({ data:=#[105,50,99] }:ByteArray),({ data:=#[112,119,109] }:ByteArray)]:List ByteArray)
def qJ (l_:List ByteArray) (bA:dU):M (ByteArray×dU):=bnd (gq (l_.length:Int) bA) λ v1=>need (0≤v1.1∧v1.1<(l_.length:Int))<|ret ((l_.getD v1.1.toNat ByteArray.empty),v1.2)
def tZ:Sf (Int×List Int×Int×List ByteArray) (List ByteArray×dU):=λ av g1=>bif decide ((0:Int)<g1.1) then bnd (xW) λ v6=>bnd (qJ v6 (⟨g1.2.1,g1.2.2.1⟩:dU)) λ v7=>need ((g1.2.2.2.length+1)*16≤big)<|need (aG (g1.1 - 1))<|av ((g1.1 - 1),v7.2.L,v7.2.At,(g1.2.2.2++([v7.1]:List ByteArray))) else ret (g1.2.2.2,(⟨g1.2.1,g1.2.2.1⟩:dU))
def l8 (nS:Int) (bA:dU):M (List ByteArray×dU):=need (aG (nS+1))<|bnd (gq (nS+1) bA) λ v1=>bJ tZ (v1.1,v1.2.L,v1.2.At,[])
def xX (n_:Int) (k_:Int):Sf (Int×List Int×Int×List Int) (List Int×dU):=λ av g1=>bif decide (g1.1<n_) then bnd (gq k_ (⟨g1.2.1,g1.2.2.1⟩:dU)) λ v3=>need (aG (k_ - 1))<|bif v3.1==(k_ - 1) then need ((g1.2.2.2.length+1)*8≤big)<|need (aG (g1.1+1))<|av ((g1.1+1),v3.2.L,v3.2.At,(g1.2.2.2++([g1.1]:List Int))) else need (aG (g1.1+1))<|av ((g1.1+1),v3.2.L,v3.2.At,g1.2.2.2) else ret (g1.2.2.2,(⟨g1.2.1,g1.2.2.1⟩:dU))
def mW (n_:Int) (k_:Int) (bA:dU):M (List Int×dU):=bJ (xX n_ k_) (0,bA.L,bA.At,[])
def iL (g1:Int×List Int×Int×List ay) (av:(Int×List Int×Int×List ay)→M (dU×List ay)) (v46:Int×dU) (g14:List Int×Int×List bX) (g15:List Int×Int×List bU) (g16:List Int×Int×List ByteArray) (v53:List Int×dU):(List Int×Int×List Int)→M (dU×List ay):=λ g18=>need ((g1.2.2.2.length+1)*128≤big)<|need (aG (g1.1+1))<|av ((g1.1+1),g18.1,g18.2.1,(g1.2.2.2++([(⟨g14.2.2,g15.2.2,g16.2.2,v53.1,v46.1,g18.2.2⟩:ay)]:List ay)))
def iM (g1:Int×List Int×Int×List ay) (av:(Int×List Int×Int×List ay)→M (dU×List ay)) (v46:Int×dU) (g14:List Int×Int×List bX) (g15:List Int×Int×List bU) (g16:List Int×Int×List ByteArray) (v53:List Int×dU):(Int×List Int×Int)→M (dU×List ay):=λ g19=>bnd (mW g19.1 3 (⟨g19.2.1,g19.2.2⟩:dU)) λ v60=>(iL g1 av v46 g14 g15 g16 v53) (v60.2.L,v60.2.At,v60.1)
def iN (b_:aW) (v1:Int×dU) (g1:Int×List Int×Int×List ay) (av:(Int×List Int×Int×List ay)→M (dU×List ay)) (v46:Int×dU) (g14:List Int×Int×List bX) (g15:List Int×Int×List bU):(List Int×Int×List ByteArray)→M (dU×List ay):=λ g16=>bnd (mW (b_.bg.length:Int) 4 (⟨g16.1,g16.2.1⟩:dU)) λ v53=>bnd (gq 2 v53.2) λ v58=>bif v58.1==(1:Int) then bnd (gq 6 v58.2) λ v61=>bif v61.1==(5:Int) then (iM g1 av v46 g14 g15 g16 v53) (v1.1,v61.2.L,v61.2.At) else (iM g1 av v46 g14 g15 g16 v53) (g1.1,v61.2.L,v61.2.At) else (iL g1 av v46 g14 g15 g16 v53) (v58.2.L,v58.2.At,[])
def gU (b_:aW) (v1:Int×dU) (g1:Int×List Int×Int×List ay) (av:(Int×List Int×Int×List ay)→M (dU×List ay)) (v46:Int×dU) (g14:List Int×Int×List bX):(List Int×Int×List bU)→M (dU×List ay):=λ g15=>bnd (gq 2 (⟨g15.1,g15.2.1⟩:dU)) λ v62=>bif v62.1==(1:Int) then bnd (l8 2 v62.2) λ v63=>(iN b_ v1 g1 av v46 g14 g15) (v63.2.L,v63.2.At,v63.1) else (iN b_ v1 g1 av v46 g14 g15) (v62.2.L,v62.2.At,[])
def ig (b_:aW) (v1:Int×dU) (g1:Int×List Int×Int×List ay) (av:(Int×List Int×Int×List ay)→M (dU×List ay)) (v46:Int×dU):(List Int×Int×List bX)→M (dU×List ay):=λ g14=>bif (decide ((0:Int)<(b_.aT.length:Int)))==true then bnd (gq 2 (⟨g14.1,g14.2.1⟩:dU)) λ v64=>bif (decide ((0:Int)<(b_.aT.length:Int)))&&(v64.1==(1:Int)) then bnd (qI b_ v64.2) λ v65=>need (1*32≤big)<|(gU b_ v1 g1 av v46 g14) (v65.2.L,v65.2.At,([v65.1]:List bU)) else (gU b_ v1 g1 av v46 g14) (v64.2.L,v64.2.At,[]) else need ((decide ((0:Int)<(b_.aT.length:Int)))=false)<|(gU b_ v1 g1 av v46 g14) (g14.1,g14.2.1,[])
def rF (v1:Int×dU) (g21:Int×List ay) (QH:(Int×List ay)→M (dU×List ay)):Sf (Int×List Int) (dU×List ay):=λ X3 g24=>bif decide ((0:Int)≤g24.1) then need (aG (v1.1 - 1))<|need (0≤g21.1∧g21.1<(g21.2.length:Int))<|need (0≤g24.1∧g24.1<((((g21.2.getD g21.1.toNat bE).aO).length:Nat):Int))<|need (aG ((v1.1 - 1) - (((g21.2.getD g21.1.toNat bE).aO).getD g24.1.toNat 0)))<|need ((g24.2.length+1)*8≤big)<|need (aG (g24.1 - 1))<|X3 ((g24.1 - 1),(g24.2++([((v1.1 - 1) - (((g21.2.getD g21.1.toNat bE).aO).getD g24.1.toNat 0))]:List Int))) else need (0≤g21.1∧g21.1<(g21.2.length:Int))<|need (aG (g21.1+1))<|QH ((g21.1+1),(g21.2.set (g21.1.toNat) (⟨(g21.2.getD g21.1.toNat bE).eH,(g21.2.getD g21.1.toNat bE).fU,(g21.2.getD g21.1.toNat bE).aC,(g21.2.getD g21.1.toNat bE).bg,(g21.2.getD g21.1.toNat bE).gy,g24.2⟩:ay)))
def rG (v1:Int×dU) (v68:Int×dU) (g20:Int×Int×List ay):Sf (Int×List ay) (dU×List ay):=λ QH g21=>bif decide (g21.1<(g20.2.2.length:Int)) then need (0≤g21.1∧g21.1<(g21.2.length:Int))<|need (aG (((((g21.2.getD g21.1.toNat bE).aO).length:Nat):Int) - 1))<|bJ (rF v1 g21 QH) ((((((g21.2.getD g21.1.toNat bE).aO).length:Nat):Int) - 1),[]) else ret (v68.2,g21.2)
def rH (v1:Int×dU) (v68:Int×dU):Sf (Int×Int×List ay) (dU×List ay):=λ X4 g20=>bif decide (g20.1<g20.2.1) then need (0≤g20.2.1∧g20.2.1<(g20.2.2.length:Int))<|need (0≤g20.1∧g20.1<(g20.2.2.length:Int))<|need (0≤g20.1∧g20.1<(g20.2.2.length:Int))<|need (0≤g20.2.1∧g20.2.1<(g20.2.2.length:Int))<|need (aG (g20.1+1))<|need (aG (g20.2.1 - 1))<|X4 ((g20.1+1),(g20.2.1 - 1),((g20.2.2.set (g20.1.toNat) (g20.2.2.getD g20.2.1.toNat bE)).set (g20.2.1.toNat) (g20.2.2.getD g20.1.toNat bE))) else bJ (rG v1 v68 g20) (0,g20.2.2)
def uf (b_:aW) (v1:Int×dU):Sf (Int×List Int×Int×List ay) (dU×List ay):=λ av g1=>bif decide (g1.1<v1.1) then need (aG ((b_.bF.length:Int) - 1))<|bnd (oU (-1:Int) ((b_.bF.length:Int) - 1) (⟨g1.2.1,g1.2.2.1⟩:dU)) λ v46=>bif (decide ((0:Int)<(b_.bM.length:Int)))==true then bnd (gq 2 v46.2) λ v66=>bif (decide ((0:Int)<(b_.bM.length:Int)))&&(v66.1==(1:Int)) then bnd (oV b_ v66.2) λ v67=>need (1*24≤big)<|(ig b_ v1 g1 av v46) (v67.2.L,v67.2.At,([v67.1]:List bX)) else (ig b_ v1 g1 av v46) (v66.2.L,v66.2.At,[]) else need ((decide ((0:Int)<(b_.bM.length:Int)))=false)<|(ig b_ v1 g1 av v46) (v46.2.L,v46.2.At,[]) else bif (decide ((1:Int)<v1.1))==true then bnd (gq 3 (⟨g1.2.1,g1.2.2.1⟩:dU)) λ v68=>bif (decide ((1:Int)<v1.1))&&(v68.1==(2:Int)) then need (aG (v1.1 - 1))<|bJ (rH v1 v68) (0,(v1.1 - 1),g1.2.2.2) else ret (v68.2,g1.2.2.2) else need ((decide ((1:Int)<v1.1))=false)<|ret ((⟨g1.2.1,g1.2.2.1⟩:dU),g1.2.2.2)
def l9 (b_:aW) (nS:Int) (bA:dU):M (dU×List ay):=need (aG (nS+1))<|bnd (gq (nS+1) bA) λ v1=>bJ (uf b_ v1) (0,v1.2.L,v1.2.At,[])
def Bw (aD:(List (List Int))) (g1:Int) (av:Int→M Int):Sf Int Int:=λ uU g7=>need (0≤g1∧g1<(aD.length:Int))<|bif decide (g7<(((aD.getD g1.toNat []).length:Nat):Int)) then need (0≤g1∧g1<(aD.length:Int))<|need (0≤g7∧g7<(((aD.getD g1.toNat []).length:Nat):Int))<|need (0≤g1∧g1<(aD.length:Int))<|need (aG (g7 - 1))<|need (0≤(g7 - 1)∧(g7 - 1)<(((aD.getD g1.toNat []).length:Nat):Int))<|bif decide (((aD.getD g1.toNat []).getD g7.toNat 0)≤((aD.getD g1.toNat []).getD ((g7 - 1).toNat) 0)) then ret (12:Int) else need (aG (g7+1))<|uU (g7+1) else need (aG (g1+1))<|av (g1+1)
def Dw (aD:(List (List Int))) (g1:Int) (av:Int→M Int):Sf Int Int:=λ jL g6=>need (0≤g1∧g1<(aD.length:Int))<|bif decide (g6<(((aD.getD g1.toNat []).length:Nat):Int)) then need (0≤g1∧g1<(aD.length:Int))<|need (0≤g6∧g6<(((aD.getD g1.toNat []).length:Nat):Int))<|need ((decide (((aD.getD g1.toNat []).getD g6.toNat 0)<0))=false→0≤g1∧g1<(aD.length:Int))<|need ((decide (((aD.getD g1.toNat []).getD g6.toNat 0)<0))=false→0≤g6∧g6<(((aD.getD g1.toNat []).length:Nat):Int))<|bif (decide (((aD.getD g1.toNat []).getD g6.toNat 0)<0))||(decide ((aD.length:Int)≤((aD.getD g1.toNat []).getD g6.toNat 0))) then ret (2:Int) else need (aG (g6+1))<|jL (g6+1) else bJ (Bw aD g1 av) 1
def Dx (aD:(List (List Int))):Sf Int Int:=λ av g1=>bif decide (g1<(aD.length:Int)) then bJ (Dw aD g1 av) 0 else ret (0:Int)
def xY (aD:(List (List Int))):M Int:=bif decide ((24:Int)<(aD.length:Int)) then ret (3:Int) else bJ (Dx aD) 0
def Bz (aD:(List (List Int))) (g1:List Bool×List Int) (g10:Int×Int) (yM:(Int×Int)→M (List Int×Bool)):Sf (Bool×Int) (List Int×Bool):=λ KZ g13=>need (0≤g10.2∧g10.2<(aD.length:Int))<|bif decide (g13.2<(((aD.getD g10.2.toNat []).length:Nat):Int)) then need (g13.1=true→0≤g10.2∧g10.2<(aD.length:Int))<|need (g13.1=true→0≤g13.2∧g13.2<(((aD.getD g10.2.toNat []).length:Nat):Int))<|need (g13.1=true→0≤((aD.getD g10.2.toNat []).getD g13.2.toNat 0)∧((aD.getD g10.2.toNat []).getD g13.2.toNat 0)<(g1.1.length:Int))<|need (aG (g13.2+1))<|KZ ((g13.1&&(g1.1.getD (((aD.getD g10.2.toNat []).getD g13.2.toNat 0).toNat) false)),(g13.2+1)) else bif g13.1 then need (aG (g10.2 - 1))<|yM (g10.2,(g10.2 - 1)) else need (aG (g10.2 - 1))<|yM (g10.1,(g10.2 - 1))
def Dy (aD:(List (List Int))) (g1:List Bool×List Int) (av:(List Bool×List Int)→M (List Int×Bool)):Sf (Int×Int) (List Int×Bool):=λ yM g10=>bif decide ((0:Int)≤g10.2) then need (0≤g10.2∧g10.2<(g1.1.length:Int))<|bJ (Bz aD g1 g10 yM) ((!(g1.1.getD g10.2.toNat false)),0) else bif decide (g10.1<(0:Int)) then ret (([]:List Int),false) else need (0≤g10.1∧g10.1<(g1.1.length:Int))<|need ((g1.2.length+1)*8≤big)<|av ((g1.1.set (g10.1.toNat) true),(g1.2++([g10.1]:List Int)))
def Dz (aD:(List (List Int))):Sf (List Bool×List Int) (List Int×Bool):=λ av g1=>bif decide ((g1.2.length:Int)<(aD.length:Int)) then need (aG ((aD.length:Int) - 1))<|bJ (Dy aD g1 av) ((-1:Int),((aD.length:Int) - 1)) else ret (g1.2,true)
def xZ (aD:(List (List Int))):M (List Int×Bool):=bnd (xY aD) λ v1=>bif v1 != 0 then ret (([]:List Int),false) else need (0≤(aD.length:Int)∧(aD.length:Int)*((1:Nat):Int)≤((big:Nat):Int))<|bJ (Dz aD) ((List.replicate ((aD.length:Int).toNat) false),[])
def qK (d_:Int) (bA:List ay) (pE:List Int) (bQ:(List Int×List ay×List Int×List Bool)→M (Bool×List ay×List Int×List Bool)):List Bool→M (Bool×List ay×List Int×List Bool):=λ g1=>bnd (slices_Contains_int pE d_) λ v1=>need (v1=false→0≤d_∧d_<(bA.length:Int))<|bif v1==false then bnd (bQ ((bA.getD d_.toNat bE).aO,bA,pE,g1)) λ v2=>ret ((v1||v2.1),v2.2.1,v2.2.2.1,v2.2.2.2) else need (v1=true)<|ret (true,bA,pE,g1)
def mX (bQ:(List Int×List ay×List Int×List Bool)→M (Bool×List ay×List Int×List Bool)) (d_:Int) (bA:List ay) (pE:List Int) (qd:List Bool):M (Bool×List ay×List Int×List Bool):=need (((decide (d_<0))||(decide ((bA.length:Int)≤d_)))=false→0≤d_∧d_<(qd.length:Int))<|bif ((decide (d_<0))||(decide ((bA.length:Int)≤d_)))||(qd.getD d_.toNat false) then ret (false,bA,pE,qd) else need (0≤d_∧d_<(qd.length:Int))<|(qK d_ bA pE bQ) (qd.set (d_.toNat) true)
def mY (s_:List Int) (bQ:(List Int×List ay×List Int×List Bool)→M (Bool×List ay×List Int×List Bool)):Sf (Int×List ay×List Int×List Bool) (Int×List ay×List Int×List Bool):=λ av g1=>bif decide (g1.1<(s_.length:Int)) then need (0≤g1.1∧g1.1<(s_.length:Int))<|bnd (mX bQ (s_.getD g1.1.toNat 0) g1.2.1 g1.2.2.1 g1.2.2.2) λ v3=>bif v3.1 then ret (g1.1,v3.2.1,v3.2.2.1,v3.2.2.2) else need (aG (g1.1+1))<|av ((g1.1+1),v3.2.1,v3.2.2.1,v3.2.2.2) else ret ((-1:Int),g1.2.1,g1.2.2.1,g1.2.2.2)
def kE (bQ:(List Int×List ay×List Int×List Bool)→M (Bool×List ay×List Int×List Bool)) (s_:List Int) (bA:List ay) (pE:List Int) (qd:List Bool):M (Int×List ay×List Int×List Bool):=bJ (mY s_ bQ) (0,bA,pE,qd)
def fH:Sf (List Int×List ay×List Int×List Bool) (Bool×List ay×List Int×List Bool):=λ Gc mq=>bnd (kE Gc mq.1 mq.2.1 mq.2.2.1 mq.2.2.2) λ v1=>ret ((decide ((0:Int)≤v1.1)),v1.2.1,v1.2.2.1,v1.2.2.2)
def gM (s_:List Int) (bA:List ay) (pE:List Int) (qd:List Bool):M (Bool×List ay×List Int×List Bool):=bJ fH (s_,bA,pE,qd)
def DC (d_:Int) (bA:List ay) (pE:List Int):List Bool→M (Bool×List ay×List Int×List Bool):=λ g1=>bnd (slices_Contains_int pE d_) λ v1=>need (v1=false→0≤d_∧d_<(bA.length:Int))<|bif v1==false then bnd (gM ((bA.getD d_.toNat bE).aO) bA pE g1) λ v2=>ret ((v1||v2.1),v2.2.1,v2.2.2.1,v2.2.2.2) else need (v1=true)<|ret (true,bA,pE,g1)
def DF (d_:Int) (bA:List ay) (pE:List Int) (qd:List Bool):M (Bool×List ay×List Int×List Bool):=need (((decide (d_<0))||(decide ((bA.length:Int)≤d_)))=false→0≤d_∧d_<(qd.length:Int))<|bif ((decide (d_<0))||(decide ((bA.length:Int)≤d_)))||(qd.getD d_.toNat false) then ret (false,bA,pE,qd) else need (0≤d_∧d_<(qd.length:Int))<|(DC d_ bA pE) (qd.set (d_.toNat) true)
def EG (l_:List ay) (aV:Int) (YV:List Int):M Bool:=need (0≤(l_.length:Int)∧(l_.length:Int)*((1:Nat):Int)≤((big:Nat):Int))<|bnd (DF aV l_ YV (List.replicate ((l_.length:Int).toNat) false)) λ v1=>ret v1.1
def x9 (l_:List ay) (r_:eT):Sf Int Bool:=λ av g1=>bif decide (g1<(r_.dW.length:Int)) then need (0≤g1∧g1<(r_.dW.length:Int))<|need (aG (g1+1))<|need ((r_.dW.length:Int)≠0)<|need (0≤((g1+1).tmod (r_.dW.length:Int))∧((g1+1).tmod (r_.dW.length:Int))<(r_.dW.length:Int))<|need (((decide ((r_.dW.getD g1.toNat 0)<0))||(decide ((l_.length:Int)≤(r_.dW.getD g1.toNat 0))))=false→0≤(r_.dW.getD g1.toNat 0)∧(r_.dW.getD g1.toNat 0)<(l_.length:Int))<|bnd (grd (((decide ((r_.dW.getD g1.toNat 0)<0))||(decide ((l_.length:Int)≤(r_.dW.getD g1.toNat 0))))=false) (slices_Contains_int ((l_.getD ((r_.dW.getD g1.toNat 0).toNat) bE).aO) (r_.dW.getD (((g1+1).tmod (r_.dW.length:Int)).toNat) 0))) λ v3=>bif ((decide ((r_.dW.getD g1.toNat 0)<0))||(decide ((l_.length:Int)≤(r_.dW.getD g1.toNat 0))))||(!v3) then ret false else need (aG (g1+1))<|av (g1+1) else bnd (EG l_ r_.dM r_.dW) λ v4=>ret v4
def qL (mq:aW) (l_:List ay) (r_:eT):M Bool:=bif (r_.dW.length:Int)==0 then ret false else bJ (x9 l_ r_) 0
def u7 (b_:aW) (l_:List ay) (r_:eT):Sf Int Bool:=λ av g1=>bif decide (g1<(r_.dz.length:Int)) then need (0≤g1∧g1<(r_.dz.length:Int))<|need ((((decide ((r_.dz.getD g1.toNat 0)<0))||(decide ((l_.length:Int)≤(r_.dz.getD g1.toNat 0))))||((r_.dz.getD g1.toNat 0)==r_.dM))=false→0≤g1∧g1≤(r_.dz.length:Int))<|bnd (grd ((((decide ((r_.dz.getD g1.toNat 0)<0))||(decide ((l_.length:Int)≤(r_.dz.getD g1.toNat 0))))||((r_.dz.getD g1.toNat 0)==r_.dM))=false) (slices_Contains_int (r_.dz.take (g1.toNat)) (r_.dz.getD g1.toNat 0))) λ v4=>bif (((decide ((r_.dz.getD g1.toNat 0)<0))||(decide ((l_.length:Int)≤(r_.dz.getD g1.toNat 0))))||((r_.dz.getD g1.toNat 0)==r_.dM))||v4 then ret false else need (aG (g1+1))<|av (g1+1) else need (r_.gN=7)<|bnd (qL b_ l_ (⟨7,r_.dM,r_.dz,r_.Branches,r_.Chain,r_.dR,r_.bT,r_.gZ,r_.Settings,r_.Other,r_.dW⟩:eT)) λ v5=>ret (true&&v5)
def nH (b_:aW) (l_:List ay) (r_:eT):M Bool:=bnd (kW b_ l_) λ v1=>bif ((v1 != 0)||(decide (r_.dM<0)))||(decide ((l_.length:Int)≤r_.dM)) then ret false else bJ (u7 b_ l_ r_) 0
def yc (l_:List ay) (g10:Int×List Bool) (yM:(Int×List Bool)→M Bool):Sf (Int×List Bool) Bool:=λ KZ g13=>bif decide (g13.1<((((l_.getD g10.1.toNat bE).aO).length:Nat):Int)) then need (0≤g13.1∧g13.1<((((l_.getD g10.1.toNat bE).aO).length:Nat):Int))<|need (0≤g10.1∧g10.1<(g13.2.length:Int))<|bif ((g13.2.getD g10.1.toNat false)&&(decide ((0:Int)≤(((l_.getD g10.1.toNat bE).aO).getD g13.1.toNat 0))))&&(decide ((((l_.getD g10.1.toNat bE).aO).getD g13.1.toNat 0)<(l_.length:Int))) then need (0≤(((l_.getD g10.1.toNat bE).aO).getD g13.1.toNat 0)∧(((l_.getD g10.1.toNat bE).aO).getD g13.1.toNat 0)<(g13.2.length:Int))<|need (aG (g13.1+1))<|KZ ((g13.1+1),(g13.2.set ((((l_.getD g10.1.toNat bE).aO).getD g13.1.toNat 0).toNat) true)) else need (aG (g13.1+1))<|KZ ((g13.1+1),g13.2) else need (aG (g10.1+1))<|yM ((g10.1+1),g13.2)
def zF (l_:List ay) (g1:Int×List Bool) (av:(Int×List Bool)→M Bool):Sf (Int×List Bool) Bool:=λ yM g10=>bif decide (g10.1<(l_.length:Int)) then need (0≤g10.1∧g10.1<(l_.length:Int))<|bJ (yc l_ g10 yM) (0,g10.2) else need (aG (g1.1+1))<|av ((g1.1+1),g10.2)
def zG (l_:List ay) (pJ:Int):Sf (Int×List Bool) Bool:=λ av g1=>bif decide (g1.1<(l_.length:Int)) then bJ (zF l_ g1 av) (0,g1.2) else need (((decide ((0:Int)≤pJ))&&(decide (pJ<(l_.length:Int))))=true→0≤pJ∧pJ<(g1.2.length:Int))<|ret (((decide ((0:Int)≤pJ))&&(decide (pJ<(l_.length:Int))))&&(g1.2.getD pJ.toNat false))
def tu (l_:List ay) (aV:Int) (pJ:Int):M Bool:=need (0≤(l_.length:Int)∧(l_.length:Int)*((1:Nat):Int)≤((big:Nat):Int))<|bif (decide (aV<0))||(decide ((l_.length:Int)≤aV)) then ret false else need (0≤aV∧aV<(((l_.length:Int).toNat:Nat):Int))<|bJ (zG l_ pJ) (0,((List.replicate ((l_.length:Int).toNat) false).set (aV.toNat) true))
def uG (mq:aW) (l_:List ay) (r_:eT):M Bool:=need (0≤r_.dM∧r_.dM<(l_.length:Int))<|bnd (slices_Contains_int ((l_.getD r_.dM.toNat bE).aO) r_.Other) λ v1=>ret v1
def vg (b_:aW) (l_:List ay) (r_:eT):Sf Int Bool:=λ av g1=>bif decide (g1<(r_.dz.length:Int)) then need (0≤g1∧g1<(r_.dz.length:Int))<|need ((((decide ((r_.dz.getD g1.toNat 0)<0))||(decide ((l_.length:Int)≤(r_.dz.getD g1.toNat 0))))||((r_.dz.getD g1.toNat 0)==r_.dM))=false→0≤g1∧g1≤(r_.dz.length:Int))<|bnd (grd ((((decide ((r_.dz.getD g1.toNat 0)<0))||(decide ((l_.length:Int)≤(r_.dz.getD g1.toNat 0))))||((r_.dz.getD g1.toNat 0)==r_.dM))=false) (slices_Contains_int (r_.dz.take (g1.toNat)) (r_.dz.getD g1.toNat 0))) λ v4=>bif (((decide ((r_.dz.getD g1.toNat 0)<0))||(decide ((l_.length:Int)≤(r_.dz.getD g1.toNat 0))))||((r_.dz.getD g1.toNat 0)==r_.dM))||v4 then ret false else need (aG (g1+1))<|av (g1+1) else need (r_.gN=6)<|bnd (uG b_ l_ (⟨6,r_.dM,r_.dz,r_.Branches,r_.Chain,r_.dR,r_.bT,r_.gZ,r_.Settings,r_.Other,r_.dW⟩:eT)) λ v5=>ret (true&&v5)
def nI (b_:aW) (l_:List ay) (r_:eT):M Bool:=bnd (kW b_ l_) λ v1=>bif ((v1 != 0)||(decide (r_.dM<0)))||(decide ((l_.length:Int)≤r_.dM)) then ret false else bJ (vg b_ l_ r_) 0
def iR (gV:List Bool) (aV:Int):(List ay×(List (List Int)))→M Bool:=λ g5=>bnd (mV g5.1 gV) λ v4=>bnd (xZ g5.2) λ v5=>bif !(v5.2==((v4.length:Int)==0)) then ret false else bif (g5.1.length:Int)==0 then bnd (pI) λ v6=>ret v6 else need ((g5.1.length:Int)≠0)<|bnd (grd ((decide ((0:Int)<(v4.length:Int)))=true) (nH (⟨[],[],(⟨0,[]⟩:bI),[],[]⟩:aW) g5.1 (⟨7,((IntKind.i64.wrap aV).tmod (g5.1.length:Int)),[],[],(⟨false,[],0,0⟩:Ad),[],[],(⟨[],(⟨[],[]⟩:dO),[],[],[]⟩:cZ),([]:List (List Int)),0,v4⟩:eT))) λ v7=>need ((decide ((0:Int)<(v4.length:Int)))=true→0≤(0:Int)∧(0:Int)<(v4.length:Int))<|bnd (grd ((decide ((0:Int)<(v4.length:Int)))=true) (tu g5.1 ((IntKind.i64.wrap aV).tmod (g5.1.length:Int)) (v4.getD 0 0))) λ v8=>bif (decide ((0:Int)<(v4.length:Int)))&&(!(v7==v8)) then ret false else bnd (lK g5.1 gV ((IntKind.i64.wrap aV).tmod (g5.1.length:Int))) λ v9=>bnd (grd ((v9==(-1:Int))=false) (nI (⟨[],[],(⟨0,[]⟩:bI),[],[]⟩:aW) g5.1 (⟨6,((IntKind.i64.wrap aV).tmod (g5.1.length:Int)),[],[],(⟨false,[],0,0⟩:Ad),[],[],(⟨[],(⟨[],[]⟩:dO),[],[],[]⟩:cZ),([]:List (List Int)),v9,[]⟩:eT))) λ v10=>bnd (grd (((v9==(-1:Int))||v10)=true) (pI)) λ v11=>ret (((v9==(-1:Int))||v10)&&v11)
def j4 (gV:List Bool) (g6:(Int×List ay×(List (List Int)))) (jL:(Int×List ay×(List (List Int)))→M Bool):List ay→M Bool:=λ g9=>need ((decide (g6.1<(gV.length:Int)))=true→0≤g6.1∧g6.1<(gV.length:Int))<|bif (decide (g6.1<(gV.length:Int)))&&(gV.getD g6.1.toNat false) then need ((g6.2.2.length+1)*24≤big)<|need (aG (g6.1+1))<|jL ((g6.1+1),g9,(g6.2.2++([([]:List Int)]:List (List Int)))) else need (0≤g6.1∧g6.1<(g9.length:Int))<|need ((g6.2.2.length+1)*24≤big)<|need (aG (g6.1+1))<|jL ((g6.1+1),g9,(g6.2.2++([(g9.getD g6.1.toNat bE).aO]:List (List Int))))
def qj (gV:List Bool) (v3:dU×List ay) (kk:(List ay×(List (List Int)))→M Bool):Sf (Int×List ay×(List (List Int))) Bool:=λ jL g6=>bif decide (g6.1<(v3.2.length:Int)) then need (0≤g6.1∧g6.1<(g6.2.1.length:Int))<|(j4 gV g6 jL) (g6.2.1.set (g6.1.toNat) (⟨(g6.2.1.getD g6.1.toNat bE).eH,(g6.2.1.getD g6.1.toNat bE).fU,[],(g6.2.1.getD g6.1.toNat bE).bg,(g6.2.1.getD g6.1.toNat bE).gy,(g6.2.1.getD g6.1.toNat bE).aO⟩:ay)) else kk (g6.2.1,g6.2.2)
def mZ (t_:List Int) (gV:List Bool) (aV:Int):M Bool:=bif (decide ((400:Int)<(t_.length:Int)))||(decide ((20:Int)<(gV.length:Int))) then bnd (pI) λ v1=>ret v1 else bnd (ED t_) λ v2=>bnd (l9 (⟨[],[],(⟨0,[]⟩:bI),[],[]⟩:aW) 8 (⟨v2.1,v2.2⟩:dU)) λ v3=>bJ (qj gV v3 (iR gV aV)) (0,v3.2,([]:List (List Int)))
end
end Go.Proofs.YtnbjfoeapbncjaaGreatDoor
namespace Go.Ab
def Ux {α:Type} (l:List α) (P:α→Bool):Int:=if l.any P then ((l.findIdx P:Nat):Int) else -1
variable {α:Type}
theorem Jd (l:List α) (P:α→Bool):decide (0≤Ux l P)=l.any P:=by
 unfold Ux;cases l.any P<;>simp<;>omega
theorem ab1 {l:List α} {P:α→Bool} {d:α} {i:Nat} (hi:i<l.length) (h:P (l.getD i d)=true):l.any P=true:=by
 rw [List.any_eq_true];refine ⟨l[i],List.getElem_mem hi,?_⟩;rw [List.getD_eq_getElem?_getD,List.getElem?_eq_getElem hi] at h;exact h
theorem any_take_succ (l:List α) (P:α→Bool) (d:α) {i:Nat} (hi:i<l.length):(l.take (i+1)).any P=((l.take i).any P||P (l.getD i d)):=by
 rw [List.take_add_one,List.any_append,List.getElem?_eq_getElem hi,List.getD_eq_getElem?_getD,List.getElem?_eq_getElem hi];simp
theorem YW {l:List α} {P:α→Bool} {d:α} {g:Int} (h0:0≤g) (h1:g<l.length) (hb:(l.take g.toNat).any P=false) (hp:P (l.getD g.toNat d)=true):Ux l P=g:=by
 have hi:g.toNat<l.length:=by omega
 unfold Ux;rw [ab1 hi hp,if_pos rfl];have:l.findIdx P=g.toNat:=by
  rw [List.findIdx_eq hi];constructor
  ·rw [List.getD_eq_getElem?_getD,List.getElem?_eq_getElem hi] at hp;exact hp
  ·intro j hj;have:=List.any_eq_false.1 hb (l[j]'om) (by
    rw [List.mem_take_iff_getElem]
    exact ⟨j,om,rfl⟩)
   simpa using this
 omega
theorem ab2 {l:List α} {d:α} {p:α→M Bool} {P:α→Bool} (hp:∀x∈l,p x (P x)) (hl:(l.length:Int)≤9223372036854775807):W (bJ (λ (self:Int→M Int) g=>bif (decide (g<(l.length:Int))) then
  need (0≤g∧g<(l.length:Int))<|
  bnd (p (l.getD g.toNat d)) λ v3=>
  bif v3 then
   ret g
  else
   need (aG (g+(1:Int)))<|
   self (g+(1:Int))
 else
  ret (-1:Int)) (0:Int)) (λ r=>r=Ux l P):=by
 refine fK (λ (g:Int)=>0≤g∧g≤l.length∧(l.take g.toNat).any P=false) (λ (g:Int)=>(l.length - g).toNat) ?_ ⟨om,om,by simp⟩;intro self g ⟨h0,h1,hb⟩ ih;refine fO ?_ ?_<;>intro c
 ·have c:=of_decide_eq_true c;refine aR ⟨h0,c⟩ ?_;have hi:g.toNat<l.length:=by omega
  have hm:l.getD g.toNat d∈l:=by
   rw [List.getD_eq_getElem?_getD,List.getElem?_eq_getElem hi];exact List.getElem_mem hi
  refine dD (H7 (hp _ hm)) λ v hv=>?_;subst hv;refine fO ?_ ?_<;>intro c2
  ·exact bY (YW h0 c hb c2).symm
  ·refine aR (by unfold aG; omega) ?_;refine ih _ ⟨om,om,?_⟩ om;rw [show (g+1).toNat=g.toNat+1 by omega,any_take_succ l P d hi,hb,c2];rfl
 ·have c:=of_decide_eq_false c;refine bY ?_;unfold Ux;rw [show g.toNat=l.length by omega,List.take_length] at hb;rw [hb];rfl
theorem afG {l:List α} {d:α} {P:α→Bool} (hl:(l.length:Int)≤9223372036854775807):W (bJ (λ (self:Int→M Int) g=>bif (decide (g<(l.length:Int))) then
  need (0≤g∧g<(l.length:Int))<|
  bif (P (l.getD g.toNat d)) then
   ret g
  else
   need (aG (g+(1:Int)))<|
   self (g+(1:Int))
 else
  ret (-1:Int)) (0:Int)) (λ r=>r=Ux l P):=by
 refine fK (λ (g:Int)=>0≤g∧g≤l.length∧(l.take g.toNat).any P=false) (λ (g:Int)=>(l.length - g).toNat) ?_ ⟨om,om,by simp⟩;intro self g ⟨h0,h1,hb⟩ ih;refine fO ?_ ?_<;>intro c
 ·have c:=of_decide_eq_true c;refine aR ⟨h0,c⟩ ?_;have hi:g.toNat<l.length:=by omega
  refine fO ?_ ?_<;>intro c2
  ·exact bY (YW h0 c hb c2).symm
  ·refine aR (by unfold aG; omega) ?_;refine ih _ ⟨om,om,?_⟩ om;rw [show (g+1).toNat=g.toNat+1 by omega,any_take_succ l P d hi,hb,c2];rfl
 ·have c:=of_decide_eq_false c;refine bY ?_;unfold Ux;rw [show g.toNat=l.length by omega,List.take_length] at hb;rw [hb];rfl
theorem YX {m:M Int} {v:Int} {b:Bool} (h:W m (λ r=>r=v)) (hb:decide (0≤v)=b):bnd m (λ v1=>ret (decide ((0:Int)≤v1))) b:=by
 refine PS (dD h λ v1 h1=>bY ?_);subst h1;exact hb
theorem sF {A:Type} [Inhabited A] {c:Prop} {d:Decidable c} {m:M A} {v:A} (h:c→m v):W (grd c m) (λ r=>r=v):=⟨v,h,rfl⟩
theorem ab3 {R:Type} {F:(Int→M R)→Int→M R} {Q:R→Prop} (n:Nat) (inv:Nat→Prop) (h:∀(self:Int→M R) (i:Nat),i≤n→inv i→(i<n→inv (i+1)→W (self ((i:Int)+1)) Q)→W (F self (i:Int)) Q) (h0:inv 0):W (bJ F (0:Int)) Q:=by
 refine fK (λ (g:Int)=>∃i:Nat,g=i∧i≤n∧inv i) (λ (g:Int)=>(n - g).toNat) ?_ ⟨0,rfl,Nat.zero_le _,h0⟩;rintro self g ⟨i,rfl,hi,hv⟩ ih;refine h self i hi hv λ h1 h2=>?_;exact ih _ ⟨i+1,by simp,h1,h2⟩ om
variable {p: Prop}
theorem vP {q: Prop} (h : p) (e : p = q := by (try simp only [Bool.and_eq_true, Bool.or_eq_true, Bool.and_eq_false_iff, Bool.or_eq_false_iff, decide_eq_true_eq, decide_eq_false_iff_not, Bool.not_eq_true', Bool.not_eq_false', beq_iff_eq, bne_iff_ne, ne_eq, beq_eq_false_iff_ne, bne_eq_false_iff_eq, Int.not_lt, Int.not_le, Bool.not_eq_true, Bool.not_eq_false]); try rfl) : q := e ▸ h
theorem ob (h : p := by
  intros; (try dsimp only); first
  | omega
  | (unfold aG; omega)
  | assumption
  | trivial
  | (simp only [aG, big, jB, List.length_take, List.length_drop, List.length_append, List.length_cons, List.length_nil, List.length_set, List.length_replicate, List.length_map, List.length_range]; omega)
  | (simp only [aG, big, List.length_take, List.length_drop, List.length_append, List.length_cons, List.length_nil, List.length_set, List.length_replicate] at *; omega)
  | (rw [Int.tmod_eq_emod_of_nonneg (by omega)]; (try simp only [List.length_cons, List.length_nil]); omega)
  | (repeat' apply And.intro) <;> first
    | omega
    | (unfold aG; omega)
    | assumption
    | trivial
    | (simp only [aG, big, jB, List.length_take, List.length_drop, List.length_append, List.length_cons, List.length_nil, List.length_set, List.length_replicate, List.length_map, List.length_range]; omega)
    | (simp only [aG, big, List.length_take, List.length_drop, List.length_append, List.length_cons, List.length_nil, List.length_set, List.length_replicate] at *; omega)
    | (rw [Int.tmod_eq_emod_of_nonneg (by omega)]; (try simp only [List.length_cons, List.length_nil]); omega)
    | ((simp only [List.forall_mem_append, List.forall_mem_singleton, List.forall_mem_cons, List.not_mem_nil, false_implies, implies_true, and_true]); done)
    | ((simp only [List.forall_mem_append, List.forall_mem_singleton, List.forall_mem_cons, List.not_mem_nil, false_implies, implies_true, and_true]); (repeat' apply And.intro) <;> first | omega | assumption | trivial | (simp only [aG, big, List.length_take, List.length_drop, List.length_append, List.length_cons, List.length_nil, List.length_set, List.length_replicate] at *; omega))
    | (simp_all; done)
    | (simp_all; omega)) : p := h
theorem wi {R : Type} {b : Bool} {q: Prop} {x y : M R} {Q : R → Prop} (h1 : p → W x Q) (h2 : q → W y Q) (e1 : (b = true) = p := by (try simp only [Bool.and_eq_true, Bool.or_eq_true, Bool.and_eq_false_iff, Bool.or_eq_false_iff, decide_eq_true_eq, decide_eq_false_iff_not, Bool.not_eq_true', Bool.not_eq_false', beq_iff_eq, bne_iff_ne, ne_eq, beq_eq_false_iff_ne, bne_eq_false_iff_eq, Int.not_lt, Int.not_le, Bool.not_eq_true, Bool.not_eq_false]); try rfl) (e2 : (b = false) = q := by (try simp only [Bool.and_eq_true, Bool.or_eq_true, Bool.and_eq_false_iff, Bool.or_eq_false_iff, decide_eq_true_eq, decide_eq_false_iff_not, Bool.not_eq_true', Bool.not_eq_false', beq_iff_eq, bne_iff_ne, ne_eq, beq_eq_false_iff_ne, bne_eq_false_iff_eq, Int.not_lt, Int.not_le, Bool.not_eq_true, Bool.not_eq_false]); try rfl) : W (cond b x y) Q := fO (λ c => h1 (e1 ▸ c)) (λ c => h2 (e2 ▸ c))
theorem wn {R : Type} {d : Decidable p} {m : M R} {Q : R → Prop} (h : W m Q) (hp : p := by exact ob) : W (need p m) Q := aR hp h
theorem wm {R : Type} {p': Prop} {d : Decidable p} {d' : Decidable p'} {m : M R} {Q : R → Prop} (h : W m Q) (hp : p := by exact ob) (hp' : p' := by exact ob) : W (need p (need p' m)) Q := aR hp (aR hp' h)
end Go.Ab
namespace Go.Proofs.YtnbjfoeapbncjaaGreatDoor
open Go.Ab
set_option maxRecDepth 100000
theorem Uy (x n:Int) (h:0<n) : -n<x.tmod n∧x.tmod n<n:=by
 have h1:=Int.natAbs_tmod x n;have h2:=Nat.mod_lt x.natAbs (show 0<n.natAbs by omega);omega
theorem Uz {α:Type} {P:α→Prop} {l:List α} {i:Nat} {y:α} (h:∀x∈l,P x) (hy:P y):∀x∈l.set i y,P x:=λ x hx=>by
 rcases List.mem_or_eq_of_mem_set hx with e | e
 ·exact h x e
 ·subst e; exact hy
structure ahc (b:aW):Prop where
 ncl:b.bM.length≤5
 cl:∀c∈b.bM,c.bH.length≤2∧c.bS.length≤3
 nsu:b.aT.length≤3
 su:∀c∈b.aT,c.dY.length≤3
 ngr:b.aU.aF.length≤5
 gr:∀c∈b.aU.aF,c.bT.length≤10∧c.aC.length≤2
 nre:b.bg.length≤4
 re:∀c∈b.bg,c.iF.length≤100
 ndo:b.bF.length≤4
theorem getD_in {α:Type} {l:List α} {i:Nat} (d:α) (h:i<l.length):l.getD i d∈l:=by
 rw [List.getD_eq_getElem?_getD,List.getElem?_eq_getElem h];exact List.getElem_mem h
theorem Ws {x_:Int} {n_:Int} (h1:n_≤2000000):W (EF x_ n_) (λ r=>0≤r∧(0<n_→r<n_)∧(n_<1→r=0)):=by
 unfold EF;refine wi ?_ ?_<;>intro c1
 ·exact bY<|ob
 ·refine wn<|aR (by (have:=Uy x_ n_ om; unfold aG; omega)) ?_;refine wn<|bY ?_;(have h:=Uy x_ n_ om; have h2:=Uy (x_.tmod n_+n_) n_ om; have h3:=Int.tmod_nonneg (a:=x_.tmod n_+n_) n_ om; omega)
variable {bA:dU}
theorem fT {n_:Int} (h1:n_≤2000000) (h2:0≤bA.At) (h3:bA.L.length≤600):W (gq n_ bA) (λ r=>0≤r.1∧(0<n_→r.1<n_)∧(n_<1→r.1=0)∧0≤r.2.At∧r.2.L.length≤600):=by
 unfold gq;refine wi ?_ ?_<;>intro c1
 ·exact bY<|ob
 ·refine wm<|wn ?_;refine dD (Ws ob) λ v1 hv1=>?_;obtain ⟨QI,Je,QJ⟩:=hv1;exact bY<|ob
theorem Jf {A9:Int} {CP:Int} (h1 : -2000000≤A9) (h2:CP≤100000) (h3:A9≤CP+1) (h4:CP - A9≤100000) (h5:0≤bA.At) (h6:bA.L.length≤600):W (oU A9 CP bA) (λ r=>A9≤r.1∧(A9≤CP→r.1≤CP)∧(CP<A9→r.1=A9)∧0≤r.2.At∧r.2.L.length≤600):=by
 unfold oU;refine wm<|dD (fT ob ob ob) λ v1 hv1=>?_;obtain ⟨QI,Je,QJ,Te,Tf⟩:=hv1;refine wn<|bY ?_;exact ob
theorem kF {l_:List Int} (h1:0<l_.length) (h2:l_.length≤1000) (h3:0≤bA.At) (h4:bA.L.length≤600):W (jd l_ bA) (λ r=>(∃i:Nat,i<l_.length∧r.1=l_.getD i 0)∧0≤r.2.At∧r.2.L.length≤600):=by
 unfold jd;refine dD (fT ob ob ob) λ v1 hv1=>?_;obtain ⟨QI,Je,QJ,Te,Tf⟩:=hv1;refine wn<|bY ?_;(exact ⟨⟨v1.1.toNat,om,rfl⟩,ob⟩)
theorem K3 {l_:List ByteArray} (h1:0<l_.length) (h2:l_.length≤1000) (h3:0≤bA.At) (h4:bA.L.length≤600):W (qJ l_ bA) (λ r=>(∃i:Nat,i<l_.length∧r.1=l_.getD i ByteArray.empty)∧0≤r.2.At∧r.2.L.length≤600):=by
 unfold qJ;refine dD (fT ob ob ob) λ v1 hv1=>?_;obtain ⟨QI,Je,QJ,Te,Tf⟩:=hv1;refine wn<|bY ?_;(exact ⟨⟨v1.1.toNat,om,rfl⟩,ob⟩)
theorem RZ:W (xW) (λ r=>r=[({ data:=#[117,97,114,116] }:ByteArray),({ data:=#[115,112,105] }:ByteArray),({ data:=#[105,50,99] }:ByteArray),({ data:=#[112,119,109] }:ByteArray)]):=by
 unfold xW;refine bY ?_;rfl
end Go.Proofs.YtnbjfoeapbncjaaGreatDoor

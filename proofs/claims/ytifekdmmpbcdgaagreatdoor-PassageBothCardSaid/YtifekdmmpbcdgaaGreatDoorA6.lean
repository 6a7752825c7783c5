/- A part of the proof. -/
import Derived.Test.YtifekdmmpbcdgaaGreatDoorA5
set_option linter.unusedVariables false
set_option linter.unusedSimpArgs false
set_option maxHeartbeats 4000000
namespace Go.Proofs.YtifekdmmpbcdgaaGreatDoor
open Go.Ab
set_option maxRecDepth 100000
structure amJ (l:List eF):Prop where
 len:l.length≤32
 af:∀i,i<l.length→∀x∈(l.getD i dZ).fF,0≤x∧x<(i:Int)
structure akR (l:List dO):Prop where
 len:l.length≤16
 par:∀i,i<l.length → -1≤(l.getD i fH).bf∧(l.getD i fH).bf<(i:Int)
structure aqX (n:Int) (g:cB):Prop where
 pl:0<g.bZ.length
 fl:0<g.ak.length∧g.ak.length≤8
 pn:∀x∈g.bZ,0≤x∧x<n
structure Xd (p:bP) (u:oq):Prop where
 g0:0≤u.dz
 gl:u.dz<p.aH.length
 f0:0≤u.dM
 fl:u.dM<(p.aH.getD u.dz.toNat aJ).ak.length
theorem eO {P:Nat→Prop} {i:Int} (h:∀j:Nat,(j:Int)<i→P j) (h0:0≤i) (hp:P i.toNat):∀j:Nat,(j:Int)<i+1→P j:=λ j hj=>by
 by_cases q:(j:Int)<i
 ·exact h j q
 ·have e:j=i.toNat:=by omega
  rw [e]; exact hp
structure anL (p:bP):Prop where
 pn:0≤p.bZ∧p.bZ≤64
 gl:p.aH.length≤24
 gr:∀g∈p.aH,aqX p.bZ g
variable {α:Type}
theorem oQ {P:α→Prop} {l:List α} (d:α) (h:∀j,j<l.length→P (l.getD j d)):∀x∈l,P x:=λ x hx=>by
 obtain ⟨i,hi,rfl⟩:=List.mem_iff_getElem.1 hx;have:=h i hi;rwa [List.getD_eq_getElem?_getD,List.getElem?_eq_getElem hi] at this
theorem Zu {s:ByteArray} {c:Bool} (h:((s.toList==({ data:=#[] }:ByteArray).toList)||c)=false):0<s.size:=by
 simp only [Bool.or_eq_false_iff] at h;rcases Nat.eq_zero_or_pos s.size with e | e
 ·exfalso;have e2:s=({ data:=#[] }:ByteArray):=by
   cases s with
   | mk d=>cases d with
    | mk l=>cases l with
     | nil=>rfl
     | cons a t=>simp [ByteArray.size] at e
  rw [e2] at h;simp at h
 ·exact e
theorem air {s:ByteArray} {c d:Bool} (h:((((s.toList==({ data:=#[] }:ByteArray).toList)||(decide ((16:Int)<((s.size:Nat):Int))))||c)||d)=false):0<s.size∧s.size≤16:=by
 simp only [Bool.or_eq_false_iff] at h;refine ⟨Zu (c:=false) (by simp only [Bool.or_eq_false_iff]; exact ⟨h.1.1.1,trivial⟩),?_⟩;have:=of_decide_eq_false h.1.1.2;omega
variable {s_:List Int}
theorem Sm (h1:s_.length≤2000000):W (slices_Clone_int s_) (λ r=>r=s_):=by
 unfold slices_Clone_int;refine wn<|au ?_;rfl
theorem Qi {s_:List Bool} (h1:s_.length≤2000000):W (jX s_) (λ r=>r=s_):=by
 unfold jX;refine wn<|au ?_;rfl
theorem Mf {s_:Nat} {dx:List Int} (h1:s_≤dx.length) (h2:s_≤2000000):W (nV s_ dx) (λ r=>r=dx.take s_):=by
 unfold nV;refine wn<|au ?_;rfl
structure He (b:aY):Prop where
 cl:b.bS.length≤2000000
 ch:aas b.bS
 su:b.bI.length≤2000000
 gr:∀g∈b.aZ.aH,g.bZ.length≤2000000
 re:b.bA.length≤2000000
 ra:∀g∈b.bA,g.fF.length≤2000000
 dm:b.dD.length≤2000000
structure ahg (b:aY):Prop where
 cl:eG b.bS=0
 su:Sp.eG b.bI=0
 pn:anL b.aZ
 rs:amJ b.bA
 dm:akR b.dD
structure XA (n:Nat) (x:aX):Prop where
 k0:0≤x.eU
 kl:x.eU<n
 l0:0≤x.Low
 lh:x.Low≤x.fJ
 hi:x.fJ≤4000000000
structure amK (n:Nat) (x:bU):Prop where
 k0:0≤x.dL
 kl:x.dL<n
 l0:0≤x.Low
 lh:x.Low≤x.fJ
 hi:x.fJ≤5000
 ld:0≤x.Load∧x.Load≤10000
structure amL (b:aY) (n:aS):Prop where
 ll:n.bT.length≤32
 dl:n.fI.length≤32
 fl:n.ak.length≤10
 lm:∀x∈n.bT,XA b.bS.length x
 dw:∀x∈n.fI,amK b.bI.length x
 rs:∀x∈n.bA,0≤x∧x<b.bA.length
 dm : -1≤n.gM∧n.gM<b.dD.length
structure Qj (l:List aS):Prop where
 len:l.length≤2000000
 nd:∀n∈l,n.bA.length≤2000000∧n.bq.length≤2000000
structure Ja (g:aR):Prop where
 st:g.Setting.length≤2000000
 on:g.bX.On.length≤2000000
 lv:g.bX.bJ.length≤2000000
 us:g.Uses.length≤2000000
 re:g.Released.length≤2000000
 po:g.cO.length≤2000000
structure acP (s:gT):Prop where
 sz:He s.bO
 val:ahg s.bO
 nl:s.dU.length≤12
 nd:∀n∈s.dU,amL s.bO n
 nsz:Qj s.dU
 ml:s.aU.length≤10000
 gs:Ja s.bB
structure ais (s:gT):Prop where
 mem:∀m∈s.aU,0≤m∧m<s.dU.length
 st:s.bB.Setting.length=s.bO.bS.length
 on:s.bB.bX.On.length=s.bO.bI.length
 lv:s.bB.bX.bJ.length=s.bO.bI.length
 re:s.bB.Released.length=s.bO.bA.length
 po:s.bB.cO.length=s.bO.dD.length
theorem rO {v_:Int} (h1:s_.length≤2000000):slices_Contains_int s_ v_ (s_.contains v_):=Zm h1
theorem qB {x_:Int} {CS:Int} {oD:Int}:W (qK x_ CS oD) (λ r=>r=(decide (CS≤x_)&&decide (x_≤oD))):=by
 unfold qK;refine au ?_;rfl
theorem aeG {r_:bD} (h1:r_.On.length≤2000000) (h2:r_.bJ.length≤2000000):W (Io r_) (λ r=>r=(r_.On,r_.bJ)):=by
 unfold Io;refine aG (Qi ob) λ v1 hv1=>?_;subst v1;refine aG (Sm ob) λ v2 hv2=>?_;subst v2;refine au ?_;rfl
theorem zP (f:dR→Option Int) (k k':dR) (n:Int):jU (BD f k n) k'=if k'=k then n else jU f k':=by
 unfold jU BD;split<;>rfl
theorem aeH {l:List ay} {s:List Int} (h:(wB l s).2=0):eG l=0∧kg l s=true∧(wB l s).1=gy l s:=by
 unfold wB at h ⊢;cases h1:eG l != 0 with
 | true=>rw [h1] at h; simp at h1; exact absurd h h1
 | false=>
  cases h2:kg l s with
  | false=>rw [h1,h2] at h; cases h
  | true=>exact ⟨by simpa using h1,rfl,rfl⟩
theorem akS {l:List ay} {s:List Int} (h1:eG l=0) (h2:kg l s=true) (j:Nat) (hj:j<l.length):1≤((gy l s).getD j dW).jv∧((gy l s).getD j dW).jv≤16777216:=by
 have:=lV (Kh (qy h1) h2 j hj).2.2.1;exact ⟨this.2.2.1,this.2.2.2.1⟩
theorem Kj {Nj:Int} {nO:List ay} {l9:List aF} {yg:Int} {zh:List cB} {sQ:List eF} {yh:List dO} {GK:List aS} {Zc:List Int} {Zd:List Int} {Ze:List Bool} {Nk:List Int} {Nl:List aP} {D6:List Bool} {D7:List Bool} {Nn:Bool} (h1:0≤Nj) (h2:Nj<D6.length):W (lg Nj nO l9 yg zh sQ yh GK Zc Zd Ze Nk Nl D6 D7 Nn) (λ r=>r=!(D6.getD Nj.toNat false)):=by
 unfold lg;refine wn<|au ?_;rfl
theorem BZ {BL:List ay} {Co:List aF} {Cq:Int} {RU:List cB} {RV:List eF} {RX:List dO} {Me:List aS} {RY:List Int} {RZ:List Int} {R3:List Bool} {vX:List Int} {vY:List aP} {um:List Bool} {uo:List Bool} {vZ:Bool} (h1:s_.length≤2000000) (h2:∀x∈s_,0≤x∧x<um.length):W (mH s_ BL Co Cq RU RV RX Me RY RZ R3 vX vY um uo vZ) (λ r=>r=s_.any (λ x=>!(um.getD x.toNat false))):=
 zJ (I6 (Oc (p:=λ x=>lg x BL Co Cq RU RV RX Me RY RZ R3 vX vY um uo vZ) (P:=λ x=>!(um.getD x.toNat false)) (λ x hx=>lY (Kj (h2 x hx).1 (h2 x hx).2)) om) (oM _ _))
theorem Jb {m_:Int} {nO:List ay} {l9:List aF} {yg:Int} {zh:List cB} {sQ:List eF} {yh:List dO} {GK:List aS} {Zc:List Int} {Zd:List Int} {Ze:List Bool} {Nk:List Int} {Nl:List aP} {D6:List Bool} {D7:List Bool} {Nn:Bool} (h1:0≤m_) (h2:m_<GK.length) (h3:(GK.getD m_.toNat bG).gM<D7.length):W (kC m_ nO l9 yg zh sQ yh GK Zc Zd Ze Nk Nl D6 D7 Nn) (λ r=>r=((decide ((0:Int)≤(GK.getD m_.toNat bG).gM))&&(!(D7.getD (((GK.getD m_.toNat bG).gM).toNat) false)))):=by
 unfold kC;refine wm<|au ?_;rfl
theorem Ca {BL:List ay} {Co:List aF} {Cq:Int} {RU:List cB} {RV:List eF} {RX:List dO} {Me:List aS} {RY:List Int} {RZ:List Int} {R3:List Bool} {vX:List Int} {vY:List aP} {um:List Bool} {uo:List Bool} {vZ:Bool} (h1:s_.length≤2000000) (h2:∀x∈s_,0≤x∧x<Me.length∧(Me.getD x.toNat bG).gM<uo.length):W (mI s_ BL Co Cq RU RV RX Me RY RZ R3 vX vY um uo vZ) (λ r=>r=s_.any (λ x=>((decide ((0:Int)≤(Me.getD x.toNat bG).gM))&&(!(uo.getD (((Me.getD x.toNat bG).gM).toNat) false))))):=
 zJ (I6 (Oc (p:=λ x=>kC x BL Co Cq RU RV RX Me RY RZ R3 vX vY um uo vZ) (P:=λ x=>((decide ((0:Int)≤(Me.getD x.toNat bG).gM))&&(!(uo.getD (((Me.getD x.toNat bG).gM).toNat) false)))) (λ x hx=>lY (Jb (h2 x hx).1 (h2 x hx).2.1 (h2 x hx).2.2)) om) (oM _ _))
def aqY (u:Int) (h:aP):Bool:=h.jd.dz==u
theorem abt (d:α) (l:List α) (n j:Nat) (h:j<n):(l.take n).getD j d=l.getD j d:=by
 rw [List.getD_eq_getElem?_getD,List.getD_eq_getElem?_getD,List.getElem?_take_of_lt h]
def auT (u v:Int) (l:List aP):List aP:=bif decide (0<v) then l++[⟨-1,⟨u,v - 1⟩⟩] else l
def auU (u:Int) (l:List aP):List aP:=bif decide (0≤Xu l (aqY u)) then l.eraseIdx (Xu l (aqY u)).toNat else l
deriving instance DecidableEq for oq,aP,aR
theorem acQ [DecidableEq α] {a b:List α} (h:¬ (a.length:Int)=b.length):(a==b)=false:=by
 simp only [beq_eq_false_iff_ne,ne_eq];intro e;rw [e] at h;exact h rfl
theorem amM [DecidableEq α] {x y:α} {a b:List α} (h:¬ x=y):(x::a==y::b)=false:=by
 simp only [beq_eq_false_iff_ne,ne_eq,List.cons.injEq];exact λ e=>h e.1
theorem amN [DecidableEq α] {x y:α} {a b:List α} (h:x=y):(x::a==y::b)=(a==b):=by
 subst h;rw [Bool.eq_iff_iff];simp
theorem aaC {l_:List eF} (h1:∀g∈l_,g.fF.length≤2000000):W (pI l_) (λ r=>r=0→amJ l_):=by
 unfold pI;refine wi ?_ ?_<;>intro c1
 ·exact au<|ob
 ·refine bM (λ (g1:Int)=>0≤g1∧(∀j:Nat,(j:Int)<g1→∀x∈(l_.getD j dZ).fF,0≤x∧x<(j:Int))) (λ (g1:Int)=>(l_.length - g1).toNat) ?_ ?_
  ·intro ah g1 eX cZ;obtain ⟨dX,bN⟩:=eX;unfold Ep;refine wi ?_ ?_<;>intro c2
   ·have hgl:=h1 _ (getD_in (i:=g1.toNat) dZ om);refine bM (λ (g6:Int)=>0≤g6∧(∀j:Nat,(j:Int)<g6→0≤(l_.getD g1.toNat dZ).fF.getD j 0∧(l_.getD g1.toNat dZ).fF.getD j 0<g1)) (λ (g6:Int)=>((l_.getD g1.toNat dZ).fF.length - g6).toNat) ?_ ?_
    ·intro jD g6 Kk Hf;obtain ⟨Gf,tL⟩:=Kk;unfold Eo;refine wn<|wi ?_ ?_<;>intro c3
     ·refine wm<|wm ?_;refine wi ?_ ?_<;>intro c4
      ·exact au<|ob
      ·refine wn<|Hf _ ?_ ?_
       ·(refine ⟨ob,eO tL Gf om⟩)
       ·exact ob
     ·refine bM (λ (g7:Int)=>1≤g7) (λ (g7:Int)=>((l_.getD g1.toNat dZ).fF.length - g7).toNat) ?_ ?_
      ·intro nA g7 XB Ua;unfold BN;refine wn<|wi ?_ ?_<;>intro c5
       ·refine wm<|wm ?_;refine wn<|wi ?_ ?_<;>intro c6
        ·exact au<|ob
        ·refine wn<|Ua _ ?_ ?_
         ·exact ob
         ·exact ob
       ·refine wn<|cZ _ ?_ ?_
        ·(refine ⟨ob,eO bN dX (oQ 0 λ j hj=>by have:=tL j om; omega)⟩)
        ·exact ob
      ·exact ob
    ·(refine ⟨ob,λ j hj=>by (try dsimp only at hj); omega⟩)
   ·refine au ?_;(intro _; exact ⟨om,λ i hi=>bN i om⟩)
  ·(refine ⟨ob,λ j hj=>by (try dsimp only at hj); omega⟩)
theorem aaD {l_:List dO}:W (pJ l_) (λ r=>r=0→akR l_):=by
 unfold pJ;refine wi ?_ ?_<;>intro c1
 ·exact au<|ob
 ·refine bM (λ (g1:Int)=>0≤g1∧(∀j:Nat,(j:Int)<g1 → -1≤(l_.getD j fH).bf∧(l_.getD j fH).bf<(j:Int))) (λ (g1:Int)=>(l_.length - g1).toNat) ?_ ?_
  ·intro ah g1 eX cZ;obtain ⟨dX,bN⟩:=eX;unfold Er;refine wi ?_ ?_<;>intro c2
   ·refine wm<|wi ?_ ?_<;>intro c3
    ·exact au<|ob
    ·refine wn<|cZ _ ?_ ?_
     ·(refine ⟨ob,eO bN dX om⟩)
     ·exact ob
   ·refine au ?_;(intro _; exact ⟨om,λ i hi=>bN i om⟩)
  ·(refine ⟨ob,λ j hj=>by (try dsimp only at hj); omega⟩)
end Go.Proofs.YtifekdmmpbcdgaaGreatDoor
namespace Go.Proofs.YtifekdmmpbcdgaaGreatDoor.Sp
open Go.Ab
set_option maxRecDepth 100000
variable {l:List aF} {d:List bU}
theorem akT (h:((eG l != 0)||decide (32<(d.length:Int)))=true):oP l d=false:=by
 unfold oP;by_cases h1:eG l=0
 ·rw [h1] at h;have:32<(d.length:Int):=by simpa using h
  rw [decide_eq_false (p:=(d.length:Int)≤32) om];simp
 ·have:(eG l==0)=false:=by simpa using h1
  rw [this];rfl
theorem ait (h:((eG l != 0)||decide (32<(d.length:Int)))=false):oP l d=!(d.any (aaA l.length)):=by
 have h1:eG l=0∧(d.length:Int)≤32:=by
  simp at h;omega
 unfold oP;rw [h1.1,decide_eq_true h1.2];rfl
variable {i:Nat}
theorem amO {b:List Bool} {j:Nat} {a:Bool} {g:Int} (hi:i<b.length) (hj:j<d.length) (hg:g=(i:Int)):(b.set i (b.getD i false||a||atD (d.take j) i)).set i ((b.set i (b.getD i false||a||atD (d.take j) i)).getD i false||((d.getD j eD).dL==g))=b.set i (b.getD i false||a||atD (d.take (j+1)) i):=by
 subst hg;have hsn:atD (d.take (j+1)) i=(atD (d.take j) i||((d.getD j eD).dL==(i:Int))):=by
  unfold atD;rw [iK eD hj,List.any_append];simp
 rw [iH,if_pos ⟨rfl,hi⟩,List.set_set,hsn];simp only [Bool.or_assoc]
theorem qC {x_:Int} {wY:Int} {y8:Int}:W (qU x_ wY y8) (λ r=>r=dP x_ wY y8):=by
 unfold qU;refine au ?_;rfl
variable {l_:List aF}
theorem Aj (h1:l_.length≤2000000):W (tq l_) (λ r=>r=eG l_):=by
 unfold tq;refine bW ?_ ?_<;>intro c1
 ·have fV:=c1;have c1:=fq c1;refine au ?_;(unfold eG; rw [fV]; rfl)
 ·have fV:=c1;have c1:=fq c1;refine bM (λ (g1:Int)=>0≤g1∧g1≤l_.length∧(∀j:Nat,(j:Int)<g1→TT (l_.getD j aC)=false)) (λ (g1:Int)=>(l_.length - g1).toNat) ?_ ?_
  ·intro ah g1 eX cZ;obtain ⟨dX,bN,bQ⟩:=eX;unfold Nz;refine wi ?_ ?_<;>intro c2
   ·refine wn<|bW ?_ ?_<;>intro c3
    ·have kr:=c3;have c3:=fq c3;refine au ?_;(unfold eG; rw [yO (p:=TT) aC (show g1.toNat<l_.length by omega) (show TT _=true from kr),Bool.or_true]; rfl)
    ·have kr:=c3;have c3:=fq c3;refine wn<|cZ _ ?_ ?_
     ·(refine ⟨ob,ob,eO bQ dX kr⟩)
     ·exact ob
   ·have hbig:=any_none (p:=TT) aC (λ j hj=>bQ j om);have hb3:(decide (16<(l_.length:Int))||l_.any TT)=false:=(by rw [fV,hbig]; rfl);refine bM (λ (g2:Int)=>0≤g2∧g2≤l_.length∧Vv g2.toNat (l_.drop g2.toNat)=Vv 0 l_) (λ (g2:Int)=>(l_.length - g2).toNat) ?_ ?_
    ·intro dY g2 mU qZ;obtain ⟨sj,jG,pK⟩:=mU;unfold K9;obtain ⟨i,rfl⟩:=Int.eq_ofNat_of_zero_le sj;refine wi ?_ ?_<;>intro c4
     ·have hlt:i<l_.length:=om;have hb:=bQ i om;have hbl:(l_.getD i aC).dB.length≤16:=(by unfold TT at hb; have:=of_decide_eq_false hb; omega);rw [show ((i:Int).toNat)=i from rfl,drop_cons aC hlt,Vv] at pK;simp only [Int.toNat_natCast] at *;refine wm<|aG (qC) λ v13 R8=>?_;subst v13;refine aG (gN λ hc=>lY (qC)) λ v14 Xv=>?_;subst v14;refine aG (gN λ hc=>lY (qC)) λ v15 aar=>?_;subst v15;refine bW ?_ ?_<;>intro c5
      ·have Dr:=c5;have c5:=fq c5;rw [ahe] at Dr;refine au ?_;(unfold eG; rw [hb3,← pK]; unfold zN; rw [show Xb (l_.getD i aC) i=true from Dr]; rfl)
      ·have Dr:=c5;have c5:=fq c5;rw [ahe] at Dr;refine bM (λ (g5:Int)=>0≤g5∧g5≤(l_.getD i aC).dB.length∧Vu (if g5.toNat=0 then 0 else (l_.getD i aC).dB.getD (g5.toNat - 1) 0) ((l_.getD i aC).dB.drop g5.toNat)=Vu 0 (l_.getD i aC).dB) (λ (g5:Int)=>((l_.getD i aC).dB.length - g5).toNat) ?_ ?_
       ·intro nC g5 VA VB;obtain ⟨Rt,Gg,Ub⟩:=VA;unfold K8;obtain ⟨k,rfl⟩:=Int.eq_ofNat_of_zero_le Rt;simp only [Int.toNat_natCast] at *;refine wi ?_ ?_<;>intro c6
        ·have hlk:k<(l_.getD i aC).dB.length:=om;have hst:=aey hlk rfl;rw [hst] at Ub;have e1:(((k:Int) - 1).toNat)=k - 1:=om;simp only [e1,Int.toNat_natCast] at *;refine wn<|aG (qC) λ v18 apj=>?_;subst v18;refine wm<|bW ?_ ?_<;>intro c7
         ·have Xe:=c7;have c7:=fq c7;refine au ?_;(unfold eG; rw [hb3,← pK]; unfold zN; rw [show Xb (l_.getD i aC) i=false from Dr,← Ub,Xe]; rfl)
         ·have Xe:=c7;have c7:=fq c7;refine wn<|VB _ ?_ ?_
          ·(refine ⟨ob,ob,?_⟩; rw [← Ub,Xe]; rw [show ((k:Int)+1).toNat=k+1 by omega,if_neg om]; rfl)
          ·exact ob
        ·refine wn<|qZ _ ?_ ?_
         ·(refine ⟨ob,ob,?_⟩; rw [← pK]; unfold zN; rw [show Xb (l_.getD i aC) i=false from Dr,← Ub,show k=(l_.getD i aC).dB.length by omega,List.drop_length,show ((i:Int)+1).toNat=i+1 by omega]; rfl)
         ·exact ob
       ·(refine ⟨ob,ob,rfl⟩)
     ·refine au ?_;(unfold eG; rw [hb3,← pK,show ((i:Int).toNat)=i from rfl,show i=l_.length by omega,List.drop_length]; rfl)
    ·(refine ⟨ob,ob,rfl⟩)
  ·(refine ⟨ob,ob,λ j hj=>by omega⟩)
variable {d_:List bU}
theorem Ru (h1:l_.length≤2000000) (h2:d_.length≤2000000):W (Bc l_ d_) (λ r=>r=oP l_ d_):=by
 unfold Bc;refine aG (Aj ob) λ v1 hv1=>?_;subst v1;refine bW ?_ ?_<;>intro c1
 ·have fV:=c1;have c1:=fq c1;exact au ((akT fV).symm)
 ·have fV:=c1;have c1:=fq c1;have hdf:=ait fV;refine bM (λ (g1:Int)=>0≤g1∧g1≤d_.length∧(d_.drop g1.toNat).any (aaA l_.length)=d_.any (aaA l_.length)) (λ (g1:Int)=>(d_.length - g1).toNat) ?_ ?_
  ·intro ah g1 eX cZ;obtain ⟨dX,bN,bQ⟩:=eX;unfold NM;refine wi ?_ ?_<;>intro c2
   ·have hlt:g1.toNat<d_.length:=om;rw [drop_cons eD hlt,List.any_cons] at bQ;refine wm<|aG (qC) λ v8 DJ=>?_;subst v8;refine aG (gN λ hc=>lY (qC)) λ v9 hv9=>?_;subst v9;refine aG (gN λ hc=>lY (qC)) λ v10 Jc=>?_;subst v10;refine bW ?_ ?_<;>intro c3
    ·have kr:=c3;have c3:=fq c3;have hb:=(aez l_.length (d_.getD g1.toNat eD)).symm.trans kr;refine au ?_;(rw [hdf,← bQ,hb]; rfl)
    ·have kr:=c3;have c3:=fq c3;have hb:=(aez l_.length (d_.getD g1.toNat eD)).symm.trans kr;refine wn<|cZ _ ?_ ?_
     ·(refine ⟨ob,ob,?_⟩; rw [← bQ,hb,show (g1+1).toNat=g1.toNat+1 by omega]; rfl)
     ·exact ob
   ·refine au ?_;(rw [hdf,← bQ,show g1.toNat=d_.length by omega,List.drop_length]; rfl)
  ·(refine ⟨ob,ob,rfl⟩)
theorem aaE (h1:l_.length≤2000000) (h2:d_.length≤2000000):W (FY l_ d_) (λ r=>r=BR l_ d_):=by
 unfold FY;refine aG (Aj ob) λ v1 hv1=>?_;subst v1;refine bW ?_ ?_<;>intro c1
 ·have fV:=c1;have c1:=fq c1;refine au ?_;(unfold BR; rw [fV]; rfl)
 ·have fV:=c1;have c1:=fq c1;refine aG (Ru ob ob) λ v2 hv2=>?_;subst v2;refine bW ?_ ?_<;>intro c2
  ·have ku:=c2;have c2:=fq c2;refine au ?_;(unfold BR; rw [fV,ku]; rfl)
  ·have ku:=c2;have c2:=fq c2;refine au ?_;(unfold BR; rw [fV,ku]; rfl)
theorem Uc (h1:Vld l_ d_):W (Et l_ d_) (λ r=>r=mV l_ d_):=by
 have hv:=h1;obtain ⟨vl,vd,vs,_,vx⟩:=h1;unfold Et;refine wm<|bM (λ (g1:Int×List Bool) => -1≤g1.1∧g1.1<l_.length∧Rs l_ d_ (l_.length - 1 - g1.1).toNat g1.2) (λ (g1:Int×List Bool)=>(g1.1+1).toNat) ?_ ?_
 ·intro ah g1 eX cZ;obtain ⟨dX,bN,bQ⟩:=eX;unfold Rk;have hbl:=bQ.len;refine wi ?_ ?_<;>intro c1
  ·have hst:=bQ.step hv (show (l_.length - 1 - g1.1).toNat<l_.length by omega);have hp:=vs g1.1.toNat om;rw [show l_.length - 1 - ((l_.length:Int) - 1 - g1.1).toNat=g1.1.toNat by omega,show ((l_.length:Int) - 1 - g1.1).toNat+1=((l_.length:Int) - 1 - (g1.1 - 1)).toNat by omega] at hst;refine wm<|wn ?_;refine bM (λ (g4:Int×List Bool)=>0≤g4.1∧g4.1≤d_.length∧g4.2=g1.2.set g1.1.toNat (g1.2.getD g1.1.toNat false||(l_.getD g1.1.toNat aC).iy||atD (d_.take g4.1.toNat) g1.1.toNat)) (λ (g4:Int×List Bool)=>(d_.length - g4.1).toNat) ?_ ?_
   ·intro iN g4 Kl Jd;obtain ⟨Gh,mD,Ud⟩:=Kl;unfold Rj;have auV:g4.2.length=l_.length:=(by rw [Ud,List.length_set,hbl]);refine wi ?_ ?_<;>intro c2
    ·refine wm<|wm ?_;refine Jd _ ?_ ?_
     ·(refine ⟨ob,ob,?_⟩; dsimp only; rw [show (g4.1+1).toNat=g4.1.toNat+1 by omega,Ud]; exact amO om om om)
     ·exact ob
    ·have aeI:g4.2=g1.2.set g1.1.toNat (g1.2.getD g1.1.toNat false||(l_.getD g1.1.toNat aC).iy||atD d_ g1.1.toNat):=(by rw [Ud,show g4.1.toNat=d_.length by omega,List.take_length]);have hgi:g4.2.getD g1.1.toNat false=(g1.2.getD g1.1.toNat false||(l_.getD g1.1.toNat aC).iy||atD d_ g1.1.toNat):=(by rw [aeI,iH,if_pos ⟨rfl,om⟩]);refine wm<|bW ?_ ?_<;>intro c3
     ·have kr:=c3;have c3:=fq c3;have c3b:=kr;rw [hgi] at c3b;refine wm<|cZ _ ?_ ?_
      ·(refine ⟨ob,ob,?_⟩; dsimp only; unfold TY at hst; rw [c3b] at hst; rw [aeI]; exact hst)
      ·exact ob
     ·have kr:=c3;have c3:=fq c3;have c3b:=kr;rw [hgi] at c3b;refine wn<|cZ _ ?_ ?_
      ·(refine ⟨ob,ob,?_⟩; dsimp only; unfold TY at hst; rw [c3b] at hst; rw [aeI]; exact hst)
      ·exact ob
   ·(refine ⟨ob,ob,?_⟩; dsimp only; rw [show (0:Int).toNat=0 from rfl,List.take_zero,show atD [] g1.1.toNat=false from rfl,Bool.or_false])
  ·exact au (Rs.done (by rw [show l_.length=((l_.length:Int) - 1 - g1.1).toNat by omega]; exact bQ))
 ·(refine ⟨ob,ob,?_⟩; dsimp only; rw [show ((l_.length:Int) - 1 - (l_.length - 1)).toNat=0 by omega]; exact Rs.start hv)
theorem aaF {s_:aF} {v_:Int} (h1:s_.dB.length≤2000000):W (FZ s_ v_) (λ r=>r=(bif decide (lvN s_.dB v_<s_.dB.length) then (lvN s_.dB v_:Int) else -1)):=by
 unfold FZ;refine bM (λ (g1:Int)=>0≤g1∧g1≤s_.dB.length∧(∀j:Nat,(j:Int)<g1→s_.dB.getD j 0<v_)) (λ (g1:Int)=>(s_.dB.length - g1).toNat) ?_ ?_
 ·intro ah g1 eX cZ;obtain ⟨dX,bN,bQ⟩:=eX;unfold NP;refine wi ?_ ?_<;>intro c1
  ·refine wn<|wi ?_ ?_<;>intro c2
   ·refine au ?_;(rw [← akO (k:=g1.toNat) om (λ j hj=>bQ j om) (λ _=>c2),decide_eq_true om]; simp only [cond_true]; omega)
   ·refine wn<|cZ _ ?_ ?_
    ·(refine ⟨ob,ob,eO bQ dX c2⟩)
    ·exact ob
  ·refine au ?_;(rw [← akO (k:=g1.toNat) om (λ j hj=>bQ j om) (λ h=>by omega),decide_eq_false om]; rfl)
 ·(refine ⟨ob,ob,λ j hj=>by omega⟩)
theorem Ak {r_:bD} {k_:Int} (h1:0≤k_) (h2:k_<l_.length) (h3:Rok l_ r_):W (tC l_ r_ k_) (λ r=>r=Gd l_ r_ k_.toNat):=by
 obtain ⟨r1,r2,r3⟩:=h3;have r4:=r3 k_.toNat om;unfold tC;refine wm<|wn ?_;refine au ?_;rfl
variable {r:bD} {u:List Bool} {ld:List Int}
theorem auW (h:(u.getD i false&&!r.On.getD i false)=true):Sl l r u ld i=true:=by
 simp only [Bool.and_eq_true] at h;unfold Sl;rw [h.1,h.2]; rfl
theorem auX (h:(u.getD i false&&!r.On.getD i false)=false) (h2:(!r.On.getD i false)=true):Sl l r u ld i=false:=by
 rw [h2,Bool.and_true] at h;unfold Sl;rw [h2,h]; rfl
theorem aq0 (h2:(!r.On.getD i false)=false):Sl l r u ld i=(decide ((l.getD i aC).jo<ld.getD i 0)||(decide (0≤(l.getD i aC).bf)&&(!r.On.getD (l.getD i aC).bf.toNat false||decide (Gd l r (l.getD i aC).bf.toNat<Gd l r i+(l.getD i aC).iB)))):=by
 unfold Sl;rw [h2,Bool.or_comm]; rfl
theorem aeJ (hi:i<l.length) (h:Sl l r (mV l d) (G6 l d) i=true):BU l r d=false:=by
 unfold BU;rw [BX hi (by rw [h]; rfl)];rfl
theorem aeK (h:∀i,i<l.length→Sl l r (mV l d) (G6 l d) i=false):BU l r d=!(d.any (acN l r)):=by
 unfold BU;rw [Ou λ j hj=>(by rw [h j hj]; rfl)];rfl
variable {s:DS}
theorem aiu (h:(!u.getD i false)=true):Xc l u i s=false:=by
 unfold Xc;rw [show u.getD i false=false by simpa using h];rfl
theorem akU {a n:Nat} (h:decide ((bif decide (a<n) then (a:Int) else -1)<0)=true):decide (a<n)=false:=by
 cases hd:decide (a<n) with
 | false=>rfl
 | true=>rw [hd] at h; have:=of_decide_eq_true h; simp only [cond_true] at this; omega
theorem akV {a n:Nat} (h:decide ((bif decide (a<n) then (a:Int) else -1)<0)=false):decide (a<n)=true:=by
 cases hd:decide (a<n) with
 | true=>rfl
 | false=>rw [hd] at h; cases h
theorem agj (h0:(BR l d != 0)=false) (e:(s,(i:Int))=acO l d):(JR,9)=G8 l d:=by
 unfold G8;rw [h0,← e,decide_eq_true (show (0:Int)≤(s,(i:Int)).2 by dsimp only; omega)];rfl
theorem abu (h0:(BR l d != 0)=false) (hdr:oP l d=true) (e:(s,(-1:Int))=acO l d) (hr:Rok l ⟨mV l d,s.lv⟩):G8 l d=bif !BU l ⟨mV l d,s.lv⟩ d then (JR,9) else (⟨mV l d,s.lv⟩,0):=by
 unfold G8;have hmf:gV l ⟨mV l d,s.lv⟩ d=BU l ⟨mV l d,s.lv⟩ d:=by
  unfold gV;rw [PN.2 ⟨aeD hdr,hr⟩,hdr];rfl
 rw [h0,← e];simp only [show decide ((0:Int) ≤ -1)=false from rfl,Bool.false_or,hmf,cond_false]
theorem akW (hu:u.getD i false=true) (hi:i<s.lv.length):Gd l ⟨u,(Ow l u i s).lv⟩ i+(l.getD i aC).iB=G7 l i s:=by
 unfold Gd G7 Ow;rw [hu];simp only [Bool.not_true,cond_false];rw [iH,if_pos ⟨rfl,hi⟩];rfl
theorem akX (hu:u.getD i false=true) (hp:decide (0≤(l.getD i aC).bf)=true):(G9 s.a).set (l.getD i aC).bf.toNat (if G7 l i s > (G9 s.a).getD (l.getD i aC).bf.toNat 0 then G7 l i s else (G9 s.a).getD (l.getD i aC).bf.toNat 0)=G9 (Ow l u i s).a:=by
 unfold Ow;rw [hu,hp,Ox];simp only [Bool.not_true,cond_false,Bool.true_and];by_cases h:(s.a.getD (l.getD i aC).bf.toNat aaz).Vt<G7 l i s
 ·rw [decide_eq_true h,cond_true,aeE,if_pos h]
 ·rw [decide_eq_false h,cond_false,if_neg h,Oy _ _ _ (Ox _ _).symm]
theorem aiv (hp:decide (0≤(l.getD i aC).bf)=false):G9 s.a=G9 (Ow l u i s).a:=by
 unfold Ow;rw [hp];cases u.getD i false<;>rfl
theorem akY (h:(!u.getD i false)=true):Ow l u i s=s:=by
 unfold Ow;rw [h];rfl
theorem aaG (h1:Vld l_ d_):W (F3 l_ d_) (λ r=>r=G6 l_ d_):=by
 have hv:=h1;obtain ⟨vl,vd,vs,_,vx⟩:=h1;unfold F3;refine wm<|bM (λ (g1:Int×List Int) => -1≤g1.1∧g1.1<l_.length∧LM l_ d_ (l_.length - 1 - g1.1).toNat g1.2) (λ (g1:Int×List Int)=>(g1.1+1).toNat) ?_ ?_
 ·intro ah g1 eX cZ;obtain ⟨dX,bN,bQ⟩:=eX;unfold NR;have hbl:=bQ.len;have hsm:=bQ.small hv om;refine wi ?_ ?_<;>intro c1
  ·have hst:=bQ.step hv (show (l_.length - 1 - g1.1).toNat<l_.length by omega);have hp:=vs g1.1.toNat om;rw [show l_.length - 1 - ((l_.length:Int) - 1 - g1.1).toNat=g1.1.toNat by omega,show ((l_.length:Int) - 1 - g1.1).toNat+1=((l_.length:Int) - 1 - (g1.1 - 1)).toNat by omega] at hst;refine bM (λ (g4:Int×List Int)=>0≤g4.1∧g4.1≤d_.length∧g4.2=g1.2.set g1.1.toNat (g1.2.getD g1.1.toNat 0+Ov (d_.take g4.1.toNat) g1.1.toNat)) (λ (g4:Int×List Int)=>(d_.length - g4.1).toNat) ?_ ?_
   ·intro iN g4 Kl Jd;obtain ⟨Gh,mD,Ud⟩:=Kl;unfold NQ;have auV:g4.2.length=l_.length:=(by rw [Ud,List.length_set,hbl]);refine wi ?_ ?_<;>intro c2
    ·have hx:=vx _ (jC eD (show g4.1.toNat<d_.length by omega));have hdb:=T9 (d:=d_) (λ x hx=>by have:=vx x hx; omega) g1.1.toNat g4.1.toNat om;have hbi:=hsm g1.1.toNat;have hgi:g4.2.getD g1.1.toNat 0=g1.2.getD g1.1.toNat 0+Ov (d_.take g4.1.toNat) g1.1.toNat:=(by rw [Ud,iH,if_pos ⟨rfl,om⟩]);refine wn<|bW ?_ ?_<;>intro c3
     ·have kr:=c3;have c3:=fq c3;refine wm<|wm ?_;refine Jd _ ?_ ?_
      ·(refine ⟨ob,ob,?_⟩; dsimp only; rw [show (g4.1+1).toNat=g4.1.toNat+1 by omega,hgi,Ud,List.set_set,Vw om,show ((g1.1.toNat:Int))=g1.1 by omega,kr]; simp only [cond_true]; rw [Int.add_assoc])
      ·exact ob
     ·have kr:=c3;have c3:=fq c3;refine wn<|Jd _ ?_ ?_
      ·(refine ⟨ob,ob,?_⟩; dsimp only; rw [show (g4.1+1).toNat=g4.1.toNat+1 by omega,Ud,Vw om,show ((g1.1.toNat:Int))=g1.1 by omega,kr]; rfl)
      ·exact ob
    ·have hdb:=T9 (d:=d_) (λ x hx=>by have:=vx x hx; omega) g1.1.toNat d_.length (Nat.le_refl _);rw [List.take_length] at hdb;have aeI:g4.2=g1.2.set g1.1.toNat (g1.2.getD g1.1.toNat 0+Ov d_ g1.1.toNat):=(by rw [Ud,show g4.1.toNat=d_.length by omega,List.take_length]);have hgi:g4.2.getD g1.1.toNat 0=g1.2.getD g1.1.toNat 0+Ov d_ g1.1.toNat:=(by rw [aeI,iH,if_pos ⟨rfl,om⟩]);have hbi:=hsm g1.1.toNat;refine wn<|bW ?_ ?_<;>intro c4
     ·have vw:=c4;have c4:=fq c4;have hgp:g4.2.getD (l_.getD g1.1.toNat aC).bf.toNat 0=g1.2.getD (l_.getD g1.1.toNat aC).bf.toNat 0:=(by rw [aeI,iH,if_neg om]);have hbp:=hsm (l_.getD g1.1.toNat aC).bf.toNat;refine wm<|wm ?_;refine wn<|cZ _ ?_ ?_
      ·(refine ⟨ob,ob,?_⟩; dsimp only; unfold PO at hst; rw [vw] at hst; rw [hgi,hgp,aeI]; exact hst)
      ·exact ob
     ·have vw:=c4;have c4:=fq c4;refine wn<|cZ _ ?_ ?_
      ·(refine ⟨ob,ob,?_⟩; dsimp only; unfold PO at hst; rw [vw] at hst; rw [aeI]; exact hst)
      ·exact ob
   ·(refine ⟨ob,ob,?_⟩; dsimp only; rw [show (0:Int).toNat=0 from rfl,List.take_zero,show Ov [] g1.1.toNat=0 from rfl,Int.add_zero,set_self])
  ·exact au (LM.done (by rw [show l_.length=((l_.length:Int) - 1 - g1.1).toNat by omega]; exact bQ))
 ·(refine ⟨ob,ob,?_⟩; dsimp only; rw [show ((l_.length:Int) - 1 - (l_.length - 1)).toNat=0 by omega]; exact LM.start hv)
theorem Rv {r_:bD} (h1:Vld l_ d_) (h2:Rok l_ r_):W (Bd l_ r_ d_) (λ r=>r=BU l_ r_ d_):=by
 have hv:=h1;have hr:=h2;have hvb:=λ i hi=>Zq hv hr i hi;have hul:=PL l_ d_;have hll:=Sk l_ d_;obtain ⟨vl,vd,vs,_,vx⟩:=h1;obtain ⟨r1,r2,r3⟩:=h2;unfold Bd;refine aG (Uc ob) λ v1 hv1=>?_;subst v1;refine aG (aaG ob) λ v2 hv2=>?_;subst v2;refine bM (λ (g1:Int)=>0≤g1∧g1≤l_.length∧(∀j:Nat,(j:Int)<g1→Sl l_ r_ (mV l_ d_) (G6 l_ d_) j=false)) (λ (g1:Int)=>(l_.length - g1).toNat) ?_ ?_
 ·intro ah g1 eX cZ;obtain ⟨dX,bN,bQ⟩:=eX;unfold NS;refine wi ?_ ?_<;>intro c1
  ·have hp:=vs g1.toNat om;have hv1:=hvb g1.toNat om;have hv2:=hvb (l_.getD g1.toNat aC).bf.toNat;refine wm<|wn ?_;refine bW ?_ ?_<;>intro c2
   ·have ku:=c2;have c2:=fq c2;exact au ((aeJ (i:=g1.toNat) om (auW ku)).symm)
   ·have ku:=c2;have c2:=fq c2;refine wn<|bW ?_ ?_<;>intro c3
    ·have kr:=c3;have c3:=fq c3;refine wn<|cZ _ ?_ ?_
     ·(refine ⟨ob,ob,eO bQ dX (auX ku kr)⟩)
     ·exact ob
    ·have kr:=c3;have c3:=fq c3;refine wn<|aQ (by (intro _ q; have:=of_decide_eq_true q; omega)) ?_;refine aG (gN λ hc hc2 hc3=>lY (Ak (of_decide_eq_true hc2) (by have:=of_decide_eq_true hc2; omega) hr)) λ v7 hv7=>?_;subst v7;refine aG (gN λ hc hc2 hc3=>lY (Ak om om hr)) λ v8 DJ=>?_;subst v8;refine aQ (by (intro _ q; have:=of_decide_eq_true q; have:=hv2 om; unfold aD; omega)) ?_;refine bW ?_ ?_<;>intro c4
     ·have vw:=c4;have c4:=fq c4;exact au ((aeJ (i:=g1.toNat) om ((aq0 kr).trans vw)).symm)
     ·have vw:=c4;have c4:=fq c4;refine wn<|cZ _ ?_ ?_
      ·(refine ⟨ob,ob,eO bQ dX ((aq0 kr).trans vw)⟩)
      ·exact ob
  ·refine bM (λ (g2:Int)=>0≤g2∧g2≤d_.length∧(d_.drop g2.toNat).any (acN l_ r_)=d_.any (acN l_ r_)) (λ (g2:Int)=>(d_.length - g2).toNat) ?_ ?_
   ·intro dY g2 mU qZ;obtain ⟨sj,jG,pK⟩:=mU;unfold Li;refine wi ?_ ?_<;>intro c5
    ·have hlt:g2.toNat<d_.length:=om;have hx:=vx _ (jC eD hlt);rw [drop_cons eD hlt,List.any_cons] at pK;refine wn<|aG (Ak hx.1 hx.2.1 hr) λ v13 R8=>?_;subst v13;refine aG (qC) λ v14 Xv=>?_;subst v14;refine bW ?_ ?_<;>intro c6
     ·have c6o:=c6;have c6:=fq c6;refine au ?_;(rw [aeK (λ j hj=>bQ j om),← pK,show acN l_ r_ (d_.getD g2.toNat eD)=true from c6o]; rfl)
     ·have c6o:=c6;have c6:=fq c6;refine wn<|qZ _ ?_ ?_
      ·(refine ⟨ob,ob,?_⟩; rw [← pK,show acN l_ r_ (d_.getD g2.toNat eD)=false from c6o,show (g2+1).toNat=g2.toNat+1 by omega]; rfl)
      ·exact ob
    ·refine au ?_;(rw [aeK (λ j hj=>bQ j om),← pK,show g2.toNat=d_.length by omega,List.drop_length]; rfl)
   ·(refine ⟨ob,ob,rfl⟩)
 ·(refine ⟨ob,ob,λ j hj=>by omega⟩)
theorem Rw (h1:l_.length≤2000000) (h2:d_.length≤2000000):W (Bg l_ d_) (λ r=>r=G8 l_ d_):=by
 unfold Bg;refine aG (aaE ob ob) λ v1 hv1=>?_;subst v1;refine bW ?_ ?_<;>intro c1
 ·have fV:=c1;have c1:=fq c1;refine au ?_;(unfold G8; rw [fV]; rfl)
 ·have fV:=c1;have c1:=fq c1;have hdr:=akM (show BR l_ d_=0 by simpa using fV);have hv:=agf hdr;obtain ⟨vl,vd,vs,vlv,vx⟩:=id hv;have hul:=PL l_ d_;refine aG (Uc hv) λ v2 hv2=>?_;subst v2;refine wm<|bM (λ (g1:Int×List Int×List Int)=>0≤g1.1∧g1.1≤d_.length∧g1.2.1=G9 (EB l_.length d_ g1.1.toNat)∧g1.2.2=List.replicate l_.length 0) (λ (g1:Int×List Int×List Int)=>(d_.length - g1.1).toNat) ?_ ?_
  ·intro ah g1 eX cZ;obtain ⟨dX,bN,bQ,kQ⟩:=eX;unfold NT;have hgl:g1.2.1.length=l_.length:=(by rw [bQ,aeF,abr]);refine wi ?_ ?_<;>intro c2
   ·have hx:=vx _ (jC eD (show g1.1.toNat<d_.length by omega));refine wm<|wm ?_;refine cZ _ ?_ ?_
    ·(refine ⟨ob,ob,?_,kQ⟩; dsimp only; rw [show (g1.1+1).toNat=g1.1.toNat+1 by omega,agi,bQ])
    ·exact ob
   ·refine wn<|bM (λ (g2:Int×List Int×List Int) => -1≤g2.1∧g2.1<l_.length∧∃s:DS,g2.2.1=G9 s.a∧g2.2.2=s.lv∧DOk l_ s∧amH l_ s∧akP l_ (mV l_ d_) (g2.1+1).toNat s=acO l_ d_) (λ (g2:Int×List Int×List Int)=>(g2.1+1).toNat) ?_ ?_
    ·intro dY g2 mU qZ;obtain ⟨sj,jG,pK⟩:=mU;unfold Lj;obtain ⟨s,e1,e2,e3,e4,e5⟩:=pK;have hal:g2.2.1.length=l_.length:=(by rw [e1,aeF,e3.al]);have hll:g2.2.2.length=l_.length:=(by rw [e2,e3.ll]);refine wi ?_ ?_<;>intro c3
     ·have hp:=vs g2.1.toNat om;rw [show (g2.1+1).toNat=g2.1.toNat+1 by omega,akP] at e5;refine wn<|bW ?_ ?_<;>intro c4
      ·have vw:=c4;have c4:=fq c4;refine wn<|qZ _ ?_ ?_
       ·(refine ⟨ob,ob,s,e1,e2,e3,e4,?_⟩; dsimp only; rw [show (g2.1 - 1+1).toNat=g2.1.toNat by omega]; rw [aiu vw,akY vw] at e5; exact e5)
       ·exact ob
      ·have vw:=c4;have c4:=fq c4;have hu:(mV l_ d_).getD g2.1.toNat false=true:=(by simpa using vw);refine wm<|aG (aaF ob) λ v11 akZ=>?_;subst v11;rw [e1,Ox,show lvN (l_.getD g2.1.toNat aC).dB (s.a.getD g2.1.toNat aaz).Vt=Qh l_ g2.1.toNat s from rfl];have hgs:(g2.2.2.set g2.1.toNat (bif decide (Qh l_ g2.1.toNat s<(l_.getD g2.1.toNat aC).dB.length) then (Qh l_ g2.1.toNat s:Int) else -1)).getD g2.1.toNat 0=(bif decide (Qh l_ g2.1.toNat s<(l_.getD g2.1.toNat aC).dB.length) then (Qh l_ g2.1.toNat s:Int) else -1):=(by rw [iH,if_pos ⟨rfl,om⟩]);refine wn ?_;unfold BO;refine wn<|bW ?_ ?_<;>intro c5
       ·have Dr:=c5;have c5:=fq c5;rw [hgs] at Dr;have h5:=akU Dr;have h6:decide ((Qh l_ g2.1.toNat s:Int)<(l_.getD g2.1.toNat aC).dB.length)=false:=(by simpa using h5);exact au (agj fV (by unfold Xc at e5; rw [hu,h6] at e5; exact e5))
       ·have Dr:=c5;have c5:=fq c5;rw [hgs] at Dr;have h5:=akV Dr;have h6:decide ((Qh l_ g2.1.toNat s:Int)<(l_.getD g2.1.toNat aC).dB.length)=true:=(by simpa using h5);have hf:Xc l_ (mV l_ d_) g2.1.toNat s=false:=(by unfold Xc; rw [hu,h6]; rfl);rw [hf] at e5;have hlo:=amG (u:=mV l_ d_) (i:=g2.1.toNat) e3;have hlv:=amI hf e4;have hR:=akQ hul hlo hlv;have hs:(Ow l_ (mV l_ d_) g2.1.toNat s).lv=s.lv.set g2.1.toNat (Qh l_ g2.1.toNat s:Int):=(by unfold Ow; rw [hu]; rfl);have hvo:=akW (l:=l_) (u:=mV l_ d_) hu (show g2.1.toNat<s.lv.length by rw [e3.ll]; omega);have hvb:=Zq hv hR g2.1.toNat om;rw [h5]; simp only [cond_true]; rw [e2,← hs];refine wn<|bW ?_ ?_<;>intro c6
        ·have c6o:=c6;have c6:=fq c6;refine wn<|aG (Ak om om hR) λ v10 Jc=>?_;subst v10;refine wn<|aQ (by (unfold aD; omega)) ?_;refine wm<|qZ _ ?_ ?_
         ·(refine ⟨ob,ob,Ow l_ (mV l_ d_) g2.1.toNat s,?_,rfl,hlo,hlv,?_⟩; (dsimp only; rw [hvo,e1]; exact akX hu c6o); (dsimp only; rw [show (g2.1 - 1+1).toNat=g2.1.toNat by omega]; exact e5))
         ·exact ob
        ·have c6o:=c6;have c6:=fq c6;refine wn<|qZ _ ?_ ?_
         ·(refine ⟨ob,ob,Ow l_ (mV l_ d_) g2.1.toNat s,?_,rfl,hlo,hlv,?_⟩; (dsimp only; rw [e1]; exact aiv c6o); (dsimp only; rw [show (g2.1 - 1+1).toNat=g2.1.toNat by omega]; exact e5))
         ·exact ob
     ·rw [show (g2.1+1).toNat=0 by omega,akP] at e5;have hrk:Rok l_ ⟨mV l_ d_,g2.2.2⟩:=(by rw [e2]; exact akQ hul e3 e4);refine aG (Rv hv hrk) λ v12 TL=>?_;subst v12;refine bW ?_ ?_<;>intro c7
      ·have Xe:=c7;have c7:=fq c7;refine au ?_;(rw [abu fV hdr e5 (by rw [← e2]; exact hrk),← e2,Xe]; rfl)
      ·have Xe:=c7;have c7:=fq c7;refine au ?_;(rw [abu fV hdr e5 (by rw [← e2]; exact hrk),← e2,Xe]; rfl)
    ·(refine ⟨ob,ob,ds0 l_ d_,?_,kQ,aph _ _,?_,?_⟩; (dsimp only; rw [bQ,show g1.1.toNat=d_.length by omega]; rfl); (intro j hj; show 0≤(List.replicate l_.length (0:Int)).getD j 0∧(List.replicate l_.length (0:Int)).getD j 0<_; rw [Bo]; have:=vs j hj; omega); (dsimp only; rw [show ((l_.length:Int) - 1+1).toNat=l_.length by omega]; rfl))
  ·(refine ⟨ob,ob,?_,rfl⟩; show _=G9 (List.replicate l_.length (⟨0,-1,-1⟩:Dem)); unfold G9; rw [List.map_replicate]; rfl)
end Go.Proofs.YtifekdmmpbcdgaaGreatDoor.Sp
namespace Go.Proofs.YtifekdmmpbcdgaaGreatDoor
open Go.Ab
set_option maxRecDepth 100000
theorem aeL (n lo hi:Int) (b:Bool):(((decide (n<lo))||(decide (hi<n)))||b)=(!(dP n lo hi)||b):=by
 unfold dP;congr 1;by_cases h1:n<lo<;>by_cases h2:hi<n<;>simp [h1,h2]<;>omega
theorem aiw {l:List Int} {x y:Int} (h:l.contains x=false) (hy:¬ y=x):(l++[y]).contains x=false:=by
 rw [List.contains_eq_any_beq] at h ⊢;rw [List.any_append,h];simpa using λ e=>hy e.symm
theorem agk (n:Nat):decide ((1:Int)≤(n:Int))=decide ((0:Int)<(n:Int)):=by
 rw [decide_eq_decide]; omega
theorem auY {c:ay}:((decide ((1:Int)≤(c.aT.length:Int))&&decide ((0:Int)<(c.aK.length:Int)))&&(yM 0 ((c.aT.length:Int) - 1) [] c.aK))=(decide (0<(c.aK.length:Int))&&yM 0 ((c.aT.length:Int) - 1) [] c.aK):=by
 by_cases h:1≤(c.aT.length:Int)
 ·rw [decide_eq_true h,Bool.true_and]
 ·rw [decide_eq_false h,Bool.false_and,Bool.false_and];symm;rw [Bool.and_eq_false_iff];by_cases h2:0<(c.aK.length:Int)
  ·right;cases hd:yM 0 ((c.aT.length:Int) - 1) [] c.aK with
   | false=>rfl
   | true=>have:=amy _ _ hd om; omega
  ·left; exact decide_eq_false h2
theorem aix {l_:List Int} {x_:Int} (h1:l_.length≤2000000):W (Yo l_ x_) (λ r=>r=l_.contains x_):=by
 unfold Yo;refine bM (λ (g1:Int)=>0≤g1∧g1≤l_.length∧(l_.take g1.toNat).contains x_=false) (λ (g1:Int)=>(l_.length - g1).toNat) ?_ ?_
 ·intro ah g1 eX cZ;obtain ⟨dX,bN,bQ⟩:=eX;unfold Zg;refine wi ?_ ?_<;>intro c1
  ·refine wn<|wi ?_ ?_<;>intro c2
   ·exact au ((List.elem_eq_true_of_mem (by rw [← c2]; exact getD_in 0 om)).symm)
   ·refine wn<|cZ _ ?_ ?_
    ·(refine ⟨ob,ob,?_⟩; rw [show (g1+1).toNat=g1.toNat+1 by omega,iK 0 om]; exact aiw bQ c2)
    ·exact ob
  ·refine au ?_;(rw [show g1.toNat=l_.length by omega,List.take_length] at bQ; exact bQ.symm)
 ·(refine ⟨ob,ob,rfl⟩)
theorem aeM {a_:List Int} {b_:List Int} (h1:a_.length≤2000000):W (Iw a_ b_) (λ r=>r=(a_==b_)):=by
 unfold Iw;refine wi ?_ ?_<;>intro c1
 ·exact au ((acQ c1).symm)
 ·refine bM (λ (g1:Int)=>0≤g1∧g1≤a_.length∧(a_==b_)=(a_.drop g1.toNat==b_.drop g1.toNat)) (λ (g1:Int)=>(a_.length - g1).toNat) ?_ ?_
  ·intro ah g1 eX cZ;obtain ⟨dX,bN,bQ⟩:=eX;unfold Tz;refine wi ?_ ?_<;>intro c2
   ·rw [drop_cons 0 (show g1.toNat<a_.length by omega),drop_cons 0 (show g1.toNat<b_.length by omega)] at bQ;refine wm<|wi ?_ ?_<;>intro c3
    ·refine au ?_;(rw [bQ,amM c3])
    ·refine wn<|cZ _ ?_ ?_
     ·(refine ⟨ob,ob,?_⟩; rw [bQ,amN c3,show (g1+1).toNat=g1.toNat+1 by omega])
     ·exact ob
   ·refine au ?_;(rw [bQ,List.drop_eq_nil_of_le om,List.drop_eq_nil_of_le om]; rfl)
  ·(refine ⟨ob,ob,rfl⟩)
theorem yS {l_:List Int} {wY:Int} {y8:Int} (h1:l_.length≤2000000):W (lU l_ wY y8) (λ r=>r=yM wY y8 [] l_):=by
 unfold lU;refine bM (λ (g1:Int)=>0≤g1∧g1≤l_.length∧yM wY y8 (l_.take g1.toNat) (l_.drop g1.toNat)=yM wY y8 [] l_) (λ (g1:Int)=>(l_.length - g1).toNat) ?_ ?_
 ·intro ah g1 eX cZ;obtain ⟨dX,bN,bQ⟩:=eX;unfold En;refine wi ?_ ?_<;>intro c1
  ·rw [drop_cons 0 (show g1.toNat<l_.length by omega)] at bQ;refine wm<|aG (gN λ hc=>lY (aix ob)) λ v3 hv3=>?_;subst v3;refine bW ?_ ?_<;>intro c2
   ·have ku:=c2;have c2:=fq c2;rw [aeL] at ku;refine au ?_;(rw [← bQ,Yp (pre:=l_.take g1.toNat) (n:=l_.getD g1.toNat 0) ku])
   ·have ku:=c2;have c2:=fq c2;rw [aeL] at ku;refine wn<|cZ _ ?_ ?_
    ·(refine ⟨ob,ob,?_⟩; rw [← bQ,acH (pre:=l_.take g1.toNat) (n:=l_.getD g1.toNat 0) ku,show (g1+1).toNat=g1.toNat+1 by omega,iK 0 om])
    ·exact ob
  ·refine au ?_;(rw [← bQ,List.drop_eq_nil_of_le om]; rfl)
 ·(refine ⟨ob,ob,rfl⟩)
theorem XC {c_:ay} (h1:c_.aT.length≤2000000) (h2:c_.aK.length≤2000000):W (Ae c_) (λ r=>r=iT c_):=by
 unfold Ae;refine bW ?_ ?_<;>intro c1
 ·have fV:=c1;have c1:=fq c1;refine aQ (by (intro hc; simp only [Bool.and_eq_true,beq_iff_eq] at hc; omega)) ?_;refine aQ (by (intro hc; simp only [Bool.and_eq_true,beq_iff_eq] at hc; omega)) ?_;refine au ?_;(unfold iT; rw [fV]; simp only [cond_true]; unfold dP; rw [Bool.and_assoc])
 ·have fV:=c1;have c1:=fq c1;refine bW ?_ ?_<;>intro c2
  ·have ku:=c2;have c2:=fq c2;refine bW ?_ ?_<;>intro c3
   ·have kr:=c3;have c3:=fq c3;refine aG (gN λ hc=>lY (yS ob)) λ v1 hv1=>?_;subst v1;refine au ?_;(unfold iT; rw [fV,ku,agk]; rfl)
   ·have kr:=c3;have c3:=fq c3;rw [ku] at kr; cases kr
  ·have ku:=c2;have c2:=fq c2;refine bW ?_ ?_<;>intro c4
   ·have vw:=c4;have c4:=fq c4;refine aG (gN λ hc=>lY (yS ob)) λ v4 hv4=>?_;subst v4;refine au ?_;(unfold iT; rw [fV,ku,vw,agk]; rfl)
   ·have vw:=c4;have c4:=fq c4;refine bW ?_ ?_<;>intro c5
    ·have Dr:=c5;have c5:=fq c5;refine wn<|aG (gN λ hc=>lY (yS ob)) λ v5 hv5=>?_;subst v5;refine au ?_;(unfold iT; rw [fV,ku,vw,Dr,agk c_.aK.length]; exact auY)
    ·have Dr:=c5;have c5:=fq c5;refine bW ?_ ?_<;>intro c6
     ·have c6o:=c6;have c6:=fq c6;refine bW ?_ ?_<;>intro c7
      ·have Xe:=c7;have c7:=fq c7;refine aG (gN λ hc=>lY (aeM ob)) λ v6 hv6=>?_;subst v6;refine au ?_;(unfold iT; rw [fV,ku,vw,Dr,c6o]; rfl)
      ·have Xe:=c7;have c7:=fq c7;refine au ?_;(unfold iT; rw [fV,ku,vw,Dr,c6o,show ((c_.aT.length:Int)==1)=false by simpa using Xe]; rfl)
     ·have c6o:=c6;have c6:=fq c6;refine au ?_;(unfold iT; rw [fV,ku,vw,Dr,c6o]; rfl)
variable {l_:List ay}
theorem XD (h1:l_.length≤1000) (h2:ahd l_):W (Af l_) (λ r=>r=iJ l_):=by
 unfold Af;refine bM (λ (g1:Int×List Int)=>0≤g1.1∧g1.1≤l_.length∧g1.2=iJ (l_.take g1.1.toNat)) (λ (g1:Int×List Int)=>(l_.length - g1.1).toNat) ?_ ?_
 ·intro ah g1 eX cZ;obtain ⟨dX,bN,bQ⟩:=eX;unfold Iz;have hfb:=jZ (l_.take g1.1.toNat);rw [take_len om,← bQ] at hfb;refine wi ?_ ?_<;>intro c1
  ·obtain ⟨hp1,hp2⟩:=h2 g1.1.toNat om;refine wn<|bM (λ (g6:Int×Int)=>0≤g6.2∧g6.2≤(l_.getD g1.1.toNat aI).aT.length∧g6.1=mh g1.2 ((l_.getD g1.1.toNat aI).aT.take g6.2.toNat)) (λ (g6:Int×Int)=>((l_.getD g1.1.toNat aI).aT.length - g6.2).toNat) ?_ ?_
   ·intro jD g6 Kk Hf;obtain ⟨Gf,tL,LP⟩:=Kk;unfold Iy;have hpm:=Ke g1.2 g1.1.toNat om hfb.2 ((l_.getD g1.1.toNat aI).aT.take g6.2.toNat);rw [← LP] at hpm;refine wi ?_ ?_<;>intro c2
    ·have hx:=hp2 _ (getD_in (i:=g6.2.toNat) 0 om);refine wm<|wn ?_;refine Hf _ ?_ ?_
     ·(refine ⟨ob,ob,?_⟩; dsimp only; rw [show (g6.2+1).toNat=g6.2.toNat+1 by omega]; unfold mh; rw [vT _ _ 0 om,LP]; rfl)
     ·exact ob
    ·have hpe:g6.1=mh g1.2 (l_.getD g1.1.toNat aI).aT:=(by rw [LP,show g6.2.toNat=(l_.getD g1.1.toNat aI).aT.length by omega,List.take_length]);refine bW ?_ ?_<;>intro c3
     ·have kr:=c3;have c3:=fq c3;refine wn ?_;unfold nI;refine wm<|cZ _ ?_ ?_
      ·(refine ⟨ob,ob,?_⟩; dsimp only; rw [show (g1.1+1).toNat=g1.1.toNat+1 by omega,iK aI om,DI,← bQ]; unfold Kc Sc; rw [kr,hpe]; rfl)
      ·exact ob
     ·have kr:=c3;have c3:=fq c3;unfold nI;refine wm<|cZ _ ?_ ?_
      ·(refine ⟨ob,ob,?_⟩; dsimp only; rw [show (g1.1+1).toNat=g1.1.toNat+1 by omega,iK aI om,DI,← bQ]; unfold Kc Sc; rw [kr,hpe]; rfl)
      ·exact ob
   ·(refine ⟨ob,ob,rfl⟩)
  ·refine au ?_;(rw [bQ,show g1.1.toNat=l_.length by omega,List.take_length])
 ·(refine ⟨ob,ob,rfl⟩)
theorem Al (h1:l_.length≤2000000):W (sZ l_) (λ r=>r=eG l_):=by
 unfold sZ;refine bW ?_ ?_<;>intro c1
 ·have fV:=c1;have c1:=fq c1;refine au ?_;(unfold eG; rw [fV]; rfl)
 ·have fV:=c1;have c1:=fq c1;refine bM (λ (g1:Int)=>0≤g1∧g1≤l_.length∧(∀j:Nat,(j:Int)<g1→Sb (l_.getD j aI)=false)) (λ (g1:Int)=>(l_.length - g1).toNat) ?_ ?_
  ·intro ah g1 eX cZ;obtain ⟨dX,bN,bQ⟩:=eX;unfold Ny;refine wi ?_ ?_<;>intro c2
   ·refine wn<|bW ?_ ?_<;>intro c3
    ·have kr:=c3;have c3:=fq c3;refine au ?_;(unfold eG; rw [yO (p:=Sb) aI (show g1.toNat<l_.length by omega) (show Sb _=true from kr),Bool.or_true]; rfl)
    ·have kr:=c3;have c3:=fq c3;refine wn<|cZ _ ?_ ?_
     ·(refine ⟨ob,ob,eO bQ dX kr⟩)
     ·exact ob
   ·have hb4:∀i:Nat,i<l_.length→Sb (l_.getD i aI)=false:=λ j hj=>bQ j om;have hbig:=any_none (p:=Sb) aI hb4;have hb3:(decide (16<(l_.length:Int))||l_.any Sb)=false:=(by rw [fV,hbig]; rfl);refine bM (λ (g2:Int×Int)=>0≤g2.2∧g2.2≤l_.length∧g2.1=mJ (l_.take g2.2.toNat)∧(∀j:Nat,(j:Int)<g2.2→lC (l_.getD j aI) j=true)) (λ (g2:Int×Int)=>(l_.length - g2.2).toNat) ?_ ?_
    ·intro dY g2 mU qZ;obtain ⟨sj,jG,pK,Ue⟩:=mU;unfold K7;refine wi ?_ ?_<;>intro c4
     ·have hlt:g2.2.toNat<l_.length:=om;have hbl:=Oh (hb4 g2.2.toNat hlt);refine wn<|bM (λ (g5:Int)=>0≤g5∧g5≤(l_.getD g2.2.toNat aI).aT.length∧(∀j:Nat,(j:Int)<g5→dP ((l_.getD g2.2.toNat aI).aT.getD j 0) 0 (g2.2.toNat - 1)=true)) (λ (g5:Int)=>((l_.getD g2.2.toNat aI).aT.length - g5).toNat) ?_ ?_
      ·intro nC g5 VA VB;obtain ⟨Rt,Gg,Ub⟩:=VA;unfold K5;refine wi ?_ ?_<;>intro c5
       ·refine wn<|wi ?_ ?_<;>intro c6
        ·refine au ?_;(unfold eG; rw [hb3,Sd hlt (Vn (j:=g5.toNat) om (by rw [← Bool.not_eq_true,within_iff]; omega))]; rfl)
        ·refine wn<|VB _ ?_ ?_
         ·(refine ⟨ob,ob,eO Ub Rt (by rw [within_iff]; omega)⟩)
         ·exact ob
       ·have hvr:=aep (k:=(g2.2.toNat:Int)) (λ j hj=>Ub j om);refine aG (XC ob ob) λ v3 hv3=>?_;subst v3;refine bW ?_ ?_<;>intro c7
        ·have Xe:=c7;have c7:=fq c7;rw [Xe] at hvr;refine au ?_;(unfold eG; rw [hb3,Sd hlt hvr]; rfl)
        ·have Xe:=c7;have c7:=fq c7;rw [Xe] at hvr;have hpm:=akC (l_.take g2.2.toNat) (l_.getD g2.2.toNat aI).aK.length om;rw [← pK] at hpm;refine wm<|qZ _ ?_ ?_
         ·(refine ⟨ob,ob,?_,eO Ue sj hvr⟩; dsimp only; rw [show (g2.2+1).toNat=g2.2.toNat+1 by omega]; unfold mJ; rw [vT _ _ aI hlt]; rw [pK]; rfl)
         ·exact ob
      ·(refine ⟨ob,ob,λ j hj=>by omega⟩)
     ·have hva:∀i:Nat,i<l_.length→lC (l_.getD i aI) i=true:=λ j hj=>Ue j om;have hall:=abj hva;have hfl:=(jZ l_).1;rw [show g2.2.toNat=l_.length by omega,List.take_length] at pK;refine bW ?_ ?_<;>intro c8
      ·have c8o:=c8;have c8:=fq c8;refine au ?_;(unfold eG; rw [hb3,hall,← pK,c8o]; rfl)
      ·have c8o:=c8;have c8:=fq c8;refine aG (XD om (aer hva hb4)) λ v4 hv4=>?_;subst v4;refine bM (λ (g6:Int)=>0≤g6∧g6≤(iJ l_).length∧(∀j:Nat,(j:Int)<g6→(λ n=>decide (4<n)) ((iJ l_).getD j 0)=false)) (λ (g6:Int)=>((iJ l_).length - g6).toNat) ?_ ?_
       ·intro jD g6 Kk Hf;obtain ⟨Gf,tL,LP⟩:=Kk;unfold K6;refine wi ?_ ?_<;>intro c9
        ·refine wn<|bW ?_ ?_<;>intro c10
         ·have aiy:=c10;have c10:=fq c10;refine au ?_;(unfold eG; rw [hb3,hall,yO (p:=λ n=>decide (4<n)) 0 (show g6.toNat<(iJ l_).length by omega) aiy,Bool.or_true]; rfl)
         ·have aiy:=c10;have c10:=fq c10;refine wn<|Hf _ ?_ ?_
          ·(refine ⟨ob,ob,eO LP Gf aiy⟩)
          ·exact ob
        ·refine au ?_;(unfold eG; rw [hb3,hall,← pK,c8o,any_none (p:=λ n=>decide (4<n)) 0 (λ j hj=>LP j om)]; rfl)
       ·(refine ⟨ob,ob,λ j hj=>by omega⟩)
    ·(refine ⟨ob,ob,rfl,λ j hj=>by dsimp only at hj; omega⟩)
  ·(refine ⟨ob,ob,λ j hj=>by omega⟩)
variable {l:List ay} {m:List aX}
theorem amP (h:((eG l != 0)||decide (32<(m.length:Int)))=true):nK l m=false:=by
 unfold nK;by_cases h1:eG l=0
 ·rw [h1] at h;have:32<(m.length:Int):=by simpa using h
  rw [decide_eq_false (p:=(m.length:Int)≤32) om];simp
 ·have:(eG l==0)=false:=by simpa using h1
  rw [this];rfl
theorem ak1 (h:((eG l != 0)||decide (32<(m.length:Int)))=false):nK l m=!(m.any (Ka l.length)):=by
 have h1:eG l=0∧(m.length:Int)≤32:=by
  simp at h;omega
 unfold nK;rw [h1.1,decide_eq_true h1.2];rfl
theorem aeN (n:Int) (x:aX):(((((decide (x.eU<(0:Int)))||(decide (n≤x.eU)))||(decide (x.Low<(0:Int))))||(decide (x.fJ<x.Low)))||(decide ((4000000000:Int)<x.fJ)))=Ka n x:=by
 unfold Ka dP;rw [Bool.eq_iff_iff];simp;omega
variable {m_:List aX}
theorem OB (h1:l_.length≤2000000) (h2:m_.length≤2000000):W (yD l_ m_) (λ r=>r=nK l_ m_):=by
 unfold yD;refine aG (Al ob) λ v1 hv1=>?_;subst v1;refine bW ?_ ?_<;>intro c1
 ·have fV:=c1;have c1:=fq c1;exact au ((amP fV).symm)
 ·have fV:=c1;have c1:=fq c1;have hdf:=ak1 fV;refine bM (λ (g1:Int)=>0≤g1∧g1≤m_.length∧(m_.drop g1.toNat).any (Ka l_.length)=m_.any (Ka l_.length)) (λ (g1:Int)=>(m_.length - g1).toNat) ?_ ?_
  ·intro ah g1 eX cZ;obtain ⟨dX,bN,bQ⟩:=eX;unfold Lg;refine wi ?_ ?_<;>intro c2
   ·have hlt:g1.toNat<m_.length:=om;rw [drop_cons dK hlt,List.any_cons] at bQ;refine wn<|bW ?_ ?_<;>intro c3
    ·have kr:=c3;have c3:=fq c3;rw [aeN] at kr;refine au ?_;(rw [hdf,← bQ,kr]; rfl)
    ·have kr:=c3;have c3:=fq c3;rw [aeN] at kr;refine wn<|cZ _ ?_ ?_
     ·(refine ⟨ob,ob,?_⟩; rw [← bQ,kr,show (g1+1).toNat=g1.toNat+1 by omega]; rfl)
     ·exact ob
   ·refine au ?_;(rw [hdf,← bQ,show g1.toNat=m_.length by omega,List.drop_length]; rfl)
  ·(refine ⟨ob,ob,rfl⟩)
theorem aaH (h1:l_.length≤2000000) (h2:m_.length≤2000000):W (FV l_ m_) (λ r=>r=(bif eG l_ != 0 then eG l_ else bif !nK l_ m_ then 1 else 0)):=by
 unfold FV;refine aG (Al ob) λ v1 hv1=>?_;subst v1;refine bW ?_ ?_<;>intro c1
 ·have fV:=c1;have c1:=fq c1;refine au ?_;(rw [fV]; rfl)
 ·have fV:=c1;have c1:=fq c1;refine aG (OB ob ob) λ v2 hv2=>?_;subst v2;refine bW ?_ ?_<;>intro c2
  ·have ku:=c2;have c2:=fq c2;refine au ?_;(rw [fV,ku]; rfl)
  ·have ku:=c2;have c2:=fq c2;refine au ?_;(rw [fV,ku]; rfl)
theorem Zv {c_:ay} {vJ:Int} (h1:Zk c_ vJ):W (Dc c_ vJ) (λ r=>r=kJ c_ vJ):=by
 have hp:=h1; unfold Zk at hp;unfold Dc;refine bW ?_ ?_<;>intro c1
 ·have fV:=c1;have c1:=fq c1;refine au ?_;(unfold kJ; rw [fV]; rfl)
 ·have fV:=c1;have c1:=fq c1;refine bW ?_ ?_<;>intro c2
  ·have ku:=c2;have c2:=fq c2;refine wm<|au ?_;(unfold kJ; rw [fV,ku]; rfl)
  ·have ku:=c2;have c2:=fq c2;refine wn<|au ?_;(unfold kJ; rw [fV,ku]; rfl)
theorem Cb {a_:Int} {b_:Int} (h1:0≤a_) (h2:0≤b_):W (rA a_ b_) (λ r=>r=jy a_ b_):=by
 unfold rA;refine bM (λ (g1:Int×Int)=>0≤g1.1∧0≤g1.2∧jy g1.1 g1.2=jy a_ b_) (λ (g1:Int×Int)=>g1.2.toNat) ?_ ?_
 ·intro ah g1 eX cZ;obtain ⟨dX,bN,bQ⟩:=eX;unfold IE;refine wi ?_ ?_<;>intro c1
  ·refine wn<|cZ _ ?_ ?_
   ·(refine ⟨ob,Int.tmod_nonneg _ om,?_⟩; dsimp only; rw [← bQ]; exact aex om om)
   ·(dsimp only; have:=TK g1.1 g1.2 om; have:=Int.tmod_nonneg (a:=g1.1) g1.2 om; omega)
  ·refine au ?_;(rw [← bQ]; unfold jy; have e:g1.2=0:=c1; rw [e]; simp; omega)
 ·exact ob
variable {r_:bK}
theorem Am:W (tu r_) (λ r=>r=nR r_):=by
 unfold tu;refine aG (gN λ hc=>lY (Cb (by have hc:=fq hc; omega) (by have hc:=fq hc; omega))) λ v1 hv1=>?_;subst v1;refine au ?_;rfl
theorem OC {k_:Int}:W (yE k_) (λ r=>r=yN k_):=by
 unfold yE;refine au ?_;rfl
theorem Xf {xX:Int} {xY:Int} (h1:xX≤4611686018427387904) (h2:xY≤4611686018427387904):W (IG xX xY) (λ r=>r=newR xX xY):=by
 unfold IG;refine bW ?_ ?_<;>intro c1
 ·have fV:=c1;have c1:=fq c1;refine au ?_;(unfold newR; rw [fV]; rfl)
 ·have fV:=c1;have c1:=fq c1;have hg:=Bl xX xY om; have q1:=tdiv_le xX _ om hg; have q2:=tdiv_le xY _ om hg;refine aG (Cb ob ob) λ v1 hv1=>?_;subst v1;refine wm<|aG (Am) λ v2 hv2=>?_;subst v2;refine bW ?_ ?_<;>intro c2
  ·have ku:=c2;have c2:=fq c2;refine au ?_;(unfold newR; rw [fV]; simp only [cond_false]; rw [ku]; rfl)
  ·have ku:=c2;have c2:=fq c2;refine au ?_;(unfold newR; rw [fV]; simp only [cond_false]; rw [ku]; rfl)
theorem acR {k_:Int}:W (J3 r_ k_) (λ r=>r=Bn r_ k_):=by
 unfold J3;refine aG (Am) λ v1 hv1=>?_;subst v1;refine bW ?_ ?_<;>intro c1
 ·have fV:=c1;have c1:=fq c1;refine au ?_;(unfold Bn; rw [fV]; rfl)
 ·have fV:=c1;have c1:=fq c1;have hv:=lV (r:=r_) (by simpa using fV);refine aG (OC) λ v2 hv2=>?_;subst v2;refine bW ?_ ?_<;>intro c2
  ·have ku:=c2;have c2:=fq c2;refine au ?_;(unfold Bn; rw [fV,ku]; rfl)
  ·have ku:=c2;have c2:=fq c2;have hk:1≤k_∧k_≤64:=(by simp [yN] at ku; omega);have q3:=Vq (show 0≤k_ by omega) hk.2 (show 0≤r_.jv by omega) hv.2.2.2.1;refine wn<|aG (Xf ob ob) λ v3 hv3=>?_;subst v3;refine au ?_;(unfold Bn; rw [fV,ku]; rfl)
theorem aaI {k_:Int}:W (FX r_ k_) (λ r=>r=rJ r_ k_):=by
 unfold FX;refine aG (Am) λ v1 hv1=>?_;subst v1;refine bW ?_ ?_<;>intro c1
 ·have fV:=c1;have c1:=fq c1;refine au ?_;(unfold rJ; rw [fV]; rfl)
 ·have fV:=c1;have c1:=fq c1;have hv:=lV (r:=r_) (by simpa using fV);refine aG (OC) λ v2 hv2=>?_;subst v2;refine bW ?_ ?_<;>intro c2
  ·have ku:=c2;have c2:=fq c2;refine au ?_;(unfold rJ; rw [fV,ku]; rfl)
  ·have ku:=c2;have c2:=fq c2;have hk:1≤k_∧k_≤64:=(by simp [yN] at ku; omega);have hg:=Bl k_ r_.jv om;have q1:=tdiv_le k_ _ om hg;have q2:=tdiv_le r_.jv _ om hg;have q4:=apc k_ r_.jv hk om;have q5:=tdiv_le 144115188075855872 _ om (show 0<k_.tdiv (jy k_ r_.jv) by omega);refine aG (Cb ob ob) λ v3 hv3=>?_;subst v3;refine wm<|bW ?_ ?_<;>intro c3
   ·have kr:=c3;have c3:=fq c3;refine au ?_;(unfold rJ; rw [fV,ku,kr]; rfl)
   ·have kr:=c3;have c3:=fq c3;have q3:=aie r_.jS (k_.tdiv (jy k_ r_.jv)) hv.1 q4.1 om;refine wm<|wn ?_;refine aG (Xf ob ob) λ v4 hv4=>?_;subst v4;refine au ?_;(unfold rJ; rw [fV,ku,kr]; rfl)
variable {s_:List Int}
theorem jK {g1:Int×List bK×List Bool} {ah:(Int×List bK×List Bool)→M (List bK×List Bool)} {g7:Bool×Int×Int} {Q:(List bK×List Bool)→Prop} (cZ:∀s':(Int×List bK×List Bool),(0≤s'.1∧s'.1≤l_.length∧s'.2.1=(Vp l_ s_ s'.1.toNat).1∧s'.2.2=(Vp l_ s_ s'.1.toNat).2)→(l_.length - s'.1).toNat<(l_.length - g1.1).toNat→W (ah s') Q) (hc:0≤g1.1∧g1.1<l_.length∧l_.length≤1000∧g1.2.1=(Vp l_ s_ g1.1.toNat).1∧g1.2.2=(Vp l_ s_ g1.1.toNat).2∧((⟨g7.2.1,g7.2.2⟩:bK),g7.1)=(st1 (Vp l_ s_ g1.1.toNat).1 (Vp l_ s_ g1.1.toNat).2 (l_.getD g1.1.toNat aI) (s_.getD g1.1.toNat 0))):W (jm g1 ah g7) Q:=by
 obtain ⟨akz,akA,akB,af6,af7,af8⟩:=hc;unfold jm;refine aQ (by (rw [af6,(PK l_ s_ g1.1.toNat).1]; unfold big; omega)) ?_;refine aQ (by (rw [af7,(PK l_ s_ g1.1.toNat).2]; unfold big; omega)) ?_;refine wn<|cZ _ ?_ ?_
 ·(refine ⟨ob,ob,?_,?_⟩; (dsimp only; rw [show (g1.1+1).toNat=g1.1.toNat+1 by omega,Vp,← af8,← af6]); (dsimp only; rw [show (g1.1+1).toNat=g1.1.toNat+1 by omega,Vp,← af8,← af7]))
 ·exact ob
theorem OD (h1:Good l_ s_) (h2:Up l_ s_):W (yF l_ s_) (λ r=>r=Ro l_ s_):=by
 obtain ⟨q1,q2,q3,q4,q5⟩:=h1;unfold yF;refine bM (λ (g1:Int×List bK×List Bool)=>0≤g1.1∧g1.1≤l_.length∧g1.2.1=(Vp l_ s_ g1.1.toNat).1∧g1.2.2=(Vp l_ s_ g1.1.toNat).2) (λ (g1:Int×List bK×List Bool)=>(l_.length - g1.1).toNat) ?_ ?_
 ·intro ah g1 eX cZ;obtain ⟨dX,bN,bQ,kQ⟩:=eX;unfold Lh;have hst:=PK l_ s_ g1.1.toNat;refine wi ?_ ?_<;>intro c1
  ·have hch:=q3 g1.1.toNat om;have hpar:=q5 g1.1.toNat om;have hpc:=q4 g1.1.toNat om;have hui:=h2 g1.1.toNat om;refine wm<|aG (Zv ob) λ v18 apj=>?_;subst v18;refine wi ?_ ?_<;>intro c2
   ·refine wm ?_;unfold oJ;refine wm<|bW ?_ ?_<;>intro c3
    ·have kr:=c3;have c3:=fq c3;exact jK (l_:=l_) (s_:=s_) (λ a b c=>cZ a b c) (by (exfalso; have:=(show kJ (l_.getD g1.1.toNat aI) (s_.getD g1.1.toNat 0) = -1 by unfold kJ; rw [kr]; rfl); omega))
    ·have kr:=c3;have c3:=fq c3;refine bW ?_ ?_<;>intro c4
     ·have vw:=c4;have c4:=fq c4;refine aG (acR) λ v16 acG=>?_;subst v16;exact jK (l_:=l_) (s_:=s_) (λ a b c=>cZ a b c) (by (refine ⟨ob,ob,ob,bQ,kQ,?_⟩; dsimp only; unfold st1; rw [kr,vw,← bQ,← kQ]; rfl))
     ·have vw:=c4;have c4:=fq c4;refine bW ?_ ?_<;>intro c5
      ·have Dr:=c5;have c5:=fq c5;refine aG (aaI) λ v17 amQ=>?_;subst v17;exact jK (l_:=l_) (s_:=s_) (λ a b c=>cZ a b c) (by (refine ⟨ob,ob,ob,bQ,kQ,?_⟩; dsimp only; unfold st1; rw [kr,vw,Dr,← bQ,← kQ]; rfl))
      ·have Dr:=c5;have c5:=fq c5;refine bW ?_ ?_<;>intro c6
       ·have c6o:=c6;have c6:=fq c6;refine bW ?_ ?_<;>intro c7
        ·have Xe:=c7;have c7:=fq c7;exact jK (l_:=l_) (s_:=s_) (λ a b c=>cZ a b c) (by (refine ⟨ob,ob,ob,bQ,kQ,?_⟩; dsimp only; unfold st1; rw [kr,vw,Dr,c6o,Xe,← bQ,← kQ]; rfl))
        ·have Xe:=c7;have c7:=fq c7;exact jK (l_:=l_) (s_:=s_) (λ a b c=>cZ a b c) (by (refine ⟨ob,ob,ob,bQ,kQ,?_⟩; dsimp only; unfold st1; rw [kr,vw,Dr,c6o,Xe,← bQ,← kQ]; rfl))
       ·have c6o:=c6;have c6:=fq c6;exact jK (l_:=l_) (s_:=s_) (λ a b c=>cZ a b c) (by (refine ⟨ob,ob,ob,bQ,kQ,?_⟩; dsimp only; unfold st1; rw [kr,vw,Dr,c6o,← bQ,← kQ]; rfl))
   ·unfold oJ;refine wm<|bW ?_ ?_<;>intro c8
    ·have c8o:=c8;have c8:=fq c8;exact jK (l_:=l_) (s_:=s_) (λ a b c=>cZ a b c) (by (refine ⟨ob,ob,ob,bQ,kQ,?_⟩; dsimp only; unfold st1; rw [c8o]; rfl))
    ·have c8o:=c8;have c8:=fq c8;exfalso; have:=hui (by simpa using c8o); omega
  ·refine au ?_;(unfold Ro; rw [bQ,kQ,show g1.1.toNat=l_.length by omega])
 ·(refine ⟨ob,ob,rfl,rfl⟩)
def ak2 (r:List bK) (on:List Bool) (l:List ay) (j:Nat):Bool:=((on.getD j false)&&((l.getD j aI).fJ != 0))&&!r9 (r.getD j dW) (l.getD j aI).Low (l.getD j aI).fJ
def aiz (l:List ay) (st:List bK×List Bool):Bool:=(List.range l.length).all λ i=>!ak2 st.1 st.2 l i
def Zw (st:List bK×List Bool) (x:aX):Bool:=!(st.2.getD x.eU.toNat false)||!r9 (st.1.getD x.eU.toNat dW) x.Low x.fJ
def OE (l:List ay) (s:List Int) (m:List aX):Bool:=!m.any (Zw (Ro l s))&&aiz l (Ro l s)
def VS (l:List ay) (s:List Int):Prop:=s.length=l.length∧∀i,i<l.length→0≤s.getD i 0∧s.getD i 0<(l.getD i aI).aK.length
def gW:List ay→Nat
 | []=>1
 | c::l=>c.aK.length*gW l
def gJ:List ay→List Int→Nat
 | c::l,x::t=>x.toNat*gW l+gJ l t
 | _,_=>0
variable {s:List Int}
theorem Uf {c:ay} (h:VS (c::l) s):∃x t,s=x::t∧0≤x∧x<c.aK.length∧VS l t:=by
 obtain ⟨h1,h2⟩:=h;cases s with
 | nil=>cases h1
 | cons x t=>
  have h0:=h2 0 (by simp);exact ⟨x,t,rfl,h0.1,h0.2,by simpa using h1,λ i hi=>h2 (i+1) (by simpa using hi)⟩
theorem Hg:∀ {s:List Int},VS l s→gJ l s<gW l:=by
 induction l with
 | nil=>intro s _; cases s<;>simp [gJ,gW]
 | cons c l ih=>
  intro s h;obtain ⟨x,t,rfl,h1,h2,h3⟩:=Uf h;have:=ih h3;rw [gJ,gW];have h4:(x.toNat+1)*gW l≤c.aK.length*gW l:=Nat.mul_le_mul_right _ om;rw [Nat.add_mul,Nat.one_mul] at h4;omega
theorem ak3:∀ {s:List Int},(∀j,j<l.length→s.getD j 0=0)→gJ l s=0:=by
 induction l with
 | nil=>intro s _; cases s<;>rfl
 | cons c l ih=>
  intro s h;cases s with
  | nil=>rfl
  | cons x t=>
   have h0:=h 0 (by simp);have h0:x=0:=h0;rw [gJ,h0,ih λ j hj=>h (j+1) (by simpa using hj)];simp
theorem amR:∀ {s:List Int},VS l s→(∀j,j<l.length→s.getD j 0+1=(l.getD j aI).aK.length)→gJ l s+1=gW l:=by
 induction l with
 | nil=>intro s h _; cases s<;>rfl
 | cons c l ih=>
  intro s hv h;obtain ⟨x,t,rfl,h1,h2,h3⟩:=Uf hv;have h0:x+1=c.aK.length:=h 0 (by simp);have:=ih h3 λ j hj=>h (j+1) (by simpa using hj);rw [gJ,gW,show c.aK.length=x.toNat+1 by omega,Nat.add_mul,Nat.one_mul];omega
theorem ak4:∀ {s t:List Int} {k:Nat},VS l s→k<l.length→t.length=l.length→(∀j,j<k→t.getD j 0=s.getD j 0)→t.getD k 0=s.getD k 0+1→(∀j,k<j→j<l.length→t.getD j 0=0∧s.getD j 0+1=(l.getD j aI).aK.length)→gJ l t=gJ l s+1:=by
 induction l with
 | nil=>intro s t k _ h; exact absurd h (Nat.not_lt_zero _)
 | cons c l ih=>
  intro s t k hv hk hl h1 h2 h3;obtain ⟨x,s,rfl,g1,g2,g3⟩:=Uf hv;cases t with
  | nil=>cases hl
  | cons y t=>
   cases k with
   | zero=>
    have h2:y=x+1:=h2;have e1:=ak3 (l:=l) (s:=t) λ j hj=>(h3 (j+1) om (by simpa using hj)).1;have e2:=amR g3 λ j hj=>(h3 (j+1) om (by simpa using hj)).2;rw [gJ,gJ,e1,h2,show (x+1).toNat=x.toNat+1 by omega,Nat.add_mul,Nat.one_mul];omega
   | succ k=>
    have h0:y=x:=h1 0 om;have:=ih g3 (by simpa using hk) (by simpa using hl) (λ j hj=>h1 (j+1) om) h2 (λ j a b=>h3 (j+1) om (by simpa using b));rw [gJ,gJ,h0,this];omega
theorem amS {t:List Int} {k:Nat} (hv:VS l s) (hk:k<l.length) (hl:t.length=l.length) (h1:∀j,j<k→t.getD j 0=s.getD j 0) (h2:t.getD k 0=s.getD k 0+1) (h3:∀j,k<j→j<l.length→t.getD j 0=0∧s.getD j 0+1=(l.getD j aI).aK.length) (h4:s.getD k 0+1<(l.getD k aI).aK.length):VS l t∧gJ l t=gJ l s+1:=by
 refine ⟨⟨hl,λ i hi=>?_⟩,ak4 hv hk hl h1 h2 h3⟩;have:=hv.2 i hi;rcases Nat.lt_trichotomy i k with h | h | h
 ·rw [h1 i h]; exact this
 ·subst h; omega
 ·have:=h3 i h hi; omega
theorem Ug (h:VS l s):kg l s=true:=by
 unfold kg;rw [h.1,beq_self_eq_true,Bool.true_and,List.all_eq_true];intro i hi;have:=h.2 i (by have:=List.mem_range.1 hi; omega);exact (within_iff _ _ _).2 om
theorem aiA (l:List ay) (c:ay):gW (l++[c])=gW l*c.aK.length:=by
 induction l with
 | nil=>simp [gW]
 | cons a l ih=>rw [List.cons_append,gW,gW,ih,Nat.mul_assoc]
theorem aiB (h:∀c∈l,1≤c.aK.length):mJ l=Xw (gW l) 1099511627776:=by
 induction l using JO with
 | nil=>rfl
 | append_singleton l c ih=>
  have hc:=h c (by simp);rw [Sg,ih λ x hx=>h x (by simp [hx]),aiA,Int.natCast_mul];generalize ((gW l:Nat):Int)=a;generalize hb:(c.aK.length:Int)=b;have hb1:1≤b:=by omega
  unfold Xw;by_cases h1:(1099511627776:Int)<a
  ·have h2:(1099511627776:Int)<a*b:=by
    have:=Int.mul_le_mul_of_nonneg_left hb1 (show 0≤a by omega);omega
   have h3:(1099511627776:Int)≤1099511627776*b:=by omega
   rw [if_pos h1,if_pos h2];split<;>omega
  ·rw [if_neg h1]
theorem size_le (h:aat l):gW l≤4096:=by
 have hp:=h.prod;rw [aiB λ c hc=>by
  obtain ⟨k,hk,rfl⟩:=List.mem_iff_getElem.1 hc;have:=Oj (lD (h.valid k hk));rw [List.getD_eq_getElem?_getD,List.getElem?_eq_getElem hk] at this;simp only [Option.getD_some] at this;omega] at hp
 unfold Xw at hp;split at hp<;>omega
theorem amT (h:aat l):VS l (List.replicate (l.length:Int).toNat 0):=by
 refine ⟨by simp,λ i hi=>?_⟩;have:=Oj (lD (h.valid i hi));rw [Sp.Bo];omega
theorem aiC (h:((bif eG l != 0 then eG l else bif !nK l m then 1 else 0) != 0)=false):eG l=0∧nK l m=true:=by
 cases h1:eG l != 0 with
 | true=>rw [h1] at h; simp only [cond_true] at h; rw [h1] at h; cases h
 | false=>
  cases h2:nK l m with
  | false=>rw [h1,h2] at h; cases h
  | true=>exact ⟨by simpa using h1,rfl⟩
theorem amU (h:nK l m=true):∀x∈m,0≤x.eU∧x.eU<l.length:=λ x hx=>(Om (Oo h x hx)).1
theorem ED {CS:Int} {oD:Int}:W (uE r_ CS oD) (λ r=>r=r9 r_ CS oD):=by
 unfold uE;refine aG (Am) λ v1 hv1=>?_;subst v1;refine bW ?_ ?_<;>intro c1
 ·have fV:=c1;have c1:=fq c1;refine au ?_;(unfold r9; rw [show nR r_=false by simpa using fV]; rfl)
 ·have fV:=c1;have c1:=fq c1;have hv:=lV (r:=r_) (by simpa using fV);have q1:=tdiv_le r_.jS r_.jv hv.1 om;refine wm<|au ?_;(unfold r9; rw [show nR r_=true by simpa using fV]; rfl)
theorem Xg {r_:List bK} {nW:List Bool} (h1:l_.length≤2000000) (h2:r_.length=l_.length) (h3:nW.length=l_.length):W (II l_ r_ nW) (λ r=>r=aiz l_ (r_,nW)):=by
 unfold II;refine bM (λ (g1:Int)=>0≤g1∧g1≤l_.length∧(∀j:Nat,(j:Int)<g1→ak2 r_ nW l_ j=false)) (λ (g1:Int)=>(l_.length - g1).toNat) ?_ ?_
 ·intro ah g1 eX cZ;obtain ⟨dX,bN,bQ⟩:=eX;unfold TA;refine wi ?_ ?_<;>intro c1
  ·refine wm<|wn ?_;refine aG (gN λ hc=>lY (ED)) λ v3 hv3=>?_;subst v3;refine bW ?_ ?_<;>intro c2
   ·have ku:=c2;have c2:=fq c2;refine au ?_;(unfold aiz; rw [tF (i:=g1.toNat) om (by rw [show ak2 r_ nW l_ g1.toNat=true from ku]; rfl)])
   ·have ku:=c2;have c2:=fq c2;refine wn<|cZ _ ?_ ?_
    ·(refine ⟨ob,ob,eO bQ dX ku⟩)
    ·exact ob
  ·refine au ?_;(unfold aiz; rw [vv λ j hj=>(by rw [bQ j om]; rfl)])
 ·(refine ⟨ob,ob,λ j hj=>by omega⟩)
theorem acS (h1:Good l_ s_) (h2:Up l_ s_) (h3:m_.length≤2000000) (h4:∀x∈m_,0≤x.eU∧x.eU<l_.length):W (J4 l_ s_ m_) (λ r=>r=OE l_ s_ m_):=by
 have hsm:=h1.small;have hst:=PK l_ s_ l_.length;unfold J4;refine aG (OD ob ob) λ v1 hv1=>?_;subst v1;have hs1:(Ro l_ s_).1.length=l_.length:=hst.1;have hs2:(Ro l_ s_).2.length=l_.length:=hst.2;refine bM (λ (g1:Int)=>0≤g1∧g1≤m_.length∧(m_.drop g1.toNat).any (Zw (Ro l_ s_))=m_.any (Zw (Ro l_ s_))) (λ (g1:Int)=>(m_.length - g1).toNat) ?_ ?_
 ·intro ah g1 eX cZ;obtain ⟨dX,bN,bQ⟩:=eX;unfold Rh;refine wi ?_ ?_<;>intro c1
  ·have hlt:g1.toNat<m_.length:=om;have hx:=h4 _ (getD_in (i:=g1.toNat) dK hlt);rw [drop_cons dK hlt,List.any_cons] at bQ;refine wm<|wn ?_;refine aG (gN λ hc=>lY (ED)) λ v4 hv4=>?_;subst v4;refine bW ?_ ?_<;>intro c2
   ·have ku:=c2;have c2:=fq c2;refine au ?_;(unfold OE; rw [← bQ,show Zw (Ro l_ s_) (m_.getD g1.toNat dK)=true from ku]; rfl)
   ·have ku:=c2;have c2:=fq c2;refine wn<|cZ _ ?_ ?_
    ·(refine ⟨ob,ob,?_⟩; rw [← bQ,show Zw (Ro l_ s_) (m_.getD g1.toNat dK)=false from ku,show (g1+1).toNat=g1.toNat+1 by omega]; rfl)
    ·exact ob
  ·refine aG (Xg ob ob ob) λ v5 hv5=>?_;subst v5;refine au ?_;(unfold OE; rw [← bQ,show g1.toNat=m_.length by omega,List.drop_length]; rfl)
 ·(refine ⟨ob,ob,rfl⟩)
theorem Uh (h1:l_.length≤1000) (h2:VS l_ s_) (h3:∀i,i<l_.length→(l_.getD i aI).aK.length≤2000000):W (J5 l_ s_) (λ r=>r.2=true→VS l_ r.1∧gJ l_ r.1=gJ l_ s_+1):=by
 obtain ⟨hsl,hsv⟩:=id h2;unfold J5;refine wm<|bM (λ (g1:Int×List Int) => -1≤g1.1∧g1.1<l_.length∧g1.2.length=l_.length∧(∀j:Nat,(j:Int)≤g1.1→g1.2.getD j 0=s_.getD j 0)∧(∀j:Nat,g1.1<(j:Int)→j<l_.length→g1.2.getD j 0=0∧s_.getD j 0+1=(l_.getD j aI).aK.length)) (λ (g1:Int×List Int)=>(g1.1+1).toNat) ?_ ?_
 ·intro ah g1 eX cZ;obtain ⟨dX,bN,bQ,kQ,Oe⟩:=eX;unfold Ri;refine wi ?_ ?_<;>intro c1
  ·have hv:=hsv g1.1.toNat om;have hc:=h3 g1.1.toNat om;have he:=kQ g1.1.toNat om;have hgs:(g1.2.set g1.1.toNat (g1.2.getD g1.1.toNat 0+1)).getD g1.1.toNat 0=s_.getD g1.1.toNat 0+1:=(by rw [Sp.iH,if_pos ⟨rfl,om⟩,he]);have hgo:∀j,j≠g1.1.toNat→(g1.2.set g1.1.toNat (g1.2.getD g1.1.toNat 0+1)).getD j 0=g1.2.getD j 0:=λ j hj=>(by rw [Sp.iH,if_neg (λ e=>hj e.1)])
   refine wm<|wn ?_;unfold G5;refine wm<|wi ?_ ?_<;>intro c2
   ·rw [hgs] at c2;refine au ?_;(intro _; exact amS h2 (k:=g1.1.toNat) om (by simpa using bQ) (λ j hj=>by rw [hgo j om]; exact kQ j om) hgs (λ j h1 h2=>by rw [hgo j om]; exact Oe j om h2) c2)
   ·rw [hgs] at c2;refine wm<|cZ _ ?_ ?_
    ·(refine ⟨ob,ob,by simpa using bQ,λ j hj=>?_,λ j h1 h2=>?_⟩; (dsimp only at hj ⊢; rw [Sp.iH,if_neg om,hgo j om]; exact kQ j om); (dsimp only at h1 ⊢; rw [Sp.iH]; by_cases q:j=g1.1.toNat; (rw [if_pos ⟨q,by rw [List.length_set]; omega⟩,q]; omega); (rw [if_neg (λ e=>q e.1),hgo j q]; exact Oe j om h2)))
    ·exact ob
  ·exact au (nofun)
 ·(refine ⟨ob,ob,by simpa using hsl,λ j _=>rfl,λ j h1 h2=>by dsimp only at h1; omega⟩)
theorem aeO (h1:eG l_=0) (h2:m_.length≤2000000) (h3:∀x∈m_,0≤x.eU∧x.eU<l_.length):W (Py l_ m_) (λ r=>∀s∈r,kg l_ s=true∧OE l_ s m_=true):=by
 have hf:=qy h1;have hsz:=size_le hf;have hlen:=hf.len;have hcb:∀i,i<l_.length→(l_.getD i aI).aK.length≤2000000:=λ i hi=>by have:=hf.big i hi; omega
 unfold Py;refine wn<|bM (λ (g1:(List Int×Bool×(List (List Int))))=>(g1.2.1=true→VS l_ g1.1∧g1.2.2.length≤gJ l_ g1.1)∧(∀s∈g1.2.2,kg l_ s=true∧OE l_ s m_=true)) (λ (g1:(List Int×Bool×(List (List Int))))=>bif g1.2.1 then gW l_ - gJ l_ g1.1+1 else 0) ?_ ?_
 ·intro ah g1 eX cZ;obtain ⟨dX,bN⟩:=eX;unfold TB;refine bW ?_ ?_<;>intro c1
  ·have fV:=c1;have c1:=fq c1;obtain ⟨hvs,hln⟩:=dX fV;have hset:=Ug hvs;have hpl:=Hg hvs;unfold J6;refine aG (acS (PG hf hset) (akG hf hset) h2 h3) λ v9 hv9=>?_;subst v9;refine bW ?_ ?_<;>intro c2
   ·have ku:=c2;have c2:=fq c2;have hmem:∀s∈g1.2.2++[g1.1],kg l_ s=true∧OE l_ s m_=true:=λ s hs=>by rcases List.mem_append.1 hs with h | h; exact bN s h; (rw [List.mem_singleton] at h; rw [h]; exact ⟨hset,ku⟩)
    refine wn ?_;unfold yG;refine aG (Uh om hvs hcb) λ v8 DJ=>?_;refine cZ _ ?_ ?_
    ·(refine ⟨λ e=>⟨(DJ e).1,by have:=(DJ e).2; simp only [List.length_append,List.length_singleton]; omega⟩,hmem⟩)
    ·(dsimp only; rw [fV]; cases e:v8.2 with | true=>(have:=(DJ e).2; have:=Hg (DJ e).1; simp only [cond_true]; omega) | false=>(simp only [cond_true,cond_false]; omega))
   ·have ku:=c2;have c2:=fq c2;unfold yG;refine aG (Uh om hvs hcb) λ v8 DJ=>?_;refine cZ _ ?_ ?_
    ·(refine ⟨λ e=>⟨(DJ e).1,by have:=(DJ e).2; dsimp only; omega⟩,bN⟩)
    ·(dsimp only; rw [fV]; cases e:v8.2 with | true=>(have:=(DJ e).2; have:=Hg (DJ e).1; simp only [cond_true]; omega) | false=>(simp only [cond_true,cond_false]; omega))
  ·have fV:=c1;have c1:=fq c1;exact au (bN)
 ·(refine ⟨λ _=>⟨amT hf,Nat.zero_le _⟩,nofun⟩)
theorem Rx (h1:l_.length≤2000000) (h2:m_.length≤2000000):W (Bb l_ m_) (λ r=>r.2=0→kg l_ r.1=true∧OE l_ r.1 m_=true∧nK l_ m_=true):=by
 unfold Bb;refine aG (aaH ob ob) λ v1 hv1=>?_;subst v1;refine bW ?_ ?_<;>intro c1
 ·have fV:=c1;have c1:=fq c1;refine au ?_;(intro e; exact absurd e c1)
 ·have fV:=c1;have c1:=fq c1;obtain ⟨b1,b2⟩:=aiC fV;refine aG (aeO b1 h2 (amU b2)) λ v2 hv2=>?_;refine wi ?_ ?_<;>intro c2
  ·exact au<|ob
  ·refine wn<|au ?_;(intro _; have q:=hv2 _ (getD_in (i:=0) [] om); exact ⟨q.1,q.2,b2⟩)
end Go.Proofs.YtifekdmmpbcdgaaGreatDoor
namespace Go.Proofs.YtifekdmmpbcdgaaGreatDoor
open Go.Ab
set_option maxRecDepth 100000
variable {α:Type} {i:Nat}
theorem Hl {β:Type} (f:α→β) (l:List α) (d:α) (h:i<l.length):(l.take (i+1)).map f=(l.take i).map f++[f (l.getD i d)]:=by
 rw [List.take_add_one,List.map_append,List.getElem?_eq_getElem h,List.getD_eq_getElem?_getD,List.getElem?_eq_getElem h];rfl
structure Zx (s:ByteArray):Prop where
 sz:0<s.size∧s.size≤16
 b0:97≤gQ s 0∧gQ s 0≤122
 bs:∀j:Nat,(j:Int)<s.size→gQ s j=45∨(48≤gQ s j∧gQ s j≤57)∨(97≤gQ s j∧gQ s j≤122)
structure GpV (n:Int) (g:cB):Prop where
 ok:aqX n g
 nw:Zx g.xD
 so:∀k:Nat,1≤k→(k:Int)<g.bZ.length→g.bZ.getD (k - 1) 0<g.bZ.getD k 0
 fw:∀j:Nat,(j:Int)<g.ak.length→Zx (g.ak.getD j ByteArray.empty)
 fd:∀k j:Nat,j<k→(k:Int)<g.ak.length→(g.ak.getD j ByteArray.empty).toList≠(g.ak.getD k ByteArray.empty).toList
structure aiD (p:bP):Prop where
 ok:anL p
 gr:∀i:Nat,(i:Int)<p.aH.length→GpV p.bZ (p.aH.getD i aJ)
 nm:∀i k:Nat,k<i→(i:Int)<p.aH.length→(p.aH.getD k aJ).xD.toList≠(p.aH.getD i aJ).xD.toList
def amV (l:List Int):Prop:=∀i j:Nat,i<j→(j:Int)<l.length→l.getD i 0<l.getD j 0
theorem apl {l:List Int} (h:∀k:Nat,1≤k→(k:Int)<l.length→l.getD (k - 1) 0<l.getD k 0):amV l:=by
 intro i j hij;induction j with
 | zero=>omega
 | succ j ih=>
  intro hj;have h1:=h (j+1) om hj;rw [Nat.add_sub_cancel] at h1;by_cases e:i=j
  ·rw [e]; exact h1
  ·have:=ih om om; omega
def amW (p:bP) (x y:Int):Prop:=∀i j:Nat,(i:Int)<(p.aH.getD x.toNat aJ).bZ.length→(j:Int)<(p.aH.getD y.toNat aJ).bZ.length→(p.aH.getD x.toNat aJ).bZ.getD i 0≠(p.aH.getD y.toNat aJ).bZ.getD j 0
def amX (p:bP) (x:Int) (f:ByteArray):Prop:=∃k:Nat,(k:Int)<(p.aH.getD x.toNat aJ).ak.length∧((p.aH.getD x.toNat aJ).ak.getD k ByteArray.empty).toList=f.toList
structure acT (p:bP) (l:List ByteArray) (gs:List Int):Prop where
 ir:∀x∈gs,0≤x∧x<p.aH.length
 off:∀k:Nat,(k:Int)<gs.length→amX p (gs.getD k 0) (l.getD k ByteArray.empty)
 dj:∀k j:Nat,j<k→(k:Int)<gs.length→amW p (gs.getD j 0) (gs.getD k 0)
variable {j:Nat}
theorem amY {l:List Bool} {b:Bool} (h:i≠j):(l.set j b).getD i false=l.getD i false:=by
 rw [List.getD_eq_getElem?_getD,List.getElem?_set_ne (Ne.symm h),← List.getD_eq_getElem?_getD]
theorem amZ {l:List Bool} {b:Bool} (hj:j<l.length):(l.set j b).getD j false=b:=by
 rw [List.getD_eq_getElem?_getD,List.getElem?_set_self hj]; rfl
variable {p:bP}
theorem Ui (h:aiD p) {x:Int} (h0:0≤x) (h1:x<p.aH.length):amV (p.aH.getD x.toNat aJ).bZ:=apl λ k h2 h3=>(h.gr x.toNat om).so k h2 h3
theorem OG {g_:cB} {iq:ByteArray} (h1:g_.ak.length≤2000000):W (IZ g_ iq) (λ r => -1≤r∧r<g_.ak.length∧(0≤r→(g_.ak.getD r.toNat ByteArray.empty).toList=iq.toList)∧(r<0→∀k:Nat,(k:Int)<g_.ak.length→(g_.ak.getD k ByteArray.empty).toList≠iq.toList)):=by
 unfold IZ;refine bM (λ (g1:Int)=>0≤g1∧(∀k:Nat,(k:Int)<g1→(g_.ak.getD k ByteArray.empty).toList≠iq.toList)) (λ (g1:Int)=>(g_.ak.length - g1).toNat) ?_ ?_
 ·intro ah g1 eX cZ;obtain ⟨dX,bN⟩:=eX;unfold WX;refine wi ?_ ?_<;>intro c1
  ·refine wn<|bW ?_ ?_<;>intro c2
   ·have ku:=c2;have c2:=fq c2;refine au ?_;(refine ⟨om,om,λ _=>by simpa using ku,λ h=>by omega⟩)
   ·have ku:=c2;have c2:=fq c2;refine wn<|cZ _ ?_ ?_
    ·(refine ⟨ob,eO bN dX (by simpa using ku)⟩)
    ·exact ob
  ·refine au ?_;(refine ⟨om,om,λ h=>by omega,λ _ k hk=>bN k om⟩)
 ·(refine ⟨ob,λ j hj=>by (try dsimp only at hj); omega⟩)
theorem Zy {a_:List Int} {b_:List Int} (h1:a_.length≤2000000) (h2:b_.length≤2000000) (h3:amV a_) (h4:amV b_):W (F8 a_ b_) (λ r=>r=false→∀i j:Nat,(i:Int)<a_.length→(j:Int)<b_.length→a_.getD i 0≠b_.getD j 0):=by
 unfold F8;refine bM (λ (g1:Int×Int)=>0≤g1.1∧0≤g1.2∧(∀i j:Nat,(i:Int)<a_.length→(j:Int)<b_.length→((i:Int)<g1.1∨(j:Int)<g1.2)→a_.getD i 0≠b_.getD j 0)) (λ (g1:Int×Int)=>(a_.length - g1.1).toNat+(b_.length - g1.2).toNat) ?_ ?_
 ·intro ah g1 eX cZ;obtain ⟨dX,bN,bQ⟩:=eX;unfold Oa;refine bW ?_ ?_<;>intro c1
  ·have fV:=c1;have c1:=fq c1;refine wm<|wi ?_ ?_<;>intro c2
   ·exact au<|ob
   ·refine wm<|wi ?_ ?_<;>intro c3
    ·refine wn<|cZ _ ?_ ?_
     ·(refine ⟨ob,ob,λ i j hi hj hc=>?_⟩; by_cases q:(i:Int)<g1.1∨(j:Int)<g1.2; (exact bQ i j hi hj q); (have e:i=g1.1.toNat:=by (try dsimp only at hc); omega); subst e; by_cases e2:j=g1.2.toNat; (subst e2; omega); (have:=h4 g1.2.toNat j om hj); omega)
     ·exact ob
    ·refine wn<|cZ _ ?_ ?_
     ·(refine ⟨ob,ob,λ i j hi hj hc=>?_⟩; by_cases q:(i:Int)<g1.1∨(j:Int)<g1.2; (exact bQ i j hi hj q); (have e:j=g1.2.toNat:=by (try dsimp only at hc); omega); subst e; by_cases e2:i=g1.1.toNat; (subst e2; omega); (have:=h3 g1.1.toNat i om hi); omega)
     ·exact ob
  ·have fV:=c1;have c1:=fq c1;refine au ?_;(intro _ i j hi hj; refine bQ i j hi hj ?_; simp only [Bool.and_eq_false_iff,decide_eq_false_iff_not] at fV; omega)
 ·(refine ⟨ob,ob,λ i j h1 h2 h3=>by (try dsimp only at h3); omega⟩)
variable {p_:bP}
theorem Ry {fB:List Int} {g_:Int} (h1:∀g∈p_.aH,g.bZ.length≤2000000∧g.ak.length≤2000000) (h2:fB.length≤2000000) (h3:∀x∈fB,0≤x∧x<p_.aH.length) (h4:0≤g_) (h5:g_<p_.aH.length) (h6:aiD p_):W (EA p_ fB g_) (λ r=>r=true→∀j:Nat,(j:Int)<fB.length→amW p_ (fB.getD j 0) g_):=by
 have hgl:=h1 _ (getD_in (i:=g_.toNat) aJ om);unfold EA;refine bM (λ (g1:Int)=>0≤g1∧(∀j:Nat,(j:Int)<g1→amW p_ (fB.getD j 0) g_)) (λ (g1:Int)=>(fB.length - g1).toNat) ?_ ?_
 ·intro ah g1 eX cZ;obtain ⟨dX,bN⟩:=eX;unfold Rm;refine wi ?_ ?_<;>intro c1
  ·have hx:=h3 _ (getD_in (i:=g1.toNat) 0 om);have hgx:=h1 _ (getD_in (i:=(fB.getD g1.toNat 0).toNat) aJ om);refine wm<|wm ?_;refine aG (xR λ hc=>Zy om om (Ui h6 hx.1 hx.2) (Ui h6 h4 h5)) λ v3 hv3=>?_;refine bW ?_ ?_<;>intro c2
   ·have ku:=c2;have c2:=fq c2;exact au<|ob
   ·have ku:=c2;have c2:=fq c2;refine wn<|cZ _ ?_ ?_
    ·(refine ⟨ob,eO bN dX ?_⟩; rw [decide_eq_true hx.1,Bool.true_and] at ku; exact hv3 (decide_eq_true hx.1) ku)
    ·exact ob
  ·refine au ?_;(intro _ j hj; exact bN j om)
 ·(refine ⟨ob,λ j hj=>by (try dsimp only at hj); omega⟩)
theorem XE {iq:ByteArray} (h1:∀g∈p_.aH,g.bZ.length≤2000000∧g.ak.length≤2000000) (h2:p_.aH.length≤2000000):W (Dk p_ iq) (λ r=>r.length≤p_.aH.length∧∀x∈r,(0≤x∧x<p_.aH.length)∧amX p_ x iq):=by
 unfold Dk;refine bM (λ (g1:Int×List Int)=>0≤g1.1∧g1.1≤p_.aH.length∧(g1.2.length:Int)≤g1.1∧(∀x∈g1.2,(0≤x∧x<p_.aH.length)∧amX p_ x iq)) (λ (g1:Int×List Int)=>(p_.aH.length - g1.1).toNat) ?_ ?_
 ·intro ah g1 eX cZ;obtain ⟨dX,bN,bQ,kQ⟩:=eX;unfold LD;refine wi ?_ ?_<;>intro c1
  ·have hgl:=h1 _ (getD_in (i:=g1.1.toNat) aJ om);refine wn<|aG (OG ob) λ v3 hv3=>?_;obtain ⟨aha,ael,aem,anF⟩:=hv3;refine wi ?_ ?_<;>intro c2
   ·refine wm<|cZ _ ?_ ?_
    ·(refine ⟨ob,ob,ob,λ x hx=>?_⟩; rcases List.mem_append.1 hx with hx | hx; (exact kQ x hx); rw [List.mem_singleton] at hx; subst hx; exact ⟨om,v3.toNat,om,aem om⟩)
    ·exact ob
   ·refine wn<|cZ _ ?_ ?_
    ·exact ob
    ·exact ob
  ·refine au ?_;(refine ⟨om,kQ⟩)
 ·exact ob
variable {l:List ByteArray}
theorem ak5 {gs:List Int} {x:Int} (h:acT p l gs) (hx:0≤x∧x<p.aH.length) (ho:amX p x (l.getD gs.length ByteArray.empty)) (hd:∀j:Nat,(j:Int)<gs.length→amW p (gs.getD j 0) x):acT p l (gs++[x]):=by
 have e1:∀j:Nat,j<gs.length→(gs++[x]).getD j 0=gs.getD j 0:=λ j hj=>mG 0 hj;have e2:(gs++[x]).getD gs.length 0=x:=lM 0 rfl;refine ⟨λ y hy=>?_,λ k hk=>?_,λ k j hj hk=>?_⟩
 ·rcases List.mem_append.1 hy with hy | hy
  ·exact h.ir y hy
  ·rw [List.mem_singleton] at hy; rw [hy]; exact hx
 ·rw [List.length_append,List.length_singleton] at hk;by_cases q:k<gs.length
  ·rw [e1 k q]; exact h.off k om
  ·have:k=gs.length:=by omega
   subst this; rw [e2]; exact ho
 ·rw [List.length_append,List.length_singleton] at hk;by_cases q:k<gs.length
  ·rw [e1 k q,e1 j om]; exact h.dj k j hj om
  ·have:k=gs.length:=by omega
   subst this; rw [e2,e1 j om]; exact hd j om
theorem am0 (bs:ByteArray):∀(n i:Nat) (r:List UInt8),bs.size - i=n→ByteArray.toList.loop bs i r=r.reverse++bs.data.toList.drop i:=by
 intro n;induction n with
 | zero=>
  intro i r h;unfold ByteArray.toList.loop;rw [if_neg om,List.drop_eq_nil_of_le (by show bs.data.toList.length≤i; rw [Array.length_toList]; show bs.size≤i; omega),List.append_nil]
 | succ n ih=>
  intro i r h;unfold ByteArray.toList.loop;rw [if_pos om,ih (i+1) _ om,List.reverse_cons,List.append_assoc];have hi:i<bs.data.toList.length:=by rw [Array.length_toList]; show i<bs.size; omega
  rw [List.drop_eq_getElem_cons hi];congr 1;show bs.get! i::_=_;congr 1;unfold ByteArray.get!;rw [Array.getElem_toList];exact getElem!_pos bs.data i _
theorem ahh (b:ByteArray):b.toList=b.data.toList:=by
 unfold ByteArray.toList;rw [am0 b _ 0 [] rfl]; rfl
theorem VD {a b:ByteArray} (h:a.toList=b.toList):a=b:=by
 rw [ahh,ahh] at h;cases a; cases b;congr;exact Array.toList_inj.1 h
theorem aq1 {s:ByteArray} (h:0<s.size):(s.toList==({ data:=#[] }:ByteArray).toList)=false:=by
 rw [beq_eq_false_iff_ne];intro e;have:=VD e;rw [this] at h;exact absurd h (by decide)
theorem MR {X:Nat→α} {x:α}:upd X j x j=x:=aib X j x
theorem upd_ne {X:Nat→α} {x:α} (h:i≠j):upd X j x i=X i:=by
 unfold upd;cases e:Nat.beq i j with
 | true=>exact absurd (Nat.eq_of_beq_eq_true e) h
 | false=>rfl
def LQ (p:Prop) (c:Int) (A:Int→Prop) (r:Int):Prop:=(p∧r=c)∨(¬p∧A r)
variable {c:Int} {A:Int→Prop}
theorem eT {p:Prop} (h:p):LQ p c A c:=.inl ⟨h,rfl⟩
variable {r:Int}
theorem aM {p:Prop} (h:¬p) (a:A r):LQ p c A r:=.inr ⟨h,a⟩
def Thn (A B:Int→Prop) (r:Int):Prop:=(A r∧r≠0)∨(A 0∧B r)
def Fst (n:Nat) (E:Nat→Int→Prop) (r:Int):Prop:=(∃i:Nat,i<n∧(∀k:Nat,k<i→E k 0)∧E i r∧r≠0)∨((∀k:Nat,k<n→E k 0)∧r=0)
def EF (A:Int→Prop):Prop:=∀a b,A a→A b→a=b
theorem EF.zero:EF (λ r=>r=0):=λ _ _ h k=>h.trans k.symm
theorem EF.JC {p:Prop} (h:EF A):EF (LQ p c A):=by
 rintro a b (⟨h1,h2⟩ | ⟨h1,h2⟩) (⟨h3,h4⟩ | ⟨h3,h4⟩)
 ·rw [h2,h4]
 ·exact absurd h1 h3
 ·exact absurd h3 h1
 ·exact h _ _ h2 h4
variable {B:Int→Prop}
theorem EF.thn (h:EF A) (k:EF B):EF (Thn A B):=by
 rintro a b (⟨h1,h2⟩ | ⟨h1,h2⟩) (⟨h3,h4⟩ | ⟨h3,h4⟩)
 ·exact h _ _ h1 h3
 ·exact absurd (h _ _ h1 h3) h2
 ·exact absurd (h _ _ h3 h1) h4
 ·exact k _ _ h2 h4
variable {n:Nat} {E:Nat→Int→Prop}
theorem EF.fst (h:∀i,EF (E i)):EF (Fst n E):=by
 rintro a b (⟨i,h1,h2,h3,h4⟩ | ⟨h1,h2⟩) (⟨j,k1,k2,k3,k4⟩ | ⟨k1,k2⟩)
 ·rcases Nat.lt_trichotomy i j with q | q | q
  ·exact absurd (h _ _ _ h3 (k2 i q)) h4
  ·subst q; exact h _ _ _ h3 k3
  ·exact absurd (h _ _ _ k3 (h2 j q)) k4
 ·exact absurd (h _ _ _ h3 (k1 i h1)) h4
 ·exact absurd (h _ _ _ k3 (h1 j k1)) k4
 ·rw [h2,k2]
theorem Ho (h:A r) (hr:r≠0):Thn A B r:=.inl ⟨h,hr⟩
theorem lF (h:A 0) (k:B r):Thn A B r:=.inr ⟨h,k⟩
theorem Hq (hi:i<n) (h:∀k:Nat,(k:Int)<i→E k 0) (he:E i r) (hr:r≠0):Fst n E r:=.inl ⟨i,hi,λ k hk=>h k om,he,hr⟩
theorem PS (h:∀k:Nat,k<n→E k 0):Fst n E 0:=.inr ⟨h,rfl⟩
def ak6 (n:Int) (g:cB):Int→Prop:=
 LQ ((g.bZ.length:Int)=0∨(g.ak.length:Int)=0) 9<|
 LQ (8<(g.ak.length:Int)) 3<|
 LQ (∃j:Nat,(j:Int)<g.bZ.length∧¬(0≤g.bZ.getD j 0∧g.bZ.getD j 0<n)) 2<|
 LQ (∃j:Nat,1≤j∧(j:Int)<g.bZ.length∧g.bZ.getD j 0≤g.bZ.getD (j - 1) 0) 12<|
 LQ (∃j:Nat,(j:Int)<g.ak.length∧¬Zx (g.ak.getD j ByteArray.empty)) 1<|
 LQ (∃k j:Nat,j<k∧(k:Int)<g.ak.length∧(g.ak.getD j ByteArray.empty).toList=(g.ak.getD k ByteArray.empty).toList) 5<|
 λ r=>r=0
theorem ak6.fun {n:Int} {g:cB}:EF (ak6 n g):=.JC (.JC (.JC (.JC (.JC (.JC .zero)))))
def agl (p:bP) (i:Nat):Int→Prop:=
 LQ (¬Zx (p.aH.getD i aJ).xD) 1<|
 LQ (∃k:Nat,k<i∧(p.aH.getD k aJ).xD.toList=(p.aH.getD i aJ).xD.toList) 5<|
 ak6 p.bZ (p.aH.getD i aJ)
theorem agl.fun:EF (agl p i):=.JC (.JC ak6.fun)
def Hr (p:bP):Int→Prop:=
 LQ (p.bZ<0∨64<p.bZ) 2<|
 LQ (24<(p.aH.length:Int)) 3<|
 Fst p.aH.length (agl p)
theorem Hr.fun:EF (Hr p):=.JC (.JC (.fst λ _=>agl.fun))
theorem Ht {l:List Int} {g:Int} (h:∀j:Nat,(j:Int)<g→1≤j→l.getD (j - 1) 0<l.getD j 0) (hg:(l.length:Int)≤g):¬ ∃j:Nat,1≤j∧(j:Int)<l.length∧l.getD j 0≤l.getD (j - 1) 0:=λ ⟨j,h1,h2,h3⟩=>by
 have:=h j om h1;omega
theorem gL {P:Nat→Prop} {g:Int} (h:∀j:Nat,(j:Int)<g→P j) (hg:(n:Int)≤g):¬ ∃j:Nat,(j:Int)<n∧¬P j:=λ ⟨j,h1,h2⟩=>h2 (h j om)
theorem Km {s_:ByteArray}:W (DC s_) (λ r=>r=true↔Zx s_):=by
 unfold DC;refine aQ (by (intro hc; have:=Zu hc; omega)) ?_;refine aQ (by (intro hc; simp only [Bool.or_eq_false_iff] at hc; have:=Zu (s:=s_) (by simp only [Bool.or_eq_false_iff]; exact hc.1); omega)) ?_;refine bW ?_ ?_<;>intro c1
 ·have fV:=c1;have c1:=fq c1;refine au ?_;(constructor; (intro e; cases e); (rintro ⟨⟨a1,a2⟩,⟨a3,a4⟩,a5⟩; simp only [Bool.or_eq_true,decide_eq_true_eq] at fV; rcases fV with ((c | c) | c) | c; (rw [aq1 a1] at c; cases c); all_goals omega))
 ·have fV:=c1;have c1:=fq c1;have hsz:0<s_.size∧s_.size≤16:=air fV;refine bM (λ (g1:Int)=>1≤g1∧(∀j:Nat,(j:Int)<g1→1≤j→gQ s_ j=45∨(48≤gQ s_ j∧gQ s_ j≤57)∨(97≤gQ s_ j∧gQ s_ j≤122))) (λ (g1:Int)=>(s_.size - g1).toNat) ?_ ?_
  ·intro ah g1 eX cZ;obtain ⟨dX,bN⟩:=eX;unfold Tm;refine wi ?_ ?_<;>intro c2
   ·refine wn<|wi ?_ ?_<;>intro c3
    ·refine au ?_;(constructor; (intro e; cases e); (rintro ⟨_,_,a5⟩; have:=a5 g1.toNat om; omega))
    ·refine wn<|cZ _ ?_ ?_
     ·(refine ⟨ob,λ j h1 h2=>?_⟩; by_cases q:(j:Int)<g1; (exact bN j q h2); (have e:j=g1.toNat:=by omega); subst e; omega)
     ·exact ob
   ·refine au ?_;(constructor; (intro _; refine ⟨om,om,λ j hj=>?_⟩; by_cases q:j=0; (subst q; exact .inr (.inr ⟨om,om⟩)); exact bN j om om); (intro _; rfl))
  ·(refine ⟨ob,λ j h1 h2=>by omega⟩)
theorem Ao {s_:ByteArray}:W (wo s_) (λ r=>r=true↔Zx s_):=by
 unfold wo;refine aQ (by (intro hc; simp only [Bool.or_eq_false_iff,beq_eq_false_iff_ne] at hc; omega)) ?_;refine aQ (by (intro hc; simp only [Bool.or_eq_false_iff,beq_eq_false_iff_ne] at hc; omega)) ?_;refine bW ?_ ?_<;>intro c1
 ·have fV:=c1;have c1:=fq c1;refine au ?_;(constructor; (intro e; cases e); (rintro ⟨a1,a3,a5⟩; omega))
 ·have fV:=c1;have c1:=fq c1;have hsz:s_.size≤16:=(by simp only [Bool.or_eq_false_iff] at fV; have:=of_decide_eq_false fV.1.1.2; omega);refine bM (λ (g1:Int)=>0≤g1∧(∀j:Nat,(j:Int)<g1→gQ s_ j=45∨(48≤gQ s_ j∧gQ s_ j≤57)∨(97≤gQ s_ j∧gQ s_ j≤122))) (λ (g1:Int)=>(s_.size - g1).toNat) ?_ ?_
  ·intro ah g1 eX cZ;obtain ⟨dX,bN⟩:=eX;unfold Rb;refine wi ?_ ?_<;>intro c2
   ·refine wm<|wm ?_;refine wn<|wi ?_ ?_<;>intro c3
    ·refine au ?_;(constructor; (intro e; cases e); (rintro ⟨_,_,a5⟩; have:=a5 g1.toNat om; omega))
    ·refine wn<|cZ _ ?_ ?_
     ·(refine ⟨ob,eO bN dX om⟩)
     ·exact ob
   ·refine au ?_;(constructor; (intro _; exact ⟨om,om,λ j hj=>bN j om⟩); intro _; rfl)
  ·(refine ⟨ob,λ j hj=>by (try dsimp only at hj); omega⟩)
theorem Ko {s_:List ByteArray} {v_:ByteArray} (h1:s_.length≤2000000):W (slices_Index_string s_ v_) (λ r=>(0≤r↔∃j:Nat,(j:Int)<s_.length∧(s_.getD j ByteArray.empty).toList=v_.toList)):=by
 unfold slices_Index_string;refine bM (λ (g1:Int)=>0≤g1∧(∀j:Nat,(j:Int)<g1→(s_.getD j ByteArray.empty).toList≠v_.toList)) (λ (g1:Int)=>(s_.length - g1).toNat) ?_ ?_
 ·intro ah g1 eX cZ;obtain ⟨dX,bN⟩:=eX;unfold xU;refine wi ?_ ?_<;>intro c1
  ·refine wn<|wi ?_ ?_<;>intro c2
   ·refine au ?_;(constructor; (intro _; exact ⟨g1.toNat,om,c2.symm⟩); (intro _; omega))
   ·refine wn<|cZ _ ?_ ?_
    ·(refine ⟨ob,eO bN dX (λ e=>c2 e.symm)⟩)
    ·exact ob
  ·refine au ?_;(constructor; (intro e; omega); (rintro ⟨j,h1,h2⟩; exact absurd h2 (bN j om)))
 ·(refine ⟨ob,λ j hj=>by (try dsimp only at hj); omega⟩)
theorem E5 {s_:List ByteArray} {v_:ByteArray} (h1:s_.length≤2000000):W (slices_Contains_string s_ v_) (λ r=>r=true↔∃j:Nat,(j:Int)<s_.length∧(s_.getD j ByteArray.empty).toList=v_.toList):=by
 unfold slices_Contains_string;refine aG (Ko ob) λ v1 hv1=>?_;refine au ?_;(rw [← hv1]; simp)
theorem aaJ {M0:Int} {g_:cB} (h1:g_.bZ.length≤2000000) (h2:g_.ak.length≤2000000):W (JV M0 g_) (λ r=>ak6 M0 g_ r):=by
 unfold JV;refine wi ?_ ?_<;>intro c1
 ·exact au<|eT c1
 ·refine wi ?_ ?_<;>intro c2
  ·exact au<|aM om (eT c2)
  ·refine bM (λ (g1:Int)=>0≤g1∧(∀j:Nat,(j:Int)<g1→0≤g_.bZ.getD j 0∧g_.bZ.getD j 0<M0)) (λ (g1:Int)=>(g_.bZ.length - g1).toNat) ?_ ?_
   ·intro ah g1 eX cZ;obtain ⟨dX,bN⟩:=eX;unfold QT;refine wi ?_ ?_<;>intro c3
    ·refine wn<|wi ?_ ?_<;>intro c4
     ·exact au<|aM om (aM om (eT ⟨g1.toNat,om,om⟩))
     ·refine wn<|cZ _ ?_ ?_
      ·(refine ⟨ob,eO bN dX om⟩)
      ·exact ob
    ·refine bM (λ (g2:Int)=>1≤g2∧(∀j:Nat,(j:Int)<g2→1≤j→g_.bZ.getD (j - 1) 0<g_.bZ.getD j 0)) (λ (g2:Int)=>(g_.bZ.length - g2).toNat) ?_ ?_
     ·intro dY g2 mU qZ;obtain ⟨sj,jG⟩:=mU;unfold MZ;refine wi ?_ ?_<;>intro c5
      ·refine wm<|wn ?_;refine wi ?_ ?_<;>intro c6
       ·exact au<|aM om (aM om (aM (gL bN om) (eT ⟨g2.toNat,om,om,by rw [show g2.toNat - 1=(g2 - 1).toNat by omega]; omega⟩)))
       ·refine wn<|qZ _ ?_ ?_
        ·(refine ⟨ob,λ j h1 h2=>?_⟩; by_cases q:(j:Int)<g2; (exact jG j q h2); (have e:j=g2.toNat:=by omega); subst e; rw [show g2.toNat - 1=(g2 - 1).toNat by omega]; omega)
        ·exact ob
      ·refine bM (λ (g3:Int)=>0≤g3∧(∀j:Nat,(j:Int)<g3→Zx (g_.ak.getD j ByteArray.empty))) (λ (g3:Int)=>(g_.ak.length - g3).toNat) ?_ ?_
       ·intro qJ g3 acU acV;obtain ⟨Xh,ru⟩:=acU;unfold MX;refine wi ?_ ?_<;>intro c7
        ·refine wn<|aG (Km) λ v3 hv3=>?_;refine bW ?_ ?_<;>intro c8
         ·have c8o:=c8;have c8:=fq c8;exact au<|aM om (aM om (aM (gL bN om) (aM (Ht jG om) (eT ⟨g3.toNat,om,λ h=>by simp [hv3.2 h] at c8o⟩))))
         ·have c8o:=c8;have c8:=fq c8;refine wn<|acV _ ?_ ?_
          ·(refine ⟨ob,eO ru Xh (hv3.1 (by simpa using c8o))⟩)
          ·exact ob
        ·refine bM (λ (g4:Int)=>0≤g4∧(∀k:Nat,(k:Int)<g4→∀j:Nat,j<k→(g_.ak.getD j ByteArray.empty).toList≠(g_.ak.getD k ByteArray.empty).toList)) (λ (g4:Int)=>(g_.ak.length - g4).toNat) ?_ ?_
         ·intro iN g4 Kl Jd;obtain ⟨Gh,mD⟩:=Kl;unfold MW;refine wi ?_ ?_<;>intro c9
          ·refine wm<|aG (E5 ob) λ v6 hv6=>?_;refine bW ?_ ?_<;>intro c10
           ·have aiy:=c10;have c10:=fq c10;exact au (aM om (aM om (aM (gL bN om) (aM (Ht jG om) (aM (gL ru om) (eT (by obtain ⟨j,h1,h2⟩:=hv6.1 c10; rw [List.length_take] at h1; rw [abt _ _ _ _ om] at h2; exact ⟨g4.toNat,j,om,om,h2⟩)))))))
           ·have aiy:=c10;have c10:=fq c10;refine wn<|Jd _ ?_ ?_
            ·(refine ⟨ob,λ k hk j hj=>?_⟩; by_cases q:(k:Int)<g4; (exact mD k q j hj); (have e:k=g4.toNat:=by omega); subst e; intro e2; have:=hv6.2 ⟨j,by rw [List.length_take]; omega,by rw [abt _ _ _ _ om]; exact e2⟩; simp [this] at aiy)
            ·exact ob
          ·exact au (aM om (aM om (aM (gL bN om) (aM (Ht jG om) (aM (gL ru om) (aM (λ ⟨k,j,h1,h2,h3⟩=>mD k om j h1 h3) rfl))))))
         ·(refine ⟨ob,λ j h1 h2=>by omega⟩)
       ·(refine ⟨ob,λ j hj=>by (try dsimp only at hj); omega⟩)
     ·(refine ⟨ob,λ j h1 h2=>by omega⟩)
   ·(refine ⟨ob,λ j hj=>by (try dsimp only at hj); omega⟩)
theorem Zz {i_:Int} (h1:0≤i_) (h2:i_<p_.aH.length) (h3:p_.aH.length≤2000000) (h4:∀g∈p_.aH,g.bZ.length≤2000000∧g.ak.length≤2000000):W (FT p_ i_) (λ r=>agl p_ i_.toNat r):=by
 have hgl:=h4 _ (getD_in (i:=i_.toNat) aJ om);unfold FT;refine wn<|aG (Ao) λ v1 hv1=>?_;refine bW ?_ ?_<;>intro c1
 ·have fV:=c1;have c1:=fq c1;exact au<|eT (λ h=>by simp [hv1.2 h] at fV)
 ·have fV:=c1;have c1:=fq c1;refine bM (λ (g1:Int)=>0≤g1∧(∀k:Nat,(k:Int)<g1→(p_.aH.getD k aJ).xD.toList≠(p_.aH.getD i_.toNat aJ).xD.toList)) (λ (g1:Int)=>(i_ - g1).toNat) ?_ ?_
  ·intro ah g1 eX cZ;obtain ⟨dX,bN⟩:=eX;unfold NA;refine wi ?_ ?_<;>intro c2
   ·refine wn<|wi ?_ ?_<;>intro c3
    ·exact au (aM (λ h=>h (hv1.1 (by simpa using fV))) (eT ⟨g1.toNat,om,c3⟩))
    ·refine wn<|cZ _ ?_ ?_
     ·(refine ⟨ob,eO bN dX c3⟩)
     ·exact ob
   ·refine wi ?_ ?_<;>intro c4
    ·exact au (aM (λ h=>h (hv1.1 (by simpa using fV))) (aM (λ ⟨k,h1,h2⟩=>bN k om h2) (eT c4)))
    ·refine wi ?_ ?_<;>intro c5
     ·exact au (aM (λ h=>h (hv1.1 (by simpa using fV))) (aM (λ ⟨k,h1,h2⟩=>bN k om h2) (aM om (eT c5))))
     ·refine bM (λ (g2:Int)=>0≤g2∧(∀j:Nat,(j:Int)<g2→0≤(p_.aH.getD i_.toNat aJ).bZ.getD j 0∧(p_.aH.getD i_.toNat aJ).bZ.getD j 0<p_.bZ)) (λ (g2:Int)=>((p_.aH.getD i_.toNat aJ).bZ.length - g2).toNat) ?_ ?_
      ·intro dY g2 mU qZ;obtain ⟨sj,jG⟩:=mU;unfold Lf;refine wi ?_ ?_<;>intro c6
       ·refine wm<|wi ?_ ?_<;>intro c7
        ·exact au<|aM (λ h=>h (hv1.1 (by simpa using fV))) (aM (λ ⟨k,h1,h2⟩=>bN k om h2) (aM om (aM om (eT ⟨g2.toNat,om,om⟩))))
        ·refine wn<|qZ _ ?_ ?_
         ·(refine ⟨ob,eO jG sj om⟩)
         ·exact ob
       ·refine bM (λ (g3:Int)=>1≤g3∧(∀j:Nat,(j:Int)<g3→1≤j→(p_.aH.getD i_.toNat aJ).bZ.getD (j - 1) 0<(p_.aH.getD i_.toNat aJ).bZ.getD j 0)) (λ (g3:Int)=>((p_.aH.getD i_.toNat aJ).bZ.length - g3).toNat) ?_ ?_
        ·intro qJ g3 acU acV;obtain ⟨Xh,ru⟩:=acU;unfold Ld;refine wi ?_ ?_<;>intro c8
         ·refine wm<|wn ?_;refine wi ?_ ?_<;>intro c9
          ·exact au<|aM (λ h=>h (hv1.1 (by simpa using fV))) (aM (λ ⟨k,h1,h2⟩=>bN k om h2) (aM om (aM om (aM (gL jG om) (eT ⟨g3.toNat,om,om,by rw [show g3.toNat - 1=(g3 - 1).toNat by omega]; omega⟩)))))
          ·refine wn<|acV _ ?_ ?_
           ·(refine ⟨ob,λ j h1 h2=>?_⟩; by_cases q:(j:Int)<g3; (exact ru j q h2); (have e:j=g3.toNat:=by omega); subst e; rw [show g3.toNat - 1=(g3 - 1).toNat by omega]; omega)
           ·exact ob
         ·refine bM (λ (g4:Int)=>0≤g4∧(∀j:Nat,(j:Int)<g4→Zx ((p_.aH.getD i_.toNat aJ).ak.getD j ByteArray.empty))) (λ (g4:Int)=>((p_.aH.getD i_.toNat aJ).ak.length - g4).toNat) ?_ ?_
          ·intro iN g4 Kl Jd;obtain ⟨Gh,mD⟩:=Kl;unfold Lc;refine wi ?_ ?_<;>intro c10
           ·refine wn<|aG (Ao) λ v4 hv4=>?_;refine bW ?_ ?_<;>intro c11
            ·have apn:=c11;have c11:=fq c11;exact au<|aM (λ h=>h (hv1.1 (by simpa using fV))) (aM (λ ⟨k,h1,h2⟩=>bN k om h2) (aM om (aM om (aM (gL jG om) (aM (Ht ru om) (eT ⟨g4.toNat,om,λ h=>by simp [hv4.2 h] at apn⟩))))))
            ·have apn:=c11;have c11:=fq c11;refine wn<|Jd _ ?_ ?_
             ·(refine ⟨ob,eO mD Gh (hv4.1 (by simpa using apn))⟩)
             ·exact ob
           ·refine bM (λ (g5:Int)=>0≤g5∧(∀k:Nat,(k:Int)<g5→∀j:Nat,j<k→((p_.aH.getD i_.toNat aJ).ak.getD j ByteArray.empty).toList≠((p_.aH.getD i_.toNat aJ).ak.getD k ByteArray.empty).toList)) (λ (g5:Int)=>((p_.aH.getD i_.toNat aJ).ak.length - g5).toNat) ?_ ?_
            ·intro nC g5 VA VB;obtain ⟨Rt,Gg⟩:=VA;unfold Lb;refine wi ?_ ?_<;>intro c12
             ·refine bM (λ (g8:Int)=>0≤g8∧(∀j:Nat,(j:Int)<g8→((p_.aH.getD i_.toNat aJ).ak.getD j ByteArray.empty).toList≠((p_.aH.getD i_.toNat aJ).ak.getD g5.toNat ByteArray.empty).toList)) (λ (g8:Int)=>(g5 - g8).toNat) ?_ ?_
              ·intro Zh g8 apo apq;obtain ⟨anM,ak7⟩:=apo;unfold La;refine wi ?_ ?_<;>intro c13
               ·refine wm<|wi ?_ ?_<;>intro c14
                ·exact au (aM (λ h=>h (hv1.1 (by simpa using fV))) (aM (λ ⟨k,h1,h2⟩=>bN k om h2) (aM om (aM om (aM (gL jG om) (aM (Ht ru om) (aM (gL mD om) (eT ⟨g5.toNat,g8.toNat,om,om,c14⟩))))))))
                ·refine wn<|apq _ ?_ ?_
                 ·(refine ⟨ob,eO ak7 anM c14⟩)
                 ·exact ob
               ·refine wn<|VB _ ?_ ?_
                ·(refine ⟨ob,λ k hk j hj=>?_⟩; by_cases q:(k:Int)<g5; (exact Gg k q j hj); (have e:k=g5.toNat:=by omega); subst e; exact ak7 j om)
                ·exact ob
              ·(refine ⟨ob,λ j hj=>by (try dsimp only at hj); omega⟩)
             ·exact au (aM (λ h=>h (hv1.1 (by simpa using fV))) (aM (λ ⟨k,h1,h2⟩=>bN k om h2) (aM om (aM om (aM (gL jG om) (aM (Ht ru om) (aM (gL mD om) (aM (λ ⟨k,j,h1,h2,h3⟩=>Gg k om j h1 h3) rfl))))))))
            ·(refine ⟨ob,λ j h1 h2=>by omega⟩)
          ·(refine ⟨ob,λ j hj=>by (try dsimp only at hj); omega⟩)
        ·(refine ⟨ob,λ j h1 h2=>by omega⟩)
      ·(refine ⟨ob,λ j hj=>by (try dsimp only at hj); omega⟩)
  ·(refine ⟨ob,λ j hj=>by (try dsimp only at hj); omega⟩)
theorem Rz {l:List Int} {x:Int} (hn:n≤l.length):(l.take n).contains x=true↔∃k:Nat,k<n∧l.getD k 0=x:=by
 rw [List.contains_iff_mem,List.mem_take_iff_getElem];constructor
 ·rintro ⟨i,hi,e⟩;exact ⟨i,om,by rw [List.getD_eq_getElem?_getD,List.getElem?_eq_getElem om]; exact e⟩
 ·rintro ⟨k,hk,e⟩;rw [List.getD_eq_getElem?_getD,List.getElem?_eq_getElem om] at e;exact ⟨k,om,e⟩
def RsE (l:List eF) (i:Nat):Int→Prop:=
 LQ (∃j:Nat,(j:Int)<((l.getD i dZ).fF).length∧¬(0≤((l.getD i dZ).fF).getD j 0∧((l.getD i dZ).fF).getD j 0<(i:Int))) 2<|
 LQ (∃j:Nat,1≤j∧(j:Int)<((l.getD i dZ).fF).length∧((l.getD i dZ).fF).getD j 0≤((l.getD i dZ).fF).getD (j - 1) 0) 12<|
 λ r=>r=0
def RsA (l:List eF):Int→Prop:=LQ (32<(l.length:Int)) 3<|Fst l.length (RsE l)
theorem RsA.fun {l:List eF}:EF (RsA l):=.JC (.fst λ _=>.JC (.JC .zero))
theorem vB {p:Prop} (hc:c≠0) (h:LQ p c A 0):¬p∧A 0:=by
 rcases h with ⟨_,h⟩ | h
 ·exact absurd h.symm hc
 ·exact h
theorem ak8 (h:Fst n E 0):∀k,k<n→E k 0:=by
 rcases h with ⟨_,_,_,_,h⟩ | h
 ·exact absurd rfl h
 ·exact h.1
theorem RsA.ok {l:List eF} (h:RsA l 0):amJ l:=by
 obtain ⟨h1,h2⟩:=vB (by decide) h;refine ⟨om,λ i hi=>oQ 0 λ j hj=>?_⟩;obtain ⟨h3,_⟩:=vB (by decide) (ak8 h2 i hi);by_cases q:0≤((l.getD i dZ).fF).getD j 0∧((l.getD i dZ).fF).getD j 0<(i:Int)
 ·exact q
 ·exact absurd ⟨j,om,q⟩ h3
def ak9 (l:List eF) (s:List Bool):Prop:=(s.length:Int)=l.length∧∀i:Nat,(i:Int)<l.length→∀j:Nat,(j:Int)<((l.getD i dZ).fF).length→s.getD i false=true→s.getD (((l.getD i dZ).fF).getD j 0).toNat false=true
def DmA (l:List dO):Int→Prop:=LQ (16<(l.length:Int)) 3<|LQ (∃i:Nat,(i:Int)<l.length∧¬(-1≤(l.getD i fH).bf∧(l.getD i fH).bf<(i:Int))) 2<|λ r=>r=0
theorem DmA.fun {l:List dO}:EF (DmA l):=.JC (.JC .zero)
theorem DmA.ok {l:List dO} (h:DmA l 0):akR l:=by
 obtain ⟨h1,h2⟩:=vB (by decide) h;obtain ⟨h3,_⟩:=vB (by decide) h2;refine ⟨om,λ i hi=>?_⟩;by_cases q : -1≤(l.getD i fH).bf∧(l.getD i fH).bf<(i:Int)
 ·exact q
 ·exact absurd ⟨i,om,q⟩ h3
def DgP (l:List dO) (s:List Bool) (i:Nat):Prop:=((l.getD i fH).iy=true→s.getD i false=true)∧(s.getD i false=true→0≤(l.getD i fH).bf→s.getD (l.getD i fH).bf.toNat false=true)
def RgP (l:List dO) (s:List Bool):Prop:=(s.length:Int)=l.length∧∀i:Nat,(i:Int)<l.length→DgP l s i
def VE (l:List aS) (m:List Int):Prop:=∀i:Nat,(i:Int)<m.length→(0≤m.getD i 0∧m.getD i 0<l.length)∧∀k:Nat,k<i→m.getD k 0≠m.getD i 0
def aiE (b:aY) (l:List aS) (g:aR):Prop:=((g.Setting.length:Int)=b.bS.length∧(g.bX.On.length:Int)=b.bI.length∧(g.bX.bJ.length:Int)=b.bI.length∧(g.Released.length:Int)=b.bA.length∧(g.cO.length:Int)=b.dD.length)∧
 (∀i:Nat,(i:Int)<g.Setting.length→0≤g.Setting.getD i 0∧g.Setting.getD i 0<(b.bS.getD i aI).aK.length)∧∀i:Nat,(i:Int)<g.Uses.length → -1≤(g.Uses.getD i bF).gG∧(g.Uses.getD i bF).gG<l.length
theorem RA (h1:∀g∈p_.aH,g.bZ.length≤2000000∧g.ak.length≤2000000):W (DX p_) (λ r=>Hr p_ r):=by
 unfold DX;refine wi ?_ ?_<;>intro c1
 ·exact au<|eT c1
 ·refine wi ?_ ?_<;>intro c2
  ·exact au<|aM om (eT c2)
  ·refine bM (λ (g1:(Int×(dR→Option Int)))=>0≤g1.1∧(∀j:Nat,(j:Int)<g1.1→agl p_ j 0)∧(∀s:ByteArray,jU g1.2 (.s s)≠0↔∃k:Nat,(k:Int)<g1.1∧(p_.aH.getD k aJ).xD=s)) (λ (g1:(Int×(dR→Option Int)))=>(p_.aH.length - g1.1).toNat) ?_ ?_
   ·intro ah g1 eX cZ;obtain ⟨dX,bN,bQ⟩:=eX;unfold QU;refine wi ?_ ?_<;>intro c3
    ·have hgl:=h1 _ (getD_in (i:=g1.1.toNat) aJ om);refine wn<|aG (Km) λ v5 hv5=>?_;refine bW ?_ ?_<;>intro c4
     ·have vw:=c4;have c4:=fq c4;exact au (aM om (aM om (Hq (i:=g1.1.toNat) om (λ k hk=>bN k om) (eT (λ h=>by simp [hv5.2 h] at vw)) (by decide))))
     ·have vw:=c4;have c4:=fq c4;refine wi ?_ ?_<;>intro c5
      ·exact au (aM om (aM om (Hq (i:=g1.1.toNat) om (λ k hk=>bN k om) (aM (λ h=>h (hv5.1 (by simpa using vw))) (eT (by obtain ⟨k,h1,h2⟩:=(bQ _).1 c5; exact ⟨k,om,by rw [h2]⟩))) (by decide))))
      ·refine aG (aaJ hgl.1 hgl.2) λ v6 hv6=>?_;refine bW ?_ ?_<;>intro c6
       ·have c6o:=c6;have c6:=fq c6;exact au (aM om (aM om (Hq (i:=g1.1.toNat) om (λ k hk=>bN k om) (aM (λ h=>h (hv5.1 (by simpa using vw))) (aM (λ ⟨k,h1,h2⟩=>(bQ _).2 ⟨k,om,VD h2⟩ c5) hv6)) (c6))))
       ·have c6o:=c6;have c6:=fq c6;refine wn<|cZ _ ?_ ?_
        ·(refine ⟨ob,eO bN dX (aM (λ h=>h (hv5.1 (by simpa using vw))) (aM (λ ⟨k,h1,h2⟩=>(bQ _).2 ⟨k,om,VD h2⟩ c5) (by have e:v6=0:=(by simpa using c6o); rw [e] at hv6; exact hv6))),λ s=>?_⟩; dsimp only; rw [zP]; by_cases q:(.s s:dR)=.s (p_.aH.getD g1.1.toNat aJ).xD; (rw [if_pos q]; constructor; (intro _; exact ⟨g1.1.toNat,om,(dR.s.inj q).symm⟩); (intro _; decide)); (rw [if_neg q,bQ]; constructor; (rintro ⟨k,h1,h2⟩; exact ⟨k,om,h2⟩); (rintro ⟨k,h1,h2⟩; refine ⟨k,?_,h2⟩; by_cases e:(k:Int)<g1.1; (exact e); exfalso; apply q; rw [← h2,show k=g1.1.toNat by omega])))
        ·exact ob
    ·exact au (aM om (aM om (PS (λ k hk=>bN k om))))
   ·(refine ⟨ob,λ j hj=>by dsimp only at hj; omega,λ s=>?_⟩; constructor; (intro h; exact absurd rfl h); (rintro ⟨k,h1,_⟩; dsimp only at h1; omega))
theorem EG (h1:∀g∈p_.aH,g.bZ.length≤2000000∧g.ak.length≤2000000):W (wS p_) (λ r=>Hr p_ r):=by
 unfold wS;refine wi ?_ ?_<;>intro c1
 ·exact au<|eT c1
 ·refine wi ?_ ?_<;>intro c2
  ·exact au<|aM om (eT c2)
  ·refine bM (λ (g1:Int)=>0≤g1∧(∀j:Nat,(j:Int)<g1→agl p_ j 0)) (λ (g1:Int)=>(p_.aH.length - g1).toNat) ?_ ?_
   ·intro ah g1 eX cZ;obtain ⟨dX,bN⟩:=eX;unfold NC;refine wi ?_ ?_<;>intro c3
    ·refine aG (Zz om om om h1) λ v3 hv3=>?_;refine bW ?_ ?_<;>intro c4
     ·have vw:=c4;have c4:=fq c4;exact au (aM om (aM om (Hq (i:=g1.toNat) om (λ k hk=>bN k om) (hv3) (c4))))
     ·have vw:=c4;have c4:=fq c4;refine wn<|cZ _ ?_ ?_
      ·(refine ⟨ob,eO bN dX (by have e:v3=0:=(by simpa using vw); rw [e] at hv3; exact hv3)⟩)
      ·exact ob
    ·exact au (aM om (aM om (PS (λ k hk=>bN k om))))
   ·(refine ⟨ob,λ j hj=>by (try dsimp only at hj); omega⟩)
theorem OH {l_:List eF} (h1:∀g∈l_,g.fF.length≤2000000):W (AL l_) (λ r=>RsA l_ r):=by
 unfold AL;refine wi ?_ ?_<;>intro c1
 ·exact au<|eT c1
 ·refine bM (λ (g1:Int)=>0≤g1∧(∀j:Nat,(j:Int)<g1→RsE l_ j 0)) (λ (g1:Int)=>(l_.length - g1).toNat) ?_ ?_
  ·intro ah g1 eX cZ;obtain ⟨dX,bN⟩:=eX;unfold M5;refine wi ?_ ?_<;>intro c2
   ·have hgl:=h1 _ (getD_in (i:=g1.toNat) dZ om);refine wn<|bM (λ (g6:Int)=>0≤g6∧(∀j:Nat,(j:Int)<g6→0≤((l_.getD g1.toNat dZ).fF).getD j 0∧((l_.getD g1.toNat dZ).fF).getD j 0<((g1.toNat:Nat):Int))) (λ (g6:Int)=>(((l_.getD g1.toNat dZ).fF).length - g6).toNat) ?_ ?_
    ·intro jD g6 Kk Hf;obtain ⟨Gf,tL⟩:=Kk;unfold M4;refine wi ?_ ?_<;>intro c3
     ·refine wn<|wi ?_ ?_<;>intro c4
      ·exact au<|aM om (Hq (i:=g1.toNat) om (λ k hk=>bN k om) (eT ⟨g6.toNat,om,om⟩) (by decide))
      ·refine wn<|Hf _ ?_ ?_
       ·(refine ⟨ob,eO tL Gf om⟩)
       ·exact ob
     ·refine bM (λ (g7:Int)=>1≤g7∧(∀j:Nat,(j:Int)<g7→1≤j→((l_.getD g1.toNat dZ).fF).getD (j - 1) 0<((l_.getD g1.toNat dZ).fF).getD j 0)) (λ (g7:Int)=>(((l_.getD g1.toNat dZ).fF).length - g7).toNat) ?_ ?_
      ·intro nA g7 XB Ua;obtain ⟨ZA,Cz⟩:=XB;unfold KJ;refine wi ?_ ?_<;>intro c5
       ·refine wm<|wn ?_;refine wi ?_ ?_<;>intro c6
        ·exact au<|aM om (Hq (i:=g1.toNat) om (λ k hk=>bN k om) (aM (gL tL om) (eT ⟨g7.toNat,om,om,by rw [show g7.toNat - 1=(g7 - 1).toNat by omega]; omega⟩)) (by decide))
        ·refine wn<|Ua _ ?_ ?_
         ·(refine ⟨ob,λ j h1 h2=>?_⟩; by_cases q:(j:Int)<g7; (exact Cz j q h2); (have e:j=g7.toNat:=by omega); subst e; rw [show g7.toNat - 1=(g7 - 1).toNat by omega]; omega)
         ·exact ob
       ·refine wn<|cZ _ ?_ ?_
        ·(refine ⟨ob,eO bN dX (aM (gL tL om) (aM (Ht Cz om) rfl))⟩)
        ·exact ob
      ·(refine ⟨ob,λ j h1 h2=>by omega⟩)
    ·(refine ⟨ob,λ j hj=>by (try dsimp only at hj); omega⟩)
   ·exact au<|aM om (PS λ k hk=>bN k om)
  ·(refine ⟨ob,λ j hj=>by (try dsimp only at hj); omega⟩)
theorem OI {l_:List eF} (h1:∀g∈l_,g.fF.length≤2000000):W (pI l_) (λ r=>RsA l_ r):=by
 unfold pI;refine wi ?_ ?_<;>intro c1
 ·exact au<|eT c1
 ·refine bM (λ (g1:Int)=>0≤g1∧(∀j:Nat,(j:Int)<g1→RsE l_ j 0)) (λ (g1:Int)=>(l_.length - g1).toNat) ?_ ?_
  ·intro ah g1 eX cZ;obtain ⟨dX,bN⟩:=eX;unfold Ep;refine wi ?_ ?_<;>intro c2
   ·have hgl:=h1 _ (getD_in (i:=g1.toNat) dZ om);refine bM (λ (g6:Int)=>0≤g6∧(∀j:Nat,(j:Int)<g6→0≤((l_.getD g1.toNat dZ).fF).getD j 0∧((l_.getD g1.toNat dZ).fF).getD j 0<((g1.toNat:Nat):Int))) (λ (g6:Int)=>(((l_.getD g1.toNat dZ).fF).length - g6).toNat) ?_ ?_
    ·intro jD g6 Kk Hf;obtain ⟨Gf,tL⟩:=Kk;unfold Eo;refine wn<|wi ?_ ?_<;>intro c3
     ·refine wm<|wm ?_;refine wi ?_ ?_<;>intro c4
      ·exact au<|aM om (Hq (i:=g1.toNat) om (λ k hk=>bN k om) (eT ⟨g6.toNat,om,om⟩) (by decide))
      ·refine wn<|Hf _ ?_ ?_
       ·(refine ⟨ob,eO tL Gf om⟩)
       ·exact ob
     ·refine bM (λ (g7:Int)=>1≤g7∧(∀j:Nat,(j:Int)<g7→1≤j→((l_.getD g1.toNat dZ).fF).getD (j - 1) 0<((l_.getD g1.toNat dZ).fF).getD j 0)) (λ (g7:Int)=>(((l_.getD g1.toNat dZ).fF).length - g7).toNat) ?_ ?_
      ·intro nA g7 XB Ua;obtain ⟨ZA,Cz⟩:=XB;unfold BN;refine wn<|wi ?_ ?_<;>intro c5
       ·refine wm<|wm ?_;refine wn<|wi ?_ ?_<;>intro c6
        ·exact au<|aM om (Hq (i:=g1.toNat) om (λ k hk=>bN k om) (aM (gL tL om) (eT ⟨g7.toNat,om,om,by rw [show g7.toNat - 1=(g7 - 1).toNat by omega]; omega⟩)) (by decide))
        ·refine wn<|Ua _ ?_ ?_
         ·(refine ⟨ob,λ j h1 h2=>?_⟩; by_cases q:(j:Int)<g7; (exact Cz j q h2); (have e:j=g7.toNat:=by omega); subst e; rw [show g7.toNat - 1=(g7 - 1).toNat by omega]; omega)
         ·exact ob
       ·refine wn<|cZ _ ?_ ?_
        ·(refine ⟨ob,eO bN dX (aM (gL tL om) (aM (Ht Cz om) rfl))⟩)
        ·exact ob
      ·(refine ⟨ob,λ j h1 h2=>by omega⟩)
    ·(refine ⟨ob,λ j hj=>by (try dsimp only at hj); omega⟩)
   ·exact au<|aM om (PS λ k hk=>bN k om)
  ·(refine ⟨ob,λ j hj=>by (try dsimp only at hj); omega⟩)
variable {dS:List Bool}
theorem XF {l_:List eF} (h1:amJ l_) (h2:∀g∈l_,g.fF.length≤2000000):W (CY l_ dS) (λ r=>r=true↔ak9 l_ dS):=by
 obtain ⟨p1,p2⟩:=h1;unfold CY;refine wi ?_ ?_<;>intro c1
 ·refine au ?_;(constructor; (intro e; cases e); (rintro ⟨a,_⟩; omega))
 ·refine bM (λ (g1:Int)=>0≤g1∧(∀i:Nat,(i:Int)<g1→∀j:Nat,(j:Int)<((l_.getD i dZ).fF).length→dS.getD i false=true→dS.getD (((l_.getD i dZ).fF).getD j 0).toNat false=true)) (λ (g1:Int)=>(l_.length - g1).toNat) ?_ ?_
  ·intro ah g1 eX cZ;obtain ⟨dX,bN⟩:=eX;unfold KU;refine wi ?_ ?_<;>intro c2
   ·have hgl:=h2 _ (getD_in (i:=g1.toNat) dZ om);refine wn<|bM (λ (g4:Int)=>0≤g4∧(∀j:Nat,(j:Int)<g4→dS.getD g1.toNat false=true→dS.getD (((l_.getD g1.toNat dZ).fF).getD j 0).toNat false=true)) (λ (g4:Int)=>(((l_.getD g1.toNat dZ).fF).length - g4).toNat) ?_ ?_
    ·intro iN g4 Kl Jd;obtain ⟨Gh,mD⟩:=Kl;unfold KT;refine wi ?_ ?_<;>intro c3
     ·have hx:=p2 g1.toNat om _ (getD_in (i:=g4.toNat) 0 om);refine wm<|wn ?_;refine bW ?_ ?_<;>intro c4
      ·have vw:=c4;have c4:=fq c4;refine au ?_;(constructor; (intro e; cases e); (rintro ⟨_,a⟩; simp only [Bool.and_eq_true,Bool.not_eq_true'] at vw; have:=a g1.toNat om g4.toNat om vw.1; rw [this] at vw; cases vw.2))
      ·have vw:=c4;have c4:=fq c4;refine wn<|Jd _ ?_ ?_
       ·(refine ⟨ob,λ j h1 hr=>?_⟩; by_cases q:(j:Int)<g4; (exact mD j q hr); (have e:j=g4.toNat:=by omega); subst e; simp only [hr,Bool.true_and,Bool.not_eq_false'] at vw; exact vw)
       ·exact ob
     ·refine wn<|cZ _ ?_ ?_
      ·(refine ⟨ob,λ i hi j hj hr=>?_⟩; by_cases q:(i:Int)<g1; (exact bN i q j hj hr); (have e:i=g1.toNat:=by omega); subst e; exact mD j om hr)
      ·exact ob
    ·(refine ⟨ob,λ j h1 h2=>by omega⟩)
   ·refine au ?_;(constructor; (intro _; exact ⟨om,λ i hi=>bN i om⟩); (intro _; rfl))
  ·(refine ⟨ob,λ j h1 h2=>by omega⟩)
theorem XG {l_:List eF} (h1:∀g∈l_,g.fF.length≤2000000):W (CZ l_ dS) (λ r=>(r=true↔RsA l_ 0∧ak9 l_ dS)):=by
 unfold CZ;refine aG (OH ob) λ v1 hv1=>?_;refine aG (xR λ hc=>XF (by have e:v1=0:=(by simpa using hc); rw [e] at hv1; exact hv1.ok) h1) λ v2 hv2=>?_;refine au ?_;(constructor; (intro hr; simp only [Bool.and_eq_true] at hr; have e:v1=0:=(by simpa using hr.1); exact ⟨e ▸ hv1,(hv2 hr.1).1 hr.2⟩); (rintro ⟨a,b⟩; have e:=RsA.fun _ _ hv1 a; subst e; have:=(hv2 rfl).2 b; rw [this]; rfl))
theorem XH {l_:List eF} (h1:∀g∈l_,g.fF.length≤2000000):W (Di l_ dS) (λ r=>(r=true↔RsA l_ 0∧ak9 l_ dS)):=by
 unfold Di;refine aG (OI ob) λ v1 hv1=>?_;refine wi ?_ ?_<;>intro c1
 ·refine au ?_;(constructor; (intro e; cases e); (rintro ⟨a,b,_⟩; have e:=RsA.fun _ _ hv1 a; omega))
 ·have hok:RsA l_ 0:=(by have e:v1=0:=om; rw [e] at hv1; exact hv1);obtain ⟨p1,p2⟩:=hok.ok;refine bM (λ (g1:Int)=>0≤g1∧(∀i:Nat,(i:Int)<g1→∀j:Nat,(j:Int)<((l_.getD i dZ).fF).length→dS.getD i false=true→dS.getD (((l_.getD i dZ).fF).getD j 0).toNat false=true)) (λ (g1:Int)=>(l_.length - g1).toNat) ?_ ?_
  ·intro ah g1 eX cZ;obtain ⟨dX,bN⟩:=eX;unfold LA;refine wi ?_ ?_<;>intro c2
   ·have hgl:=h1 _ (getD_in (i:=g1.toNat) dZ om);refine bM (λ (g4:Int)=>0≤g4∧(∀j:Nat,(j:Int)<g4→dS.getD g1.toNat false=true→dS.getD (((l_.getD g1.toNat dZ).fF).getD j 0).toNat false=true)) (λ (g4:Int)=>(((l_.getD g1.toNat dZ).fF).length - g4).toNat) ?_ ?_
    ·intro iN g4 Kl Jd;obtain ⟨Gh,mD⟩:=Kl;unfold Lx;refine wn<|wi ?_ ?_<;>intro c3
     ·have hx:=p2 g1.toNat om _ (getD_in (i:=g4.toNat) 0 om);refine wm<|wm ?_;refine bW ?_ ?_<;>intro c4
      ·have vw:=c4;have c4:=fq c4;refine au ?_;(constructor; (intro e; cases e); (rintro ⟨_,_,a⟩; simp only [Bool.and_eq_true,Bool.not_eq_true'] at vw; have:=a g1.toNat om g4.toNat om vw.1; rw [this] at vw; cases vw.2))
      ·have vw:=c4;have c4:=fq c4;refine wn<|Jd _ ?_ ?_
       ·(refine ⟨ob,λ j h1 hr=>?_⟩; by_cases q:(j:Int)<g4; (exact mD j q hr); (have e:j=g4.toNat:=by omega); subst e; simp only [hr,Bool.true_and,Bool.not_eq_false'] at vw; exact vw)
       ·exact ob
     ·refine wn<|cZ _ ?_ ?_
      ·(refine ⟨ob,λ i hi j hj hr=>?_⟩; by_cases q:(i:Int)<g1; (exact bN i q j hj hr); (have e:i=g1.toNat:=by omega); subst e; exact mD j om hr)
      ·exact ob
    ·(refine ⟨ob,λ j h1 h2=>by omega⟩)
   ·refine au ?_;(constructor; (intro _; exact ⟨hok,om,λ i hi=>bN i om⟩); (intro _; rfl))
  ·(refine ⟨ob,λ j h1 h2=>by omega⟩)
theorem Cc {l_:List dO}:W (tZ l_) (λ r=>DmA l_ r):=by
 unfold tZ;refine wi ?_ ?_<;>intro c1
 ·exact au<|eT c1
 ·refine bM (λ (g1:Int)=>0≤g1∧(∀j:Nat,(j:Int)<g1 → -1≤(l_.getD j fH).bf∧(l_.getD j fH).bf<(j:Int))) (λ (g1:Int)=>(l_.length - g1).toNat) ?_ ?_
  ·intro ah g1 eX cZ;obtain ⟨dX,bN⟩:=eX;unfold KL;refine wi ?_ ?_<;>intro c2
   ·refine wn<|wi ?_ ?_<;>intro c3
    ·exact au<|aM om (eT ⟨g1.toNat,om,om⟩)
    ·refine wn<|cZ _ ?_ ?_
     ·(refine ⟨ob,eO bN dX om⟩)
     ·exact ob
   ·exact au<|aM om (aM (gL bN om) rfl)
  ·(refine ⟨ob,λ j hj=>by (try dsimp only at hj); omega⟩)
theorem OJ {l_:List dO}:W (pJ l_) (λ r=>DmA l_ r):=by
 unfold pJ;refine wi ?_ ?_<;>intro c1
 ·exact au<|eT c1
 ·refine bM (λ (g1:Int)=>0≤g1∧(∀j:Nat,(j:Int)<g1 → -1≤(l_.getD j fH).bf∧(l_.getD j fH).bf<(j:Int))) (λ (g1:Int)=>(l_.length - g1).toNat) ?_ ?_
  ·intro ah g1 eX cZ;obtain ⟨dX,bN⟩:=eX;unfold Er;refine wi ?_ ?_<;>intro c2
   ·refine wm<|wi ?_ ?_<;>intro c3
    ·exact au<|aM om (eT ⟨g1.toNat,om,om⟩)
    ·refine wn<|cZ _ ?_ ?_
     ·(refine ⟨ob,eO bN dX om⟩)
     ·exact ob
   ·exact au<|aM om (aM (gL bN om) rfl)
  ·(refine ⟨ob,λ j hj=>by (try dsimp only at hj); omega⟩)
variable {nW:List Bool}
theorem Ce {l_:List dO} (h1:akR l_):W (uq l_ nW) (λ r=>r=true↔RgP l_ nW):=by
 obtain ⟨p1,p2⟩:=h1;unfold uq;refine wi ?_ ?_<;>intro c1
 ·refine au ?_;(constructor; (intro e; cases e); (rintro ⟨a,_⟩; omega))
 ·refine bM (λ (g1:Int)=>0≤g1∧(∀j:Nat,(j:Int)<g1→DgP l_ nW j)) (λ (g1:Int)=>(l_.length - g1).toNat) ?_ ?_
  ·intro ah g1 eX cZ;obtain ⟨dX,bN⟩:=eX;unfold KV;refine wi ?_ ?_<;>intro c2
   ·have hx:=p2 g1.toNat om;refine wm<|wm ?_;refine bW ?_ ?_<;>intro c3
    ·have kr:=c3;have c3:=fq c3;refine au ?_;(constructor; (intro e; cases e); (rintro ⟨_,this⟩; have hd:=this g1.toNat om; obtain ⟨d1,d2⟩:=hd; revert d1 d2; cases hA:(l_.getD g1.toNat fH).iy<;>cases hB:nW.getD g1.toNat false<;>simp_all))
    ·have kr:=c3;have c3:=fq c3;refine wn<|cZ _ ?_ ?_
     ·(refine ⟨ob,eO bN dX ?_⟩; unfold DgP; revert kr; cases hA:(l_.getD g1.toNat fH).iy<;>cases hB:nW.getD g1.toNat false<;>simp)
     ·exact ob
   ·refine au ?_;(constructor; (intro _; exact ⟨om,λ i hi=>bN i om⟩); (intro _; rfl))
  ·(refine ⟨ob,λ j hj=>by (try dsimp only at hj); omega⟩)
theorem XI {l_:List dO} :W (C8 l_ nW) (λ r=>(r=true↔DmA l_ 0∧RgP l_ nW)):=by
 unfold C8;refine aG (Cc) λ v1 hv1=>?_;refine aG (xR λ hc=>Ce (by have e:v1=0:=(by simpa using hc); rw [e] at hv1; exact hv1.ok)) λ v2 hv2=>?_;refine au ?_;(constructor; (intro hr; simp only [Bool.and_eq_true] at hr; have e:v1=0:=(by simpa using hr.1); exact ⟨e ▸ hv1,(hv2 hr.1).1 hr.2⟩); (rintro ⟨a,b⟩; have e:=DmA.fun _ _ hv1 a; subst e; have:=(hv2 rfl).2 b; rw [this]; rfl))
theorem ZB {l_:List dO} :W (F6 l_ nW) (λ r=>(r=true↔DmA l_ 0∧RgP l_ nW)):=by
 unfold F6;refine aG (OJ) λ v1 hv1=>?_;refine wi ?_ ?_<;>intro c1
 ·refine au ?_;(constructor; (intro e; cases e); (rintro ⟨a,b,_⟩; have e:=DmA.fun _ _ hv1 a; omega))
 ·have hok:DmA l_ 0:=(by have e:v1=0:=om; rw [e] at hv1; exact hv1);obtain ⟨p1,p2⟩:=hok.ok;refine bM (λ (g1:Int)=>0≤g1∧(∀j:Nat,(j:Int)<g1→DgP l_ nW j)) (λ (g1:Int)=>(l_.length - g1).toNat) ?_ ?_
  ·intro ah g1 eX cZ;obtain ⟨dX,bN⟩:=eX;unfold NY;refine wi ?_ ?_<;>intro c2
   ·have hx:=p2 g1.toNat om;refine wm<|wm ?_;refine wm<|bW ?_ ?_<;>intro c3
    ·have kr:=c3;have c3:=fq c3;refine au ?_;(constructor; (intro e; cases e); (rintro ⟨_,_,this⟩; have hd:=this g1.toNat om; obtain ⟨d1,d2⟩:=hd; revert d1 d2; cases hA:(l_.getD g1.toNat fH).iy<;>cases hB:nW.getD g1.toNat false<;>simp_all))
    ·have kr:=c3;have c3:=fq c3;refine wn<|cZ _ ?_ ?_
     ·(refine ⟨ob,eO bN dX ?_⟩; unfold DgP; revert kr; cases hA:(l_.getD g1.toNat fH).iy<;>cases hB:nW.getD g1.toNat false<;>simp)
     ·exact ob
   ·refine au ?_;(constructor; (intro _; exact ⟨hok,om,λ i hi=>bN i om⟩); (intro _; rfl))
  ·(refine ⟨ob,λ j hj=>by (try dsimp only at hj); omega⟩)
variable {l_:List aS}
theorem Sn {aj:List Int} (h1:l_.length≤2000000) (h2:aj.length≤2000000):W (qL l_ aj) (λ r=>r=true↔VE l_ aj):=by
 unfold qL;refine bM (λ (g1:Int)=>0≤g1∧(∀i:Nat,(i:Int)<g1→(0≤aj.getD i 0∧aj.getD i 0<l_.length)∧∀k:Nat,k<i→aj.getD k 0≠aj.getD i 0)) (λ (g1:Int)=>(aj.length - g1).toNat) ?_ ?_
 ·intro ah g1 eX cZ;obtain ⟨dX,bN⟩:=eX;unfold DY;refine wi ?_ ?_<;>intro c1
  ·refine wm<|aG (qB) λ v5 hv5=>?_;subst v5;refine wn<|aG (gN λ hc=>rO ob) λ v6 hv6=>?_;subst v6;refine bW ?_ ?_<;>intro c2
   ·have ku:=c2;have c2:=fq c2;refine au ?_;(constructor; (intro e; cases e); (intro a; obtain ⟨b,d⟩:=a g1.toNat om; simp only [Bool.or_eq_true] at ku; rcases ku with c | c; (simp only [Bool.not_eq_true',Bool.and_eq_false_iff,decide_eq_false_iff_not] at c; omega); (obtain ⟨k,h3,h4⟩:=(Rz om).1 c; exact absurd h4 (d k h3))))
   ·have ku:=c2;have c2:=fq c2;refine wn<|cZ _ ?_ ?_
    ·(refine ⟨ob,eO bN dX ?_⟩; simp only [Bool.or_eq_false_iff] at ku; refine ⟨(by have:=ku.1; simp only [Bool.not_eq_false',Bool.and_eq_true,decide_eq_true_eq] at this; omega),λ k hk e=>?_⟩; rw [(Rz om).2 ⟨k,hk,e⟩] at ku; cases ku.2)
    ·exact ob
  ·refine au ?_;(constructor; (intro _ i hi; exact bN i om); (intro _; rfl))
 ·(refine ⟨ob,λ j hj=>by (try dsimp only at hj); omega⟩)
theorem uF {aj:List Int} (h1:l_.length≤2000000) (h2:aj.length≤2000000):W (nQ l_ aj) (λ r=>r=true↔VE l_ aj):=by
 unfold nQ;refine bM (λ (g1:Int)=>0≤g1∧(∀i:Nat,(i:Int)<g1→(0≤aj.getD i 0∧aj.getD i 0<l_.length)∧∀k:Nat,k<i→aj.getD k 0≠aj.getD i 0)) (λ (g1:Int)=>(aj.length - g1).toNat) ?_ ?_
 ·intro ah g1 eX cZ;obtain ⟨dX,bN⟩:=eX;unfold IC;refine wi ?_ ?_<;>intro c1
  ·refine wm<|wi ?_ ?_<;>intro c2
   ·refine au ?_;(constructor; (intro e; cases e); (intro a; obtain ⟨b,d⟩:=a g1.toNat om; omega))
   ·refine bM (λ (g4:Int)=>0≤g4∧(∀k:Nat,(k:Int)<g4→aj.getD k 0≠aj.getD g1.toNat 0)) (λ (g4:Int)=>(g1 - g4).toNat) ?_ ?_
    ·intro iN g4 Kl Jd;obtain ⟨Gh,mD⟩:=Kl;unfold IB;refine wi ?_ ?_<;>intro c3
     ·refine wm<|wi ?_ ?_<;>intro c4
      ·refine au ?_;(constructor; (intro e; cases e); (intro a; obtain ⟨b,d⟩:=a g1.toNat om; exact absurd c4 (d g4.toNat om)))
      ·refine wn<|Jd _ ?_ ?_
       ·(refine ⟨ob,eO mD Gh c4⟩)
       ·exact ob
     ·refine wn<|cZ _ ?_ ?_
      ·(refine ⟨ob,eO bN dX ⟨om,λ k hk=>mD k om⟩⟩)
      ·exact ob
    ·(refine ⟨ob,λ j hj=>by (try dsimp only at hj); omega⟩)
  ·refine au ?_;(constructor; (intro _ i hi; exact bN i om); (intro _; rfl))
 ·(refine ⟨ob,λ j hj=>by (try dsimp only at hj); omega⟩)
def NdE (b:aY) (n:aS) (dv:Int):Int→Prop:=
 LQ (32<(n.bT.length:Int)∨32<(n.fI.length:Int)∨10<(n.ak.length:Int)) 3<|
 LQ (∃j:Nat,(j:Int)<n.bT.length∧¬XA b.bS.length (n.bT.getD j dK)) 2<|
 LQ (∃j:Nat,(j:Int)<n.fI.length∧¬amK b.bI.length (n.fI.getD j eD)) 2<|
 LQ (∃j:Nat,(j:Int)<n.ak.length∧¬Zx (n.ak.getD j ByteArray.empty)) 1<|
 LQ (∃j:Nat,(j:Int)<n.bA.length∧¬(0≤n.bA.getD j 0∧n.bA.getD j 0<b.bA.length)) 2<|
 LQ (¬(-1≤n.gM∧n.gM<b.dD.length)) 2<|
 LQ (∃j:Nat,(j:Int)<n.bq.length∧¬(0≤n.bq.getD j 0∧n.bq.getD j 0<dv)) 2<|
 LQ (∃j:Nat,1≤j∧(j:Int)<n.bq.length∧n.bq.getD j 0≤n.bq.getD (j - 1) 0) 12<|
 λ r=>r=0
theorem NdE.fun {b:aY} {n:aS} {dv:Int}:EF (NdE b n dv):=.JC (.JC (.JC (.JC (.JC (.JC (.JC (.JC .zero)))))))
def VF (b:aY):Int→Prop:=Thn (λ r=>r=eG b.bS)<|Thn (λ r=>r=Sp.eG b.bI)<|Thn (Hr b.aZ)<|Thn (RsA b.bA) (DmA b.dD)
theorem VF.fun {b:aY}:EF (VF b):=.thn (λ _ _ h k=>h.trans k.symm) (.thn (λ _ _ h k=>h.trans k.symm) (.thn Hr.fun (.thn RsA.fun DmA.fun)))
def CB (b:aY) (l:List aS):Int→Prop:=Thn (VF b)<|LQ (12<(l.length:Int)) 3<|Fst l.length λ i=>NdE b (l.getD i bG) l.length
theorem CB.fun {b:aY} {l:List aS}:EF (CB b l):=.thn VF.fun (.JC (.fst λ _=>NdE.fun))
variable {b_:aY}
theorem ZC (h1:He b_) (h2:∀g∈b_.aZ.aH,g.bZ.length≤2000000∧g.ak.length≤2000000):W (Fx b_) (λ r=>VF b_ r):=by
 obtain ⟨z1,z2,z3,z4,z5,z6,z7⟩:=h1;unfold Fx;refine aG (zJ (rC ob)) λ v1 hv1=>?_;subst v1;refine wi ?_ ?_<;>intro c1
 ·exact au<|Ho rfl c1
 ·refine aG (Sp.yQ ob) λ v2 hv2=>?_;subst v2;refine wi ?_ ?_<;>intro c2
  ·exact au<|lF c1.symm (Ho rfl c2)
  ·refine aG (RA h2) λ v3 hv3=>?_;refine wi ?_ ?_<;>intro c3
   ·exact au<|lF c1.symm (lF c2.symm (Ho hv3 c3))
   ·refine aG (OH ob) λ v4 hv4=>?_;refine wi ?_ ?_<;>intro c4
    ·exact au<|lF c1.symm (lF c2.symm (lF (c3 ▸ hv3) (Ho hv4 c4)))
    ·refine aG (Cc) λ v5 hv5=>?_;exact au<|lF c1.symm (lF c2.symm (lF (c3 ▸ hv3) (lF (c4 ▸ hv4) hv5)))
theorem ZE (h1:He b_) (h2:∀g∈b_.aZ.aH,g.bZ.length≤2000000∧g.ak.length≤2000000):W (FU b_) (λ r=>VF b_ r):=by
 obtain ⟨z1,z2,z3,z4,z5,z6,z7⟩:=h1;unfold FU;refine aG (Al ob) λ v1 hv1=>?_;subst v1;refine wi ?_ ?_<;>intro c1
 ·exact au<|Ho rfl c1
 ·refine aG (Sp.Aj ob) λ v2 hv2=>?_;subst v2;refine wi ?_ ?_<;>intro c2
  ·exact au<|lF c1.symm (Ho rfl c2)
  ·refine aG (EG h2) λ v3 hv3=>?_;refine wi ?_ ?_<;>intro c3
   ·exact au<|lF c1.symm (lF c2.symm (Ho hv3 c3))
   ·refine aG (OI ob) λ v4 hv4=>?_;refine wi ?_ ?_<;>intro c4
    ·exact au<|lF c1.symm (lF c2.symm (lF (c3 ▸ hv3) (Ho hv4 c4)))
    ·refine aG (OJ) λ v5 hv5=>?_;exact au<|lF c1.symm (lF c2.symm (lF (c3 ▸ hv3) (lF (c4 ▸ hv4) hv5)))
theorem aaK {n_:aS} {iI:Int} (h1:He b_) (h2:0≤iI) (h3:iI≤2000000) (h4:n_.bA.length≤2000000) (h5:n_.bq.length≤2000000):W (JW b_ n_ iI) (λ r=>NdE b_ n_ iI r):=by
 obtain ⟨z1,z2,z3,z4,z5,z6,z7⟩:=h1;unfold JW;refine wi ?_ ?_<;>intro c1
 ·exact au<|eT om
 ·refine bM (λ (g1:Int)=>0≤g1∧(∀j:Nat,(j:Int)<g1→XA b_.bS.length (n_.bT.getD j dK))) (λ (g1:Int)=>(n_.bT.length - g1).toNat) ?_ ?_
  ·intro ah g1 eX cZ;obtain ⟨dX,bN⟩:=eX;unfold QV;refine wi ?_ ?_<;>intro c2
   ·refine wm<|aG (qB) λ v3 hv3=>?_;subst v3;refine wi ?_ ?_<;>intro c3
    ·exact au (aM om (eT ⟨g1.toNat,om,λ ⟨_,_,_,_,_⟩=>by omega⟩))
    ·refine wn<|cZ _ ?_ ?_
     ·(refine ⟨ob,eO bN dX ⟨om,om,om,om,om⟩⟩)
     ·exact ob
   ·refine bM (λ (g2:Int)=>0≤g2∧(∀j:Nat,(j:Int)<g2→amK b_.bI.length (n_.fI.getD j eD))) (λ (g2:Int)=>(n_.fI.length - g2).toNat) ?_ ?_
    ·intro dY g2 mU qZ;obtain ⟨sj,jG⟩:=mU;unfold Na;refine wi ?_ ?_<;>intro c4
     ·refine wm<|aG (qB) λ v8 DJ=>?_;subst v8;refine aG (gN λ hc=>lY (qB)) λ v9 hv9=>?_;subst v9;refine wi ?_ ?_<;>intro c5
      ·exact au (aM om (aM (gL bN om) (eT ⟨g2.toNat,om,λ ⟨_,_,_,_,_,_,_⟩=>by omega⟩)))
      ·refine wn<|qZ _ ?_ ?_
       ·(refine ⟨ob,eO jG sj ⟨om,om,om,om,om,om,om⟩⟩)
       ·exact ob
     ·refine bM (λ (g3:Int)=>0≤g3∧(∀j:Nat,(j:Int)<g3→Zx (n_.ak.getD j ByteArray.empty))) (λ (g3:Int)=>(n_.ak.length - g3).toNat) ?_ ?_
      ·intro qJ g3 acU acV;obtain ⟨Xh,ru⟩:=acU;unfold M9;refine wi ?_ ?_<;>intro c6
       ·refine wn<|aG (Km) λ v12 TL=>?_;refine bW ?_ ?_<;>intro c7
        ·have Xe:=c7;have c7:=fq c7;exact au (aM om (aM (gL bN om) (aM (gL jG om) (eT ⟨g3.toNat,om,λ h=>by simp [TL.2 h] at Xe⟩))))
        ·have Xe:=c7;have c7:=fq c7;refine wn<|acV _ ?_ ?_
         ·(refine ⟨ob,eO ru Xh (TL.1 (by simpa using Xe))⟩)
         ·exact ob
       ·refine bM (λ (g4:Int)=>0≤g4∧(∀j:Nat,(j:Int)<g4→0≤n_.bA.getD j 0∧n_.bA.getD j 0<b_.bA.length)) (λ (g4:Int)=>(n_.bA.length - g4).toNat) ?_ ?_
        ·intro iN g4 Kl Jd;obtain ⟨Gh,mD⟩:=Kl;unfold M8;refine wi ?_ ?_<;>intro c8
         ·refine wm<|aG (qB) λ v15 aar=>?_;subst v15;refine wi ?_ ?_<;>intro c9
          ·exact au (aM om (aM (gL bN om) (aM (gL jG om) (aM (gL ru om) (eT ⟨g4.toNat,om,om⟩)))))
          ·refine wn<|Jd _ ?_ ?_
           ·(refine ⟨ob,eO mD Gh om⟩)
           ·exact ob
         ·refine wn<|aG (qB) λ v16 acG=>?_;subst v16;refine wi ?_ ?_<;>intro c10
          ·exact au (aM om (aM (gL bN om) (aM (gL jG om) (aM (gL ru om) (aM (gL mD om) (eT om))))))
          ·refine bM (λ (g5:Int)=>0≤g5∧(∀j:Nat,(j:Int)<g5→0≤n_.bq.getD j 0∧n_.bq.getD j 0<iI)) (λ (g5:Int)=>(n_.bq.length - g5).toNat) ?_ ?_
           ·intro nC g5 VA VB;obtain ⟨Rt,Gg⟩:=VA;unfold M7;refine wi ?_ ?_<;>intro c11
            ·refine wm<|aG (qB) λ v19 awR=>?_;subst v19;refine wi ?_ ?_<;>intro c12
             ·exact au (aM om (aM (gL bN om) (aM (gL jG om) (aM (gL ru om) (aM (gL mD om) (aM om (eT ⟨g5.toNat,om,om⟩)))))))
             ·refine wn<|VB _ ?_ ?_
              ·(refine ⟨ob,eO Gg Rt om⟩)
              ·exact ob
            ·refine bM (λ (g6:Int)=>1≤g6∧(∀j:Nat,(j:Int)<g6→1≤j→n_.bq.getD (j - 1) 0<n_.bq.getD j 0)) (λ (g6:Int)=>(n_.bq.length - g6).toNat) ?_ ?_
             ·intro jD g6 Kk Hf;obtain ⟨Gf,tL⟩:=Kk;unfold M6;refine wi ?_ ?_<;>intro c13
              ·refine wm<|wn ?_;refine wi ?_ ?_<;>intro c14
               ·exact au (aM om (aM (gL bN om) (aM (gL jG om) (aM (gL ru om) (aM (gL mD om) (aM om (aM (gL Gg om) (eT ⟨g6.toNat,om,om,by rw [show g6.toNat - 1=(g6 - 1).toNat by omega]; omega⟩))))))))
               ·refine wn<|Hf _ ?_ ?_
                ·(refine ⟨ob,λ j h1 h2=>?_⟩; by_cases q:(j:Int)<g6; (exact tL j q h2); (have e:j=g6.toNat:=by omega); subst e; rw [show g6.toNat - 1=(g6 - 1).toNat by omega]; omega)
                ·exact ob
              ·exact au (aM om (aM (gL bN om) (aM (gL jG om) (aM (gL ru om) (aM (gL mD om) (aM om (aM (gL Gg om) (aM (Ht tL om) (rfl)))))))))
             ·(refine ⟨ob,λ j h1 h2=>by omega⟩)
           ·(refine ⟨ob,λ j hj=>by (try dsimp only at hj); omega⟩)
        ·(refine ⟨ob,λ j hj=>by (try dsimp only at hj); omega⟩)
      ·(refine ⟨ob,λ j hj=>by (try dsimp only at hj); omega⟩)
    ·(refine ⟨ob,λ j hj=>by (try dsimp only at hj); omega⟩)
  ·(refine ⟨ob,λ j hj=>by (try dsimp only at hj); omega⟩)
theorem aaL {x_:aS} (h1:He b_) (h2:l_.length≤2000000) (h3:x_.bA.length≤2000000) (h4:x_.bq.length≤2000000):W (JZ b_ l_ x_) (λ r=>NdE b_ x_ l_.length r):=by
 obtain ⟨z1,z2,z3,z4,z5,z6,z7⟩:=h1;unfold JZ;refine wi ?_ ?_<;>intro c1
 ·exact au<|eT om
 ·refine bM (λ (g1:Int)=>0≤g1∧(∀j:Nat,(j:Int)<g1→XA b_.bS.length (x_.bT.getD j dK))) (λ (g1:Int)=>(x_.bT.length - g1).toNat) ?_ ?_
  ·intro ah g1 eX cZ;obtain ⟨dX,bN⟩:=eX;unfold Rc;refine wi ?_ ?_<;>intro c2
   ·refine wn<|wi ?_ ?_<;>intro c3
    ·exact au (aM om (eT ⟨g1.toNat,om,λ ⟨_,_,_,_,_⟩=>by omega⟩))
    ·refine wn<|cZ _ ?_ ?_
     ·(refine ⟨ob,eO bN dX ⟨om,om,om,om,om⟩⟩)
     ·exact ob
   ·refine bM (λ (g2:Int)=>0≤g2∧(∀j:Nat,(j:Int)<g2→amK b_.bI.length (x_.fI.getD j eD))) (λ (g2:Int)=>(x_.fI.length - g2).toNat) ?_ ?_
    ·intro dY g2 mU qZ;obtain ⟨sj,jG⟩:=mU;unfold NJ;refine wi ?_ ?_<;>intro c4
     ·refine wn<|wi ?_ ?_<;>intro c5
      ·exact au (aM om (aM (gL bN om) (eT ⟨g2.toNat,om,λ ⟨_,_,_,_,_,_,_⟩=>by omega⟩)))
      ·refine wn<|qZ _ ?_ ?_
       ·(refine ⟨ob,eO jG sj ⟨om,om,om,om,om,om,om⟩⟩)
       ·exact ob
     ·refine bM (λ (g3:Int)=>0≤g3∧(∀j:Nat,(j:Int)<g3→Zx (x_.ak.getD j ByteArray.empty))) (λ (g3:Int)=>(x_.ak.length - g3).toNat) ?_ ?_
      ·intro qJ g3 acU acV;obtain ⟨Xh,ru⟩:=acU;unfold NI;refine wi ?_ ?_<;>intro c6
       ·refine wn<|aG (Ao) λ v3 hv3=>?_;refine bW ?_ ?_<;>intro c7
        ·have Xe:=c7;have c7:=fq c7;exact au (aM om (aM (gL bN om) (aM (gL jG om) (eT ⟨g3.toNat,om,λ h=>by simp [hv3.2 h] at Xe⟩))))
        ·have Xe:=c7;have c7:=fq c7;refine wn<|acV _ ?_ ?_
         ·(refine ⟨ob,eO ru Xh (hv3.1 (by simpa using Xe))⟩)
         ·exact ob
       ·refine bM (λ (g4:Int)=>0≤g4∧(∀j:Nat,(j:Int)<g4→0≤x_.bA.getD j 0∧x_.bA.getD j 0<b_.bA.length)) (λ (g4:Int)=>(x_.bA.length - g4).toNat) ?_ ?_
        ·intro iN g4 Kl Jd;obtain ⟨Gh,mD⟩:=Kl;unfold NH;refine wi ?_ ?_<;>intro c8
         ·refine wn<|wi ?_ ?_<;>intro c9
          ·exact au (aM om (aM (gL bN om) (aM (gL jG om) (aM (gL ru om) (eT ⟨g4.toNat,om,om⟩)))))
          ·refine wn<|Jd _ ?_ ?_
           ·(refine ⟨ob,eO mD Gh om⟩)
           ·exact ob
         ·refine wi ?_ ?_<;>intro c10
          ·exact au (aM om (aM (gL bN om) (aM (gL jG om) (aM (gL ru om) (aM (gL mD om) (eT om))))))
          ·refine bM (λ (g5:Int)=>0≤g5∧(∀j:Nat,(j:Int)<g5→0≤x_.bq.getD j 0∧x_.bq.getD j 0<(l_.length:Int))) (λ (g5:Int)=>(x_.bq.length - g5).toNat) ?_ ?_
           ·intro nC g5 VA VB;obtain ⟨Rt,Gg⟩:=VA;unfold NG;refine wi ?_ ?_<;>intro c11
            ·refine wn<|wi ?_ ?_<;>intro c12
             ·exact au (aM om (aM (gL bN om) (aM (gL jG om) (aM (gL ru om) (aM (gL mD om) (aM om (eT ⟨g5.toNat,om,om⟩)))))))
             ·refine wn<|VB _ ?_ ?_
              ·(refine ⟨ob,eO Gg Rt om⟩)
              ·exact ob
            ·refine bM (λ (g6:Int)=>1≤g6∧(∀j:Nat,(j:Int)<g6→1≤j→x_.bq.getD (j - 1) 0<x_.bq.getD j 0)) (λ (g6:Int)=>(x_.bq.length - g6).toNat) ?_ ?_
             ·intro jD g6 Kk Hf;obtain ⟨Gf,tL⟩:=Kk;unfold ND;refine wi ?_ ?_<;>intro c13
              ·refine wm<|wn ?_;refine wi ?_ ?_<;>intro c14
               ·exact au (aM om (aM (gL bN om) (aM (gL jG om) (aM (gL ru om) (aM (gL mD om) (aM om (aM (gL Gg om) (eT ⟨g6.toNat,om,om,by rw [show g6.toNat - 1=(g6 - 1).toNat by omega]; omega⟩))))))))
               ·refine wn<|Hf _ ?_ ?_
                ·(refine ⟨ob,λ j h1 h2=>?_⟩; by_cases q:(j:Int)<g6; (exact tL j q h2); (have e:j=g6.toNat:=by omega); subst e; rw [show g6.toNat - 1=(g6 - 1).toNat by omega]; omega)
                ·exact ob
              ·exact au (aM om (aM (gL bN om) (aM (gL jG om) (aM (gL ru om) (aM (gL mD om) (aM om (aM (gL Gg om) (aM (Ht tL om) (rfl)))))))))
             ·(refine ⟨ob,λ j h1 h2=>by omega⟩)
           ·(refine ⟨ob,λ j hj=>by (try dsimp only at hj); omega⟩)
        ·(refine ⟨ob,λ j hj=>by (try dsimp only at hj); omega⟩)
      ·(refine ⟨ob,λ j hj=>by (try dsimp only at hj); omega⟩)
    ·(refine ⟨ob,λ j hj=>by (try dsimp only at hj); omega⟩)
  ·(refine ⟨ob,λ j hj=>by (try dsimp only at hj); omega⟩)
theorem RB (h1:He b_) (h2:∀g∈b_.aZ.aH,g.bZ.length≤2000000∧g.ak.length≤2000000) (h3:Qj l_):W (vU b_ l_) (λ r=>CB b_ l_ r):=by
 obtain ⟨w1,w2⟩:=h3;unfold vU;refine aG (ZC h1 h2) λ v1 hv1=>?_;refine wi ?_ ?_<;>intro c1
 ·exact au<|Ho hv1 c1
 ·refine wi ?_ ?_<;>intro c2
  ·exact au<|lF (c1 ▸ hv1) (eT c2)
  ·refine bM (λ (g1:Int)=>0≤g1∧(∀j:Nat,(j:Int)<g1→NdE b_ (l_.getD j bG) l_.length 0)) (λ (g1:Int)=>(l_.length - g1).toNat) ?_ ?_
   ·intro ah g1 eX cZ;obtain ⟨dX,bN⟩:=eX;unfold QW;refine wi ?_ ?_<;>intro c3
    ·have hw:=w2 _ (getD_in (i:=g1.toNat) bG om);refine wn<|aG (aaK ob ob ob ob ob) λ v4 hv4=>?_;refine wi ?_ ?_<;>intro c4
     ·exact au<|lF (c1 ▸ hv1) (aM om (Hq (i:=g1.toNat) om (λ k hk=>bN k om) hv4 c4))
     ·refine wn<|cZ _ ?_ ?_
      ·(refine ⟨ob,eO bN dX (by rw [c4] at hv4; exact hv4)⟩)
      ·exact ob
    ·exact au<|lF (c1 ▸ hv1) (aM om (PS λ k hk=>bN k om))
   ·(refine ⟨ob,λ j hj=>by (try dsimp only at hj); omega⟩)
theorem Ap (h1:He b_) (h2:∀g∈b_.aZ.aH,g.bZ.length≤2000000∧g.ak.length≤2000000) (h3:Qj l_):W (wu b_ l_) (λ r=>CB b_ l_ r):=by
 obtain ⟨w1,w2⟩:=h3;unfold wu;refine aG (ZE h1 h2) λ v1 hv1=>?_;refine wi ?_ ?_<;>intro c1
 ·exact au<|Ho hv1 c1
 ·refine wi ?_ ?_<;>intro c2
  ·exact au<|lF (c1 ▸ hv1) (eT c2)
  ·refine bM (λ (g1:Int)=>0≤g1∧(∀j:Nat,(j:Int)<g1→NdE b_ (l_.getD j bG) l_.length 0)) (λ (g1:Int)=>(l_.length - g1).toNat) ?_ ?_
   ·intro ah g1 eX cZ;obtain ⟨dX,bN⟩:=eX;unfold Rf;refine wi ?_ ?_<;>intro c3
    ·have hw:=w2 _ (getD_in (i:=g1.toNat) bG om);refine wn<|aG (aaL ob ob ob ob) λ v4 hv4=>?_;refine wi ?_ ?_<;>intro c4
     ·exact au<|lF (c1 ▸ hv1) (aM om (Hq (i:=g1.toNat) om (λ k hk=>bN k om) hv4 c4))
     ·refine wn<|cZ _ ?_ ?_
      ·(refine ⟨ob,eO bN dX (by rw [c4] at hv4; exact hv4)⟩)
      ·exact ob
    ·exact au<|lF (c1 ▸ hv1) (aM om (PS λ k hk=>bN k om))
   ·(refine ⟨ob,λ j hj=>by (try dsimp only at hj); omega⟩)
theorem OL {s_:gT} (h1:acP s_):W (rU s_) (λ r=>(r=true↔VE s_.dU s_.aU∧aiE s_.bO s_.dU s_.bB)):=by
 obtain ⟨⟨s1,s2,s3,s4,s5,s6,s7⟩,v_,n1,n2,⟨n3,n4⟩,m1,⟨z1,z2,z3,z4,z5,z6⟩⟩:=h1;have hch:∀i,i<s_.bO.bS.length→(s_.bO.bS.getD i aI).aK.length≤2000000:=s2;unfold rU;refine aG (Sn ob ob) λ v1 hv1=>?_;refine bW ?_ ?_<;>intro c1
 ·have fV:=c1;have c1:=fq c1;refine au ?_;(constructor; (intro e; cases e); (rintro ⟨a,⟨b1,b2,b3,b4,b5⟩,_⟩; rw [hv1.2 a] at fV; simp only [Bool.not_true,Bool.false_or,Bool.or_eq_true,bne_iff_ne] at fV; omega))
 ·have fV:=c1;have c1:=fq c1;have hm:=hv1.1 (by simp only [Bool.or_eq_false_iff] at fV; simpa using fV.1.1.1.1.1);have hl:(s_.bB.Setting.length:Int)=s_.bO.bS.length:=(by simp only [Bool.or_eq_false_iff] at fV; simpa using fV.1.1.1.1.2);refine bM (λ (g1:Int)=>0≤g1∧(∀j:Nat,(j:Int)<g1→0≤s_.bB.Setting.getD j 0∧s_.bB.Setting.getD j 0<(s_.bO.bS.getD j aI).aK.length)) (λ (g1:Int)=>(s_.bO.bS.length - g1).toNat) ?_ ?_
  ·intro ah g1 eX cZ;obtain ⟨dX,bN⟩:=eX;unfold AO;refine wi ?_ ?_<;>intro c2
   ·have hq:=hch g1.toNat om;refine wm<|wn ?_;refine aG (qB) λ v4 hv4=>?_;subst v4;refine wi ?_ ?_<;>intro c3
    ·refine au ?_;(constructor; (intro e; cases e); (rintro ⟨_,_,a,_⟩; have:=a g1.toNat om; omega))
    ·refine wn<|cZ _ ?_ ?_
     ·(refine ⟨ob,eO bN dX om⟩)
     ·exact ob
   ·refine bM (λ (g2:Int)=>0≤g2∧(∀j:Nat,(j:Int)<g2 → -1≤(s_.bB.Uses.getD j bF).gG∧(s_.bB.Uses.getD j bF).gG<s_.dU.length)) (λ (g2:Int)=>(s_.bB.Uses.length - g2).toNat) ?_ ?_
    ·intro dY g2 mU qZ;obtain ⟨sj,jG⟩:=mU;unfold zn;refine wi ?_ ?_<;>intro c4
     ·refine wm<|aG (qB) λ v7 hv7=>?_;subst v7;refine wi ?_ ?_<;>intro c5
      ·refine au ?_;(constructor; (intro e; cases e); (rintro ⟨_,_,_,a⟩; have:=a g2.toNat om; omega))
      ·refine wn<|qZ _ ?_ ?_
       ·(refine ⟨ob,eO jG sj om⟩)
       ·exact ob
     ·refine au ?_;(constructor; (intro _; exact ⟨hm,⟨om,om,om,om,om⟩,λ i hi=>bN i om,λ i hi=>jG i om⟩); (intro _; rfl))
    ·(refine ⟨ob,λ j hj=>by (try dsimp only at hj); omega⟩)
  ·(refine ⟨ob,λ j hj=>by (try dsimp only at hj); omega⟩)
theorem XJ {g_:aR} (h1:He b_) (h2:l_.length≤2000000) (h3:Ja g_):W (Df b_ l_ g_) (λ r=>r=true↔aiE b_ l_ g_):=by
 obtain ⟨s1,s2,s3,s4,s5,s6,s7⟩:=h1;obtain ⟨z1,z2,z3,z4,z5,z6⟩:=h3;unfold Df;refine wi ?_ ?_<;>intro c1
 ·refine au ?_;(constructor; (intro e; cases e); (rintro ⟨⟨b1,b2,b3,b4,b5⟩,_⟩; omega))
 ·refine bM (λ (g1:Int)=>0≤g1∧(∀j:Nat,(j:Int)<g1→0≤g_.Setting.getD j 0∧g_.Setting.getD j 0<(b_.bS.getD j aI).aK.length)) (λ (g1:Int)=>(g_.Setting.length - g1).toNat) ?_ ?_
  ·intro ah g1 eX cZ;obtain ⟨dX,bN⟩:=eX;unfold Lr;refine wi ?_ ?_<;>intro c2
   ·refine wm<|wn ?_;refine wi ?_ ?_<;>intro c3
    ·refine au ?_;(constructor; (intro e; cases e); (rintro ⟨_,a,_⟩; have:=a g1.toNat om; omega))
    ·refine wn<|cZ _ ?_ ?_
     ·(refine ⟨ob,eO bN dX om⟩)
     ·exact ob
   ·refine bM (λ (g2:Int)=>0≤g2∧(∀j:Nat,(j:Int)<g2 → -1≤(g_.Uses.getD j bF).gG∧(g_.Uses.getD j bF).gG<l_.length)) (λ (g2:Int)=>(g_.Uses.length - g2).toNat) ?_ ?_
    ·intro dY g2 mU qZ;obtain ⟨sj,jG⟩:=mU;unfold Lp;refine wi ?_ ?_<;>intro c4
     ·refine wm<|wi ?_ ?_<;>intro c5
      ·refine au ?_;(constructor; (intro e; cases e); (rintro ⟨_,_,a⟩; have:=a g2.toNat om; omega))
      ·refine wn<|qZ _ ?_ ?_
       ·(refine ⟨ob,eO jG sj om⟩)
       ·exact ob
     ·refine au ?_;(constructor; (intro _; exact ⟨⟨om,om,om,om,om⟩,λ i hi=>bN i om,λ i hi=>jG i om⟩); (intro _; rfl))
    ·(refine ⟨ob,λ j hj=>by (try dsimp only at hj); omega⟩)
  ·(refine ⟨ob,λ j hj=>by (try dsimp only at hj); omega⟩)
variable {s:List Int}
theorem am2 {l:List ay} (hf:aat l) (hs:kg l s=true) {x:aX} (h0:0≤x.eU) (h1:x.eU<l.length):Zw (Ro l s) x=TQ (gy l s) x:=by
 obtain ⟨e1,e2,_,_⟩:=Kh hf hs x.eU.toNat om;unfold Zw TQ;rw [e1,e2,Bool.not_not]
theorem am3 {l:List ay} (hf:aat l) (hs:kg l s=true):aiz l (Ro l s)=ownB l (gy l s):=by
 unfold aiz ownB;have:∀i∈List.range l.length,(!ak2 (Ro l s).1 (Ro l s).2 l i)=(!agc ((gy l s).getD i dW) (l.getD i aI)):=λ i hi=>by
  obtain ⟨e1,e2,_,_⟩:=Kh hf hs i (by simpa using hi);unfold ak2 agc;rw [e1,e2]
 rw [Bool.eq_iff_iff,List.all_eq_true,List.all_eq_true];exact ⟨λ h i hi=>by rw [← this i hi]; exact h i hi,λ h i hi=>by rw [this i hi]; exact h i hi⟩
theorem any_congr {l:List α} {p q:α→Bool} (h:∀x∈l,p x=q x):l.any p=l.any q:=by
 rw [Bool.eq_iff_iff,List.any_eq_true,List.any_eq_true];exact ⟨λ ⟨x,h1,h2⟩=>⟨x,h1,by rw [← h x h1]; exact h2⟩,λ ⟨x,h1,h2⟩=>⟨x,h1,by rw [h x h1]; exact h2⟩⟩
theorem ZF {l:List ay} {m:List aX} (h1:nK l m=true) (h2:kg l s=true):gV l s m=OE l s m:=by
 obtain ⟨hck,hml,hmb⟩:=Ol h1;have hf:=qy hck;unfold gV OE;rw [h1,h2,am3 hf h2,any_congr λ x hx=>am2 hf h2 (Om (Oo h1 x hx)).1.1 (Om (Oo h1 x hx)).1.2,Bool.and_comm (!_)];rfl
theorem VG {l_:List ay} {s_:List Int} (h1:l_.length≤2000000) (h2:s_.length≤2000000) (h3:aas l_):W (Ag l_ s_) (λ r=>r=((eG l_==0)&&kg l_ s_)):=by
 unfold Ag;refine aG (Al ob) λ v1 hv1=>?_;subst v1;refine bW ?_ ?_<;>intro c1
 ·have fV:=c1;have c1:=fq c1;refine au ?_;(rcases Bool.or_eq_true_iff.1 fV with c | c; (rw [show (eG l_==0)=false by simpa using c]; rfl); (unfold kg; rw [show ((s_.length:Int)==(l_.length:Int))=false by simpa using c]; simp))
 ·have fV:=c1;have c1:=fq c1;have he:((s_.length:Int)==(l_.length:Int))=true:=(by have:=(Bool.or_eq_false_iff.1 fV).2; simpa using this);have hc0:(eG l_==0)=true:=(by have:=(Bool.or_eq_false_iff.1 fV).1; simpa using this);refine bM (λ (g1:Int)=>0≤g1∧g1≤l_.length∧(∀j:Nat,(j:Int)<g1→dP (s_.getD j 0) 0 ((l_.getD j aI).aK.length - 1)=true)) (λ (g1:Int)=>(l_.length - g1).toNat) ?_ ?_
  ·intro ah g1 eX cZ;obtain ⟨dX,bN,bQ⟩:=eX;unfold IL;refine wi ?_ ?_<;>intro c2
   ·have hch:=h3 g1.toNat om;refine wm<|wn ?_;refine wi ?_ ?_<;>intro c3
    ·refine au ?_;(unfold kg; rw [he,tF (i:=g1.toNat) om (by unfold dP; rw [Bool.and_eq_false_iff,decide_eq_false_iff_not,decide_eq_false_iff_not]; omega)]; simp)
    ·refine wn<|cZ _ ?_ ?_
     ·(refine ⟨ob,ob,eO bQ dX (by unfold dP; rw [Bool.and_eq_true,decide_eq_true_eq,decide_eq_true_eq]; omega)⟩)
     ·exact ob
   ·refine au ?_;(unfold kg; rw [he,hc0,vv λ j hj=>bQ j om]; rfl)
  ·(refine ⟨ob,ob,λ j hj=>by omega⟩)
theorem EH {l_:List ay} {s_:List Int} {m_:List aX} (h1:l_.length≤2000000) (h2:s_.length≤2000000) (h3:m_.length≤2000000) (h4:aas l_):W (Bj l_ s_ m_) (λ r=>r=gV l_ s_ m_):=by
 unfold Bj;refine aG (VG ob ob ob) λ v1 hv1=>?_;subst v1;refine aG (gN λ hc=>lY (OB ob ob)) λ v2 hv2=>?_;subst v2;refine bW ?_ ?_<;>intro c1
 ·have fV:=c1;have c1:=fq c1;refine au ?_;(unfold gV; rcases Bool.or_eq_true_iff.1 fV with c | c; (simp only [Bool.not_eq_true',Bool.and_eq_false_iff,beq_eq_false_iff_ne] at c; rcases c with c | c; (rw [show nK l_ m_=false by (unfold nK; rw [show (eG l_==0)=false by simpa using c]; rfl)]; rfl); (rw [c,Bool.and_false]; rfl)); (rw [show nK l_ m_=false by simpa using c]; rfl))
 ·have fV:=c1;have c1:=fq c1;have hss:kg l_ s_=true:=(by have:=(Bool.or_eq_false_iff.1 fV).1; simp only [Bool.not_eq_false',Bool.and_eq_true] at this; exact this.2);have hlm:nK l_ m_=true:=(by have:=(Bool.or_eq_false_iff.1 fV).2; simpa using this);obtain ⟨hck,hml,hmb⟩:=Ol hlm;have hst:=PK l_ s_ l_.length;refine aG (OD (PG (qy hck) hss) (akG (qy hck) hss)) λ v3 hv3=>?_;subst v3;have hs1:(Ro l_ s_).1.length=l_.length:=hst.1;have hs2:(Ro l_ s_).2.length=l_.length:=hst.2;refine bM (λ (g1:Int)=>0≤g1∧g1≤m_.length∧(m_.drop g1.toNat).any (Zw (Ro l_ s_))=m_.any (Zw (Ro l_ s_))) (λ (g1:Int)=>(m_.length - g1).toNat) ?_ ?_
  ·intro ah g1 eX cZ;obtain ⟨dX,bN,bQ⟩:=eX;unfold NV;refine wi ?_ ?_<;>intro c2
   ·have hlt:g1.toNat<m_.length:=om;have hx:=(Om (Oo hlm _ (getD_in (i:=g1.toNat) dK hlt))).1;rw [drop_cons dK hlt,List.any_cons] at bQ;refine wm<|wn ?_;refine aG (gN λ hc=>lY (ED)) λ v6 hv6=>?_;subst v6;refine bW ?_ ?_<;>intro c3
    ·have kr:=c3;have c3:=fq c3;refine au ?_;(rw [ZF hlm hss]; unfold OE; rw [← bQ,show Zw (Ro l_ s_) (m_.getD g1.toNat dK)=true from kr]; rfl)
    ·have kr:=c3;have c3:=fq c3;refine wn<|cZ _ ?_ ?_
     ·(refine ⟨ob,ob,?_⟩; rw [← bQ,show Zw (Ro l_ s_) (m_.getD g1.toNat dK)=false from kr,show (g1+1).toNat=g1.toNat+1 by omega]; rfl)
     ·exact ob
   ·refine aG (Xg ob ob ob) λ v7 hv7=>?_;subst v7;refine au ?_;(rw [ZF hlm hss]; unfold OE; rw [← bQ,show g1.toNat=m_.length by omega,List.drop_length]; rfl)
  ·(refine ⟨ob,ob,rfl⟩)
theorem Hr.v (h:Hr p 0):aiD p:=by
 obtain ⟨h1,h2⟩:=vB (by decide) h;obtain ⟨h3,h4⟩:=vB (by decide) h2;have h5:=ak8 h4;have hg:∀i:Nat,(i:Int)<p.aH.length→GpV p.bZ (p.aH.getD i aJ)∧∀k:Nat,k<i→(p.aH.getD k aJ).xD.toList≠(p.aH.getD i aJ).xD.toList:=λ i hi=>by
  obtain ⟨a1,a2⟩:=vB (by decide) (h5 i om);obtain ⟨b1,b2⟩:=vB (by decide) a2;obtain ⟨c1,c2⟩:=vB (by decide) b2;obtain ⟨d1,d2⟩:=vB (by decide) c2;obtain ⟨e1,e2⟩:=vB (by decide) d2;obtain ⟨f1,f2⟩:=vB (by decide) e2;obtain ⟨k1,k2⟩:=vB (by decide) f2;obtain ⟨l1,_⟩:=vB (by decide) k2;refine ⟨⟨⟨om,om,oQ 0 λ j hj=>?_⟩,Classical.not_not.1 a1,λ k hk hl=>?_,λ j hj=>?_,λ k j hj hk e=>l1 ⟨k,j,hj,hk,e⟩⟩,λ k hk e=>b1 ⟨k,hk,e⟩⟩
  ·exact Classical.byContradiction λ q=>e1 ⟨j,om,q⟩
  ·exact Classical.byContradiction λ q=>f1 ⟨k,hk,hl,om⟩
  ·exact Classical.byContradiction λ q=>k1 ⟨j,hj,q⟩
 exact ⟨⟨om,om,oQ aJ λ i hi=>(hg i om).1.ok⟩,λ i hi=>(hg i hi).1,λ i k hk hi=>(hg i hi).2 k hk⟩
def apr (p:bP) (l:List oq) (i:Nat):Prop:=Xd p (l.getD i gq)∧(∀k:Nat,k<i→(l.getD k gq).dz≠(l.getD i gq).dz)∧
 ∀k:Nat,k<i→∀a b:Nat,(a:Int)<(p.aH.getD (l.getD k gq).dz.toNat aJ).bZ.length→(b:Int)<(p.aH.getD (l.getD i gq).dz.toNat aJ).bZ.length→(p.aH.getD (l.getD k gq).dz.toNat aJ).bZ.getD a 0≠(p.aH.getD (l.getD i gq).dz.toNat aJ).bZ.getD b 0
def Uj (p:bP) (l:List oq):Prop:=∀i:Nat,(i:Int)<l.length→apr p l i
theorem ZG {l_:List oq} (h1:∀g∈p_.aH,g.bZ.length≤2000000∧g.ak.length≤2000000) (h2:l_.length≤2000000):W (FD p_ l_) (λ r=>(r.2=0↔Hr p_ 0∧Uj p_ l_)):=by
 unfold FD;refine bM (λ (g1:(Int×(Nat→Int)×(Nat→Int)))=>0≤g1.1∧(∀x:Nat,(x:Int)<g1.1→g1.2.2 x = -1)) (λ (g1:(Int×(Nat→Int)×(Nat→Int)))=>(64 - g1.1).toNat) ?_ ?_
 ·intro ah g1 eX cZ;obtain ⟨dX,bN⟩:=eX;unfold Ni;refine wi ?_ ?_<;>intro c1
  ·refine wm<|cZ _ ?_ ?_
   ·(refine ⟨ob,λ x hx=>?_⟩; dsimp only at hx ⊢; by_cases q:x=g1.1.toNat; (rw [q,MR]); (rw [upd_ne q]; exact bN x om))
   ·exact ob
  ·refine aG (RA h1) λ v1 hv1=>?_;refine wi ?_ ?_<;>intro c2
   ·refine au ?_;(refine ⟨λ e=>by (try dsimp only at e); omega,λ ⟨a,_⟩=>absurd (Hr.fun _ _ hv1 a) c2⟩)
   ·have hpa:Hr p_ 0:=(by rw [c2] at hv1; exact hv1);have hpv:=hpa.v;obtain ⟨⟨p1,p2,p3⟩,gr,nm⟩:=id hpv;refine wn<|bM (λ (g2:(Int×(Nat→Int)×List Bool))=>0≤g2.1∧g2.2.2.length=p_.aH.length∧(∀x:Nat,x<64→(0≤g2.2.1 x↔∃j:Nat,(j:Int)<g2.1∧∃k:Nat,(k:Int)<(p_.aH.getD (l_.getD j gq).dz.toNat aJ).bZ.length∧(p_.aH.getD (l_.getD j gq).dz.toNat aJ).bZ.getD k 0=x))∧(∀x:Nat,g2.2.2.getD x false=true↔∃j:Nat,(j:Int)<g2.1∧(l_.getD j gq).dz=x)∧(∀i:Nat,(i:Int)<g2.1→apr p_ l_ i)) (λ (g2:(Int×(Nat→Int)×List Bool))=>(l_.length - g2.1).toNat) ?_ ?_
    ·intro dY g2 mU qZ;obtain ⟨sj,jG,pK,Ue,anP⟩:=mU;unfold KS;refine wi ?_ ?_<;>intro c3
     ·refine wm<|wi ?_ ?_<;>intro c4
      ·refine au ?_;(refine ⟨λ e=>by (try dsimp only at e); omega,λ ⟨_,h⟩=>?_⟩; obtain ⟨⟨u1,u2,u3,u4⟩,_⟩:=h g2.1.toNat om; omega)
      ·have hu:Xd p_ (l_.getD g2.1.toNat gq):=⟨om,om,om,om⟩;obtain ⟨u1,u2,u3,u4⟩:=id hu;refine wn<|bW ?_ ?_<;>intro c5
       ·have Dr:=c5;have c5:=fq c5;refine au ?_;(refine ⟨λ e=>by (try dsimp only at e); omega,λ ⟨_,h⟩=>?_⟩; obtain ⟨_,hd,_⟩:=h g2.1.toNat om; obtain ⟨j,e3,e4⟩:=(Ue _).1 Dr; exact absurd e4 (λ e4=>hd j om om))
       ·have Dr:=c5;have c5:=fq c5;refine wm<|bM (λ (g5:(Int×(Nat→Int)×List Bool))=>0≤g5.1∧g5.1≤(p_.aH.getD (l_.getD g2.1.toNat gq).dz.toNat aJ).bZ.length∧g5.2.2.length=p_.aH.length∧(∀x:Nat,x<64→(0≤g5.2.1 x↔(∃j:Nat,(j:Int)<g2.1∧∃k:Nat,(k:Int)<(p_.aH.getD (l_.getD j gq).dz.toNat aJ).bZ.length∧(p_.aH.getD (l_.getD j gq).dz.toNat aJ).bZ.getD k 0=x)∨∃k:Nat,(k:Int)<g5.1∧(p_.aH.getD (l_.getD g2.1.toNat gq).dz.toNat aJ).bZ.getD k 0=x))∧(∀x:Nat,g5.2.2.getD x false=true↔∃j:Nat,(j:Int)<g2.1+1∧(l_.getD j gq).dz=x)∧(∀b:Nat,(b:Int)<g5.1→∀j:Nat,(j:Int)<g2.1→∀a:Nat,(a:Int)<(p_.aH.getD (l_.getD j gq).dz.toNat aJ).bZ.length→(p_.aH.getD (l_.getD j gq).dz.toNat aJ).bZ.getD a 0≠(p_.aH.getD (l_.getD g2.1.toNat gq).dz.toNat aJ).bZ.getD b 0)) (λ (g5:(Int×(Nat→Int)×List Bool))=>((p_.aH.getD (l_.getD g2.1.toNat gq).dz.toNat aJ).bZ.length - g5.1).toNat) ?_ ?_
        ·intro nC g5 VA VB;obtain ⟨Rt,Gg,Ub,ahi,anQ,anR⟩:=VA;unfold KR;refine wi ?_ ?_<;>intro c6
         ·have hmg:=getD_in (l:=p_.aH) (i:=(l_.getD g2.1.toNat gq).dz.toNat) aJ om;have hgl:=(h1 _ hmg).1;have hpn:=(p3 _ hmg).pn _ (getD_in (i:=g5.1.toNat) 0 om);refine wm<|wi ?_ ?_<;>intro c7
          ·refine au ?_;(refine ⟨λ e=>by (try dsimp only at e); omega,λ ⟨_,h⟩=>?_⟩; obtain ⟨_,_,hd⟩:=h g2.1.toNat om; exfalso; rcases (ahi _ om).1 c7 with ⟨j,e3,k,e5,e6⟩ | ⟨k,e5,e6⟩; (exact hd j om k g5.1.toNat e5 om (by rw [e6]; omega)); (have:=Ui hpv u1 u2 k g5.1.toNat om om; omega))
          ·refine wm<|VB _ ?_ ?_
           ·(refine ⟨ob,ob,ob,λ x hx=>?_,anQ,λ b hb j hj a ha=>?_⟩; (dsimp only; by_cases q:x=((p_.aH.getD (l_.getD g2.1.toNat gq).dz.toNat aJ).bZ.getD g5.1.toNat 0).toNat; (rw [q,MR]; constructor; (intro _; exact .inr ⟨g5.1.toNat,om,om⟩); (intro _; omega)); (rw [upd_ne q,ahi x hx]; constructor; (rintro (h | ⟨k,e5,e6⟩); (exact .inl h); (exact .inr ⟨k,om,e6⟩)); (rintro (h | ⟨k,e5,e6⟩); (exact .inl h); (refine .inr ⟨k,?_,e6⟩; by_cases e:(k:Int)<g5.1; (exact e); exfalso; apply q; rw [show g5.1.toNat=k by omega]; omega)))); (by_cases q:(b:Int)<g5.1; (exact anR b q j hj a ha); (have e:b=g5.1.toNat:=by (try dsimp only at hb); omega); subst e; intro e7; have e8:=(ahi ((p_.aH.getD (l_.getD g2.1.toNat gq).dz.toNat aJ).bZ.getD g5.1.toNat 0).toNat om).2 (.inl ⟨j,hj,a,ha,by rw [e7]; omega⟩); omega))
           ·exact ob
         ·refine wn<|qZ _ ?_ ?_
          ·(refine ⟨ob,Ub,λ x hx=>?_,λ x=>anQ x,eO anP sj ⟨hu,λ k hk e=>?_,λ k hk a b ha hb=>anR b om k om a ha⟩⟩; (dsimp only; rw [ahi x hx]; constructor; (rintro (⟨j,e3,e⟩ | ⟨k,e5,e6⟩); (exact ⟨j,om,e⟩); (exact ⟨g2.1.toNat,om,k,om,e6⟩)); (rintro ⟨j,e3,k,e5,e6⟩; by_cases q:(j:Int)<g2.1; (exact .inl ⟨j,q,k,e5,e6⟩); (have e:j=g2.1.toNat:=by omega); subst e; exact .inr ⟨k,om,e6⟩)); (rw [(Ue _).2 ⟨k,om,om⟩] at c5; cases c5))
          ·exact ob
        ·(refine ⟨ob,ob,ob,λ x hx=>⟨λ h=>.inl ((pK x hx).1 h),?_⟩,λ x=>?_,λ b hb=>?_⟩; (rintro (h | ⟨k,e5,_⟩); (exact (pK x hx).2 h); (exfalso; (try dsimp only at e5); omega)); (dsimp only; by_cases q:x=(l_.getD g2.1.toNat gq).dz.toNat; (rw [q,amZ om]; exact ⟨λ _=>⟨g2.1.toNat,om,om⟩,λ _=>rfl⟩); (rw [amY q,Ue]; constructor; (rintro ⟨j,e3,e4⟩; exact ⟨j,om,e4⟩); (rintro ⟨j,e3,e4⟩; refine ⟨j,?_,e4⟩; by_cases e:(j:Int)<g2.1; (exact e); exfalso; apply q; rw [show g2.1.toNat=j by omega]; omega))); (exfalso; (try dsimp only at hb); omega))
     ·refine au ?_;(refine ⟨λ _=>⟨hpa,λ i hi=>anP i om⟩,λ _=>rfl⟩)
    ·(refine ⟨ob,by simp,λ x hx=>⟨λ h=>?_,λ ⟨j,e,_⟩=>?_⟩,λ x=>⟨λ hx=>?_,λ ⟨j,e,_⟩=>?_⟩,λ j hj=>?_⟩; (exfalso; have:=bN x om; (try dsimp only at h); omega); (exfalso; (try dsimp only at e); omega); (exfalso; dsimp only at hx; rw [List.getD_eq_getElem?_getD,List.getElem?_replicate] at hx; split at hx<;>simp at hx); (exfalso; (try dsimp only at e); omega); (exfalso; (try dsimp only at hj); omega))
 ·(refine ⟨ob,λ j hj=>by (try dsimp only at hj); omega⟩)
def GSz (p:bP):Prop:=∀g∈p.aH,g.bZ.length≤2000000∧g.ak.length≤2000000
def nmU (p:bP) (u:oq):ByteArray:=((p.aH.getD u.dz.toNat aJ).ak.getD u.dM.toNat ByteArray.empty)
def acW (p:bP) (us:List aP) (m:Int) (f:ByteArray):Nat:=us.countP λ u=>(u.gG==m)&&decide (nmU p u.jd=f)
def cntF (l:List ByteArray) (f:ByteArray):Nat:=l.countP λ x=>decide (x=f)
variable {f:ByteArray}
theorem PU {us:List aP} {u:aP} {m:Int} :acW p (us++[u]) m f=acW p us m f+(if u.gG=m∧nmU p u.jd=f then 1 else 0):=by
 unfold acW;rw [List.countP_append,List.countP_singleton];congr 1;simp only [Bool.and_eq_true,beq_iff_eq,decide_eq_true_eq]
theorem PV {x:ByteArray} :cntF (l++[x]) f=cntF l f+(if x=f then 1 else 0):=by
 unfold cntF;rw [List.countP_append,List.countP_singleton];congr 1;simp only [decide_eq_true_eq]
theorem aiF (k:Nat):cntF (l.take k) f≤cntF l f:=by
 unfold cntF;conv=>rhs; rw [← List.take_append_drop k l]
 rw [List.countP_append]; omega
theorem ZH {l:List ay} (h1:eG l=0) (h2:kg l s=true):(wB l s).2=0:=by
 unfold wB;rw [h1,h2]; rfl
theorem abw {r:bK} (hv:nR r=true) (h:oO r=false):r.jS≠0:=by
 intro e;obtain ⟨_,_,h3,_,h5⟩:=lV hv;rw [e] at h5;unfold jy at h5;rw [show (0:Int).toNat=0 from rfl,Nat.gcd_zero_left] at h5;have:r.jv=1:=by omega
 unfold oO at h;rw [e,this] at h;cases h
theorem agn {r:bK} {lo hi:Int} (h:r9 r lo hi=true):lo*r.jv≤r.jS∧r.jS≤hi*r.jv:=by
 unfold r9 at h;simp only [Bool.and_eq_true,Bool.or_eq_true,decide_eq_true_eq,beq_iff_eq] at h;obtain ⟨hv,h1,h2⟩:=h;obtain ⟨n0,_,d1,_,_⟩:=lV hv;have e:=Int.mul_tdiv_add_tmod r.jS r.jv;have m0:=Int.tmod_nonneg r.jv n0;have m1:=Int.tmod_lt_of_pos r.jS (show 0<r.jv by omega);have e2:r.jv*r.jS.tdiv r.jv=r.jS.tdiv r.jv*r.jv:=Int.mul_comm _ _;have l1:lo*r.jv≤r.jS.tdiv r.jv*r.jv:=Int.mul_le_mul_of_nonneg_right h1 om;refine ⟨om,?_⟩;rcases h2 with h2 | ⟨h2,h3⟩
 ·have l2:(r.jS.tdiv r.jv+1)*r.jv≤hi*r.jv:=Int.mul_le_mul_of_nonneg_right h2 om;rw [Int.add_mul,Int.one_mul] at l2;omega
 ·rw [← h2]; omega
theorem Je {β:Type} {f:α→β} {l:List α} {k:Nat} {d:α} {e:β} (h:k<l.length):(l.map f).getD k e=f (l.getD k d):=by
 rw [List.getD_eq_getElem?_getD,List.getElem?_map,List.getD_eq_getElem?_getD,List.getElem?_eq_getElem h]; rfl
end Go.Proofs.YtifekdmmpbcdgaaGreatDoor

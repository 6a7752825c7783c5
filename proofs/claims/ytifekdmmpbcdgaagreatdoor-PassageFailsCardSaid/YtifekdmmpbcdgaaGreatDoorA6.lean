/- An abstract machine over the model's code, that it is sound; models of the functions and their proofs. -/
import Derived.Test.YtifekdmmpbcdgaaGreatDoorA5
set_option linter.unusedVariables false
set_option linter.unusedSimpArgs false
set_option maxHeartbeats 4000000
namespace Go.Proofs.YtifekdmmpbcdgaaGreatDoor
open Go.Ab
set_option maxRecDepth 100000
def ajT (r:List dL) (on:List Bool) (l:List ay) (j:Nat):Bool:=((on.getD j false)&&((l.getD j aV).gF != 0))&&!vO (r.getD j gW) (l.getD j aV).Low (l.getD j aV).gF
def aeV (l:List ay) (st:List dL×List Bool):Bool:=(List.range l.length).all λ i=>!ajT st.1 st.2 l i
def M5 (st:List dL×List Bool) (x:bg):Bool:=!(st.2.getD x.fJ.toNat false)||!vO (st.1.getD x.fJ.toNat gW) x.Low x.gF
def Dw (l:List ay) (s:List Int) (m:List bg):Bool:=!m.any (M5 (Gl l s))&&aeV l (Gl l s)
def VS (l:List ay) (s:List Int):Prop:=s.length=l.length∧∀i,i<l.length→0≤s.getD i 0∧s.getD i 0<(l.getD i aV).aR.length
def gq:List ay→Nat
 | []=>1
 | c::l=>c.aR.length*gq l
def gK:List ay→List Int→Nat
 | c::l,x::t=>x.toNat*gq l+gK l t
 | _,_=>0
variable {l:List ay} {s:List Int}
theorem QG {c:ay} (h:VS (c::l) s):∃x t,s=x::t∧0≤x∧x<c.aR.length∧VS l t:=by
 obtain ⟨h1,h2⟩:=h;cases s with
 | nil=>cases h1
 | cons x t=>
  have h0:=h2 0 (by simp);exact ⟨x,t,rfl,h0.1,h0.2,by simpa using h1,λ i hi=>h2 (i+1) (by simpa using hi)⟩
theorem tQ:∀ {s:List Int},VS l s→gK l s<gq l:=by
 induction l with
 | nil=>intro s _; cases s<;>simp [gK,gq]
 | cons c l ih=>
  intro s h;obtain ⟨x,t,rfl,h1,h2,h3⟩:=QG h;have:=ih h3;rw [gK,gq];have h4:(x.toNat+1)*gq l≤c.aR.length*gq l:=Nat.mul_le_mul_right _ om;rw [Nat.add_mul,Nat.one_mul] at h4;omega
theorem adj:∀ {s:List Int},(∀j,j<l.length→s.getD j 0=0)→gK l s=0:=by
 induction l with
 | nil=>intro s _; cases s<;>rfl
 | cons c l ih=>
  intro s h;cases s with
  | nil=>rfl
  | cons x t=>
   have h0:=h 0 (by simp);have h0:x=0:=h0;rw [gK,h0,ih λ j hj=>h (j+1) (by simpa using hj)];simp
theorem afZ:∀ {s:List Int},VS l s→(∀j,j<l.length→s.getD j 0+1=(l.getD j aV).aR.length)→gK l s+1=gq l:=by
 induction l with
 | nil=>intro s h _; cases s<;>rfl
 | cons c l ih=>
  intro s hv h;obtain ⟨x,t,rfl,h1,h2,h3⟩:=QG hv;have h0:x+1=c.aR.length:=h 0 (by simp);have:=ih h3 λ j hj=>h (j+1) (by simpa using hj);rw [gK,gq,show c.aR.length=x.toNat+1 by omega,Nat.add_mul,Nat.one_mul];omega
theorem ajU:∀ {s t:List Int} {k:Nat},VS l s→k<l.length→t.length=l.length→(∀j,j<k→t.getD j 0=s.getD j 0)→t.getD k 0=s.getD k 0+1→(∀j,k<j→j<l.length→t.getD j 0=0∧s.getD j 0+1=(l.getD j aV).aR.length)→gK l t=gK l s+1:=by
 induction l with
 | nil=>intro s t k _ h; exact absurd h (Nat.not_lt_zero _)
 | cons c l ih=>
  intro s t k hv hk hl h1 h2 h3;obtain ⟨x,s,rfl,g1,g2,g3⟩:=QG hv;cases t with
  | nil=>cases hl
  | cons y t=>
   cases k with
   | zero=>
    have h2:y=x+1:=h2;have e1:=adj (l:=l) (s:=t) λ j hj=>(h3 (j+1) om (by simpa using hj)).1;have e2:=afZ g3 λ j hj=>(h3 (j+1) om (by simpa using hj)).2;rw [gK,gK,e1,h2,show (x+1).toNat=x.toNat+1 by omega,Nat.add_mul,Nat.one_mul];omega
   | succ k=>
    have h0:y=x:=h1 0 om;have:=ih g3 (by simpa using hk) (by simpa using hl) (λ j hj=>h1 (j+1) om) h2 (λ j a b=>h3 (j+1) om (by simpa using b));rw [gK,gK,h0,this];omega
theorem alS {t:List Int} {k:Nat} (hv:VS l s) (hk:k<l.length) (hl:t.length=l.length) (h1:∀j,j<k→t.getD j 0=s.getD j 0) (h2:t.getD k 0=s.getD k 0+1) (h3:∀j,k<j→j<l.length→t.getD j 0=0∧s.getD j 0+1=(l.getD j aV).aR.length) (h4:s.getD k 0+1<(l.getD k aV).aR.length):VS l t∧gK l t=gK l s+1:=by
 refine ⟨⟨hl,λ i hi=>?_⟩,ajU hv hk hl h1 h2 h3⟩;have:=hv.2 i hi;rcases Nat.lt_trichotomy i k with h | h | h
 ·rw [h1 i h]; exact this
 ·subst h; omega
 ·have:=h3 i h hi; omega
theorem Hu (h:VS l s):uH l s=true:=by
 unfold uH;rw [h.1,beq_self_eq_true,Bool.true_and,List.all_eq_true];intro i hi;have:=h.2 i (by have:=List.mem_range.1 hi; omega);exact (within_iff _ _ _).2 om
theorem ahn (l:List ay) (c:ay):gq (l++[c])=gq l*c.aR.length:=by
 induction l with
 | nil=>simp [gq]
 | cons a l ih=>rw [List.cons_append,gq,gq,ih,Nat.mul_assoc]
theorem aho (h:∀c∈l,1≤c.aR.length):Du l=Yx (gq l) 1099511627776:=by
 induction l using Mx with
 | nil=>rfl
 | append_singleton l c ih=>
  have hc:=h c (by simp);rw [aeL,ih λ x hx=>h x (by simp [hx]),ahn,Int.natCast_mul];generalize ((gq l:Nat):Int)=a;generalize hb:(c.aR.length:Int)=b;have hb1:1≤b:=by omega
  unfold Yx;by_cases h1:(1099511627776:Int)<a
  ·have h2:(1099511627776:Int)<a*b:=by
    have:=Int.mul_le_mul_of_nonneg_left hb1 (show 0≤a by omega);omega
   have h3:(1099511627776:Int)≤1099511627776*b:=by omega
   rw [if_pos h1,if_pos h2];split<;>omega
  ·rw [if_neg h1]
theorem size_le (h:Yy l):gq l≤4096:=by
 have hp:=h.prod;rw [aho λ c hc=>by
  obtain ⟨k,hk,rfl⟩:=List.mem_iff_getElem.1 hc;have:=Ua (lg (h.valid k hk));rw [List.getD_eq_getElem?_getD,List.getElem?_eq_getElem hk] at this;simp only [Option.getD_some] at this;omega] at hp
 unfold Yx at hp;split at hp<;>omega
theorem alT (h:Yy l):VS l (List.replicate (l.length:Int).toNat 0):=by
 refine ⟨by simp,λ i hi=>?_⟩;have:=Ua (lg (h.valid i hi));rw [Sp.r9];omega
theorem ahp {m:List bg} (h:((bif fq l != 0 then fq l else bif !lJ l m then 1 else 0) != 0)=false):fq l=0∧lJ l m=true:=by
 cases h1:fq l != 0 with
 | true=>rw [h1] at h; simp only [cond_true] at h; rw [h1] at h; cases h
 | false=>
  cases h2:lJ l m with
  | false=>rw [h1,h2] at h; cases h
  | true=>exact ⟨by simpa using h1,rfl⟩
theorem alU {m:List bg} (h:lJ l m=true):∀x∈m,0≤x.fJ∧x.fJ<l.length:=λ x hx=>(Qt (Qu h x hx)).1
theorem vQ {r_:dL} {MR:Int} {wD:Int}:W (nS r_ MR wD) (λ r=>r=vO r_ MR wD):=by
 unfold nS;refine aL (xR) λ v1 hv1=>?_;subst v1;refine cO ?_ ?_<;>intro c1
 ·have jf:=c1;have c1:=fA c1;refine aK ?_;(unfold vO; rw [show vN r_=false by simpa using jf]; rfl)
 ·have jf:=c1;have c1:=fA c1;have hv:=tL (r:=r_) (by simpa using jf);have q1:=tdiv_le r_.pQ r_.lK hv.1 om;refine wm<|aK ?_;(unfold vO; rw [show vN r_=true by simpa using jf]; rfl)
theorem LG {l_:List ay} {r_:List dL} {xM:List Bool} (h1:l_.length≤2000000) (h2:r_.length=l_.length) (h3:xM.length=l_.length):W (AP l_ r_ xM) (λ r=>r=aeV l_ (r_,xM)):=by
 unfold AP;refine cu (λ (g1:Int)=>0≤g1∧g1≤l_.length∧(∀j:Nat,(j:Int)<g1→ajT r_ xM l_ j=false)) (λ (g1:Int)=>(l_.length - g1).toNat) ?_ ?_
 ·intro ah g1 fZ dS;obtain ⟨fI,eG,dI⟩:=fZ;unfold Qf;refine wi ?_ ?_<;>intro c1
  ·refine wm<|wn ?_;refine aL (mM λ hc=>D8 (vQ)) λ v3 hv3=>?_;subst v3;refine cO ?_ ?_<;>intro c2
   ·have oN:=c2;have c2:=fA c2;refine aK ?_;(unfold aeV; rw [Lr (i:=g1.toNat) om (by rw [show ajT r_ xM l_ g1.toNat=true from oN]; rfl)])
   ·have oN:=c2;have c2:=fA c2;refine wn<|dS _ ?_ ?_
    ·(refine ⟨ob,ob,fO dI fI oN⟩)
    ·exact ob
  ·refine aK ?_;(unfold aeV; rw [N8 λ j hj=>(by rw [dI j om]; rfl)])
 ·(refine ⟨ob,ob,λ j hj=>by omega⟩)
theorem abd {l_:List ay} {s_:List Int} {m_:List bg} (h1:Good l_ s_) (h2:Up l_ s_) (h3:m_.length≤2000000) (h4:∀x∈m_,0≤x.fJ∧x.fJ<l_.length):W (GX l_ s_ m_) (λ r=>r=Dw l_ s_ m_):=by
 have hsm:=h1.small;have hst:=Hr l_ s_ l_.length;unfold GX;refine aL (BL ob ob) λ v1 hv1=>?_;subst v1;have hs1:(Gl l_ s_).1.length=l_.length:=hst.1;have hs2:(Gl l_ s_).2.length=l_.length:=hst.2;refine cu (λ (g1:Int)=>0≤g1∧g1≤m_.length∧(m_.drop g1.toNat).any (M5 (Gl l_ s_))=m_.any (M5 (Gl l_ s_))) (λ (g1:Int)=>(m_.length - g1).toNat) ?_ ?_
 ·intro ah g1 fZ dS;obtain ⟨fI,eG,dI⟩:=fZ;unfold NI;refine wi ?_ ?_<;>intro c1
  ·have hlt:g1.toNat<m_.length:=om;have hx:=h4 _ (getD_in (i:=g1.toNat) dU hlt);rw [drop_cons dU hlt,List.any_cons] at dI;refine wm<|wn ?_;refine aL (mM λ hc=>D8 (vQ)) λ v4 hv4=>?_;subst v4;refine cO ?_ ?_<;>intro c2
   ·have oN:=c2;have c2:=fA c2;refine aK ?_;(unfold Dw; rw [← dI,show M5 (Gl l_ s_) (m_.getD g1.toNat dU)=true from oN]; rfl)
   ·have oN:=c2;have c2:=fA c2;refine wn<|dS _ ?_ ?_
    ·(refine ⟨ob,ob,?_⟩; rw [← dI,show M5 (Gl l_ s_) (m_.getD g1.toNat dU)=false from oN,show (g1+1).toNat=g1.toNat+1 by omega]; rfl)
    ·exact ob
  ·refine aL (LG ob ob ob) λ v5 hv5=>?_;subst v5;refine aK ?_;(unfold Dw; rw [← dI,show g1.toNat=m_.length by omega,List.drop_length]; rfl)
 ·(refine ⟨ob,ob,rfl⟩)
end Go.Proofs.YtifekdmmpbcdgaaGreatDoor
namespace Go.Proofs.YtifekdmmpbcdgaaGreatDoor
open Go.Ab
set_option maxRecDepth 100000
variable {α:Type} {i:Nat}
theorem Ew {β:Type} (f:α→β) (l:List α) (d:α) (h:i<l.length):(l.take (i+1)).map f=(l.take i).map f++[f (l.getD i d)]:=by
 rw [List.take_add_one,List.map_append,List.getElem?_eq_getElem h,List.getD_eq_getElem?_getD,List.getElem?_eq_getElem h];rfl
def aqi (g:dD) (f:ByteArray):Int:=Qm g.aI λ x=>f.toList==x.toList
def atn (p:bL) (f:ByteArray) (n:Nat):List Int:=((List.range n).filter λ i=>decide (0≤aqi (p.aG.getD i aM) f)).map λ i=>((i:Nat):Int)
structure QH (s:ByteArray):Prop where
 sz:0<s.size∧s.size≤16
 b0:97≤iE s 0∧iE s 0≤122
 bs:∀j:Nat,(j:Int)<s.size→iE s j=45∨(48≤iE s j∧iE s j≤57)∨(97≤iE s j∧iE s j≤122)
structure GpV (n:Int) (g:dD):Prop where
 ok:aqe n g
 nw:QH g.EF
 so:∀k:Nat,1≤k→(k:Int)<g.dz.length→g.dz.getD (k - 1) 0<g.dz.getD k 0
 fw:∀j:Nat,(j:Int)<g.aI.length→QH (g.aI.getD j ByteArray.empty)
 fd:∀k j:Nat,j<k→(k:Int)<g.aI.length→(g.aI.getD j ByteArray.empty).toList≠(g.aI.getD k ByteArray.empty).toList
structure adk (p:bL):Prop where
 ok:amL p
 gr:∀i:Nat,(i:Int)<p.aG.length→GpV p.dz (p.aG.getD i aM)
 nm:∀i k:Nat,k<i→(i:Int)<p.aG.length→(p.aG.getD k aM).EF.toList≠(p.aG.getD i aM).EF.toList
structure RsV (l:List eu):Prop where
 ok:aov l
 so:∀i:Nat,(i:Int)<l.length→∀k:Nat,1≤k→(k:Int)<((l.getD i eU).fV).length→((l.getD i eU).fV).getD (k - 1) 0<((l.getD i eU).fV).getD k 0
structure BdV (b:aP):Prop where
 cl:fq b.bT=0
 su:Sp.fq b.bD=0
 pn:adk b.aQ
 rs:RsV b.bf
 dm:aow b.bO
def Xy (l:List Int):Prop:=∀i j:Nat,i<j→(j:Int)<l.length→l.getD i 0<l.getD j 0
theorem aoA {l:List Int} (h:∀k:Nat,1≤k→(k:Int)<l.length→l.getD (k - 1) 0<l.getD k 0):Xy l:=by
 intro i j hij;induction j with
 | zero=>omega
 | succ j ih=>
  intro hj;have h1:=h (j+1) om hj;rw [Nat.add_sub_cancel] at h1;by_cases e:i=j
  ·rw [e]; exact h1
  ·have:=ih om om; omega
def ahq (p:bL) (x y:Int):Prop:=∀i j:Nat,(i:Int)<(p.aG.getD x.toNat aM).dz.length→(j:Int)<(p.aG.getD y.toNat aM).dz.length→(p.aG.getD x.toNat aM).dz.getD i 0≠(p.aG.getD y.toNat aM).dz.getD j 0
def alV (p:bL) (x:Int) (f:ByteArray):Prop:=∃k:Nat,(k:Int)<(p.aG.getD x.toNat aM).aI.length∧((p.aG.getD x.toNat aM).aI.getD k ByteArray.empty).toList=f.toList
structure YH (p:bL) (l:List ByteArray) (gs:List Int):Prop where
 ir:∀x∈gs,0≤x∧x<p.aG.length
 off:∀k:Nat,(k:Int)<gs.length→alV p (gs.getD k 0) (l.getD k ByteArray.empty)
 dj:∀k j:Nat,j<k→(k:Int)<gs.length→ahq p (gs.getD j 0) (gs.getD k 0)
def ahr (l:List eu) (s:List Bool):Prop:=∀i:Nat,(i:Int)<l.length→s.getD i false=true→∀x∈(l.getD i eU).fV,s.getD x.toNat false=true
structure ajV (l:List dG) (s:List Bool):Prop where
 al:∀i:Nat,(i:Int)<l.length→(l.getD i eY).gY=true→s.getD i false=true
 pa:∀i:Nat,(i:Int)<l.length→s.getD i false=true→0≤(l.getD i eY).bG→s.getD (l.getD i eY).bG.toNat false=true
variable {j:Nat}
theorem Hw {l:List Bool} (h:l.getD i false=true∨i=j) (hj:j<l.length):(l.set j true).getD i false=true:=by
 by_cases e:i=j
 ·subst e; rw [List.getD_eq_getElem?_getD,List.getElem?_set_self hj]; rfl
 ·rw [List.getD_eq_getElem?_getD,List.getElem?_set_ne (Ne.symm e),← List.getD_eq_getElem?_getD]; exact h.resolve_right e
theorem xS {l:List Bool} {b:Bool} (h:i≠j):(l.set j b).getD i false=l.getD i false:=by
 rw [List.getD_eq_getElem?_getD,List.getElem?_set_ne (Ne.symm h),← List.getD_eq_getElem?_getD]
theorem QI {l:List Bool} {b:Bool} (hj:j<l.length):(l.set j b).getD j false=b:=by
 rw [List.getD_eq_getElem?_getD,List.getElem?_set_self hj]; rfl
def RgK (l:List dG) (s:List Bool) (k:Nat):Prop:=((l.getD k eY).gY=true→s.getD k false=true)∧(s.getD k false=true→0≤(l.getD k eY).bG→s.getD (l.getD k eY).bG.toNat false=true)
theorem QJ {s:List Bool} {b:Bool} (hi:i<s.length) (h:s.getD j false=true):(s.set i (s.getD i false||b)).getD j false=true:=by
 by_cases e:j=i
 ·subst e; rw [QI hi,h]; rfl
 ·rw [xS e]; exact h
variable {g:Int}
theorem aqk {l:List dG} {s:List Bool} (h0:0≤g) (hs:s.length=l.length) (h:∀k:Nat,g<(k:Int)→(k:Int)<l.length→RgK l s k)
  (hn:¬ ((s.set g.toNat (s.getD g.toNat false||(l.getD g.toNat eY).gY)).getD g.toNat false=true∧0≤(l.getD g.toNat eY).bG)) {k:Nat} (hk:g≤(k:Int)) (hl:(k:Int)<l.length):RgK l (s.set g.toNat (s.getD g.toNat false||(l.getD g.toNat eY).gY)) k:=by
 by_cases e:k=g.toNat
 ·subst e;refine ⟨λ h1=>?_,λ h1 h2=>absurd ⟨h1,h2⟩ hn⟩;rw [QI om,h1,Bool.or_true]
 ·obtain ⟨h1,h2⟩:=h k om hl;refine ⟨λ q=>by rw [xS e]; exact h1 q,λ q1 q2=>?_⟩;rw [xS e] at q1;exact QJ om (h2 q1 q2)
theorem aql {l:List dG} {s:List Bool} (h0:0≤g) (hs:s.length=l.length) (hp:0≤(l.getD g.toNat eY).bG∧(l.getD g.toNat eY).bG<g) (h:∀k:Nat,g<(k:Int)→(k:Int)<l.length→RgK l s k)
  {k:Nat} (hk:g≤(k:Int)) (hl:(k:Int)<l.length):RgK l ((s.set g.toNat (s.getD g.toNat false||(l.getD g.toNat eY).gY)).set (l.getD g.toNat eY).bG.toNat true) k:=by
 have hne:k≠(l.getD g.toNat eY).bG.toNat:=by omega
 have hlen:(l.getD g.toNat eY).bG.toNat<(s.set g.toNat (s.getD g.toNat false||(l.getD g.toNat eY).gY)).length:=by rw [List.length_set]; omega
 by_cases e:k=g.toNat
 ·subst e;refine ⟨λ h1=>?_,λ h1 h2=>QI hlen⟩;rw [xS hne,QI om,h1,Bool.or_true]
 ·obtain ⟨h1,h2⟩:=h k om hl;refine ⟨λ q=>by rw [xS hne,xS e]; exact h1 q,λ q1 q2=>?_⟩;rw [xS hne,xS e] at q1;exact Hw (.inl (QJ om (h2 q1 q2))) hlen
variable {p:bL}
theorem Xz (h:adk p) {x:Int} (h0:0≤x) (h1:x<p.aG.length):Xy (p.aG.getD x.toNat aM).dz:=aoA λ k h2 h3=>(h.gr x.toNat om).so k h2 h3
theorem LH {g_:dD} {gV:ByteArray} (h1:g_.aI.length≤2000000):W (FD g_ gV) (λ r => -1≤r∧r<g_.aI.length∧(0≤r→(g_.aI.getD r.toNat ByteArray.empty).toList=gV.toList)∧(r<0→∀k:Nat,(k:Int)<g_.aI.length→(g_.aI.getD k ByteArray.empty).toList≠gV.toList)):=by
 unfold FD;refine cu (λ (g1:Int)=>0≤g1∧(∀k:Nat,(k:Int)<g1→(g_.aI.getD k ByteArray.empty).toList≠gV.toList)) (λ (g1:Int)=>(g_.aI.length - g1).toNat) ?_ ?_
 ·intro ah g1 fZ dS;obtain ⟨fI,eG⟩:=fZ;unfold TW;refine wi ?_ ?_<;>intro c1
  ·refine wn<|cO ?_ ?_<;>intro c2
   ·have oN:=c2;have c2:=fA c2;refine aK ?_;(refine ⟨om,om,λ _=>by simpa using oN,λ h=>by omega⟩)
   ·have oN:=c2;have c2:=fA c2;refine wn<|dS _ ?_ ?_
    ·(refine ⟨ob,fO eG fI (by simpa using oN)⟩)
    ·exact ob
  ·refine aK ?_;(refine ⟨om,om,λ h=>by omega,λ _ k hk=>eG k om⟩)
 ·(refine ⟨ob,λ j hj=>by (try dsimp only at hj); omega⟩)
theorem XA {a_:List Int} {b_:List Int} (h1:a_.length≤2000000) (h2:b_.length≤2000000) (h3:Xy a_) (h4:Xy b_):W (Dp a_ b_) (λ r=>r=false→∀i j:Nat,(i:Int)<a_.length→(j:Int)<b_.length→a_.getD i 0≠b_.getD j 0):=by
 unfold Dp;refine cu (λ (g1:Int×Int)=>0≤g1.1∧0≤g1.2∧(∀i j:Nat,(i:Int)<a_.length→(j:Int)<b_.length→((i:Int)<g1.1∨(j:Int)<g1.2)→a_.getD i 0≠b_.getD j 0)) (λ (g1:Int×Int)=>(a_.length - g1.1).toNat+(b_.length - g1.2).toNat) ?_ ?_
 ·intro ah g1 fZ dS;obtain ⟨fI,eG,dI⟩:=fZ;unfold La;refine cO ?_ ?_<;>intro c1
  ·have jf:=c1;have c1:=fA c1;refine wm<|wi ?_ ?_<;>intro c2
   ·exact aK<|ob
   ·refine wm<|wi ?_ ?_<;>intro c3
    ·refine wn<|dS _ ?_ ?_
     ·(refine ⟨ob,ob,λ i j hi hj hc=>?_⟩; by_cases q:(i:Int)<g1.1∨(j:Int)<g1.2; (exact dI i j hi hj q); (have e:i=g1.1.toNat:=by (try dsimp only at hc); omega); subst e; by_cases e2:j=g1.2.toNat; (subst e2; omega); (have:=h4 g1.2.toNat j om hj); omega)
     ·exact ob
    ·refine wn<|dS _ ?_ ?_
     ·(refine ⟨ob,ob,λ i j hi hj hc=>?_⟩; by_cases q:(i:Int)<g1.1∨(j:Int)<g1.2; (exact dI i j hi hj q); (have e:j=g1.2.toNat:=by (try dsimp only at hc); omega); subst e; by_cases e2:i=g1.1.toNat; (subst e2; omega); (have:=h3 g1.1.toNat i om hi); omega)
     ·exact ob
  ·have jf:=c1;have c1:=fA c1;refine aK ?_;(intro _ i j hi hj; refine dI i j hi hj ?_; simp only [Bool.and_eq_false_iff,decide_eq_false_iff_not] at jf; omega)
 ·(refine ⟨ob,ob,λ i j h1 h2 h3=>by (try dsimp only at h3); omega⟩)
variable {p_:bL}
theorem Og {eH:List Int} {g_:Int} (h1:∀g∈p_.aG,g.dz.length≤2000000∧g.aI.length≤2000000) (h2:eH.length≤2000000) (h3:∀x∈eH,0≤x∧x<p_.aG.length) (h4:0≤g_) (h5:g_<p_.aG.length) (h6:adk p_):W (Bw p_ eH g_) (λ r=>r=true→∀j:Nat,(j:Int)<eH.length→ahq p_ (eH.getD j 0) g_):=by
 have hgl:=h1 _ (getD_in (i:=g_.toNat) aM om);unfold Bw;refine cu (λ (g1:Int)=>0≤g1∧(∀j:Nat,(j:Int)<g1→ahq p_ (eH.getD j 0) g_)) (λ (g1:Int)=>(eH.length - g1).toNat) ?_ ?_
 ·intro ah g1 fZ dS;obtain ⟨fI,eG⟩:=fZ;unfold NQ;refine wi ?_ ?_<;>intro c1
  ·have hx:=h3 _ (getD_in (i:=g1.toNat) 0 om);have hgx:=h1 _ (getD_in (i:=(eH.getD g1.toNat 0).toNat) aM om);refine wm<|wm ?_;refine aL (pq λ hc=>XA om om (Xz h6 hx.1 hx.2) (Xz h6 h4 h5)) λ v3 hv3=>?_;refine cO ?_ ?_<;>intro c2
   ·have oN:=c2;have c2:=fA c2;exact aK<|ob
   ·have oN:=c2;have c2:=fA c2;refine wn<|dS _ ?_ ?_
    ·(refine ⟨ob,fO eG fI ?_⟩; rw [decide_eq_true hx.1,Bool.true_and] at oN; exact hv3 (decide_eq_true hx.1) oN)
    ·exact ob
  ·refine aK ?_;(intro _ j hj; exact eG j om)
 ·(refine ⟨ob,λ j hj=>by (try dsimp only at hj); omega⟩)
theorem UQ {gV:ByteArray} (h1:∀g∈p_.aG,g.dz.length≤2000000∧g.aI.length≤2000000) (h2:p_.aG.length≤2000000):W (Ah p_ gV) (λ r=>r.length≤p_.aG.length∧∀x∈r,(0≤x∧x<p_.aG.length)∧alV p_ x gV):=by
 unfold Ah;refine cu (λ (g1:Int×List Int)=>0≤g1.1∧g1.1≤p_.aG.length∧(g1.2.length:Int)≤g1.1∧(∀x∈g1.2,(0≤x∧x<p_.aG.length)∧alV p_ x gV)) (λ (g1:Int×List Int)=>(p_.aG.length - g1.1).toNat) ?_ ?_
 ·intro ah g1 fZ dS;obtain ⟨fI,eG,dI,jF⟩:=fZ;unfold I9;refine wi ?_ ?_<;>intro c1
  ·have hgl:=h1 _ (getD_in (i:=g1.1.toNat) aM om);refine wn<|aL (LH ob) λ v3 hv3=>?_;obtain ⟨Xb,Zn,Zo,ajc⟩:=hv3;refine wi ?_ ?_<;>intro c2
   ·refine wm<|dS _ ?_ ?_
    ·(refine ⟨ob,ob,ob,λ x hx=>?_⟩; rcases List.mem_append.1 hx with hx | hx; (exact jF x hx); rw [List.mem_singleton] at hx; subst hx; exact ⟨om,v3.toNat,om,Zo om⟩)
    ·exact ob
   ·refine wn<|dS _ ?_ ?_
    ·exact ob
    ·exact ob
  ·refine aK ?_;(refine ⟨om,jF⟩)
 ·exact ob
theorem ajW {l:List ByteArray} {gs:List Int} {x:Int} (h:YH p l gs) (hx:0≤x∧x<p.aG.length) (ho:alV p x (l.getD gs.length ByteArray.empty)) (hd:∀j:Nat,(j:Int)<gs.length→ahq p (gs.getD j 0) x):YH p l (gs++[x]):=by
 have e1:∀j:Nat,j<gs.length→(gs++[x]).getD j 0=gs.getD j 0:=λ j hj=>kX 0 hj;have e2:(gs++[x]).getD gs.length 0=x:=tF 0 rfl;refine ⟨λ y hy=>?_,λ k hk=>?_,λ k j hj hk=>?_⟩
 ·rcases List.mem_append.1 hy with hy | hy
  ·exact h.ir y hy
  ·rw [List.mem_singleton] at hy; rw [hy]; exact hx
 ·rw [List.length_append,List.length_singleton] at hk;by_cases q:k<gs.length
  ·rw [e1 k q]; exact h.off k om
  ·have:k=gs.length:=by omega
   subst this; rw [e2]; exact ho
 ·rw [List.length_append,List.length_singleton] at hk;by_cases q:k<gs.length
  ·rw [e1 k q,e1 j om]; exact h.dj k j hj om
  ·have:k=gs.length:=by omega
   subst this; rw [e2,e1 j om]; exact hd j om
theorem alW (bs:ByteArray):∀(n i:Nat) (r:List UInt8),bs.size - i=n→ByteArray.toList.loop bs i r=r.reverse++bs.data.toList.drop i:=by
 intro n;induction n with
 | zero=>
  intro i r h;unfold ByteArray.toList.loop;rw [if_neg om,List.drop_eq_nil_of_le (by show bs.data.toList.length≤i; rw [Array.length_toList]; show bs.size≤i; omega),List.append_nil]
 | succ n ih=>
  intro i r h;unfold ByteArray.toList.loop;rw [if_pos om,ih (i+1) _ om,List.reverse_cons,List.append_assoc];have hi:i<bs.data.toList.length:=by rw [Array.length_toList]; show i<bs.size; omega
  rw [List.drop_eq_getElem_cons hi];congr 1;show bs.get! i::_=_;congr 1;unfold ByteArray.get!;rw [Array.getElem_toList];exact getElem!_pos bs.data i _
theorem af0 (b:ByteArray):b.toList=b.data.toList:=by
 unfold ByteArray.toList;rw [alW b _ 0 [] rfl]; rfl
theorem aeW {a b:ByteArray} (h:a.toList=b.toList):a=b:=by
 rw [af0,af0] at h;cases a; cases b;congr;exact Array.toList_inj.1 h
def UsV (p:bL) (l:List gM):Prop:=(∀u∈l,Ud p u)∧∀k j:Nat,j<k→(k:Int)<l.length→ahq p (l.getD j jg).bM (l.getD k jg).bM
def Jm (p:Prop) (c:Int) (A:Int→Prop) (r:Int):Prop:=(p∧r=c)∨(¬p∧A r)
variable {c:Int} {A:Int→Prop}
theorem gQ {p:Prop} (h:p):Jm p c A c:=.inl ⟨h,rfl⟩
variable {r:Int}
theorem bH {p:Prop} (h:¬p) (a:A r):Jm p c A r:=.inr ⟨h,a⟩
def Thn (A B:Int→Prop) (r:Int):Prop:=(A r∧r≠0)∨(A 0∧B r)
def Fst (n:Nat) (E:Nat→Int→Prop) (r:Int):Prop:=(∃i:Nat,i<n∧(∀k:Nat,k<i→E k 0)∧E i r∧r≠0)∨((∀k:Nat,k<n→E k 0)∧r=0)
def CK (A:Int→Prop):Prop:=∀a b,A a→A b→a=b
theorem CK.zero:CK (λ r=>r=0):=λ _ _ h k=>h.trans k.symm
theorem CK.Gh {p:Prop} (h:CK A):CK (Jm p c A):=by
 rintro a b (⟨h1,h2⟩ | ⟨h1,h2⟩) (⟨h3,h4⟩ | ⟨h3,h4⟩)
 ·rw [h2,h4]
 ·exact absurd h1 h3
 ·exact absurd h3 h1
 ·exact h _ _ h2 h4
variable {B:Int→Prop}
theorem CK.thn (h:CK A) (k:CK B):CK (Thn A B):=by
 rintro a b (⟨h1,h2⟩ | ⟨h1,h2⟩) (⟨h3,h4⟩ | ⟨h3,h4⟩)
 ·exact h _ _ h1 h3
 ·exact absurd (h _ _ h1 h3) h2
 ·exact absurd (h _ _ h3 h1) h4
 ·exact k _ _ h2 h4
variable {n:Nat} {E:Nat→Int→Prop}
theorem CK.fst (h:∀i,CK (E i)):CK (Fst n E):=by
 rintro a b (⟨i,h1,h2,h3,h4⟩ | ⟨h1,h2⟩) (⟨j,k1,k2,k3,k4⟩ | ⟨k1,k2⟩)
 ·rcases Nat.lt_trichotomy i j with q | q | q
  ·exact absurd (h _ _ _ h3 (k2 i q)) h4
  ·subst q; exact h _ _ _ h3 k3
  ·exact absurd (h _ _ _ k3 (h2 j q)) k4
 ·exact absurd (h _ _ _ h3 (k1 i h1)) h4
 ·exact absurd (h _ _ _ k3 (h1 j k1)) k4
 ·rw [h2,k2]
theorem XB (h:A r) (hr:r≠0):Thn A B r:=.inl ⟨h,hr⟩
theorem w9 (h:A 0) (k:B r):Thn A B r:=.inr ⟨h,k⟩
theorem abe (hi:i<n) (h:∀k:Nat,(k:Int)<i→E k 0) (he:E i r) (hr:r≠0):Fst n E r:=.inl ⟨i,hi,λ k hk=>h k om,he,hr⟩
theorem abf (h:∀k:Nat,k<n→E k 0):Fst n E 0:=.inr ⟨h,rfl⟩
def alY (n:Int) (g:dD):Int→Prop:=
 Jm ((g.dz.length:Int)=0∨(g.aI.length:Int)=0) 9<|
 Jm (8<(g.aI.length:Int)) 3<|
 Jm (∃j:Nat,(j:Int)<g.dz.length∧¬(0≤g.dz.getD j 0∧g.dz.getD j 0<n)) 2<|
 Jm (∃j:Nat,1≤j∧(j:Int)<g.dz.length∧g.dz.getD j 0≤g.dz.getD (j - 1) 0) 12<|
 Jm (∃j:Nat,(j:Int)<g.aI.length∧¬QH (g.aI.getD j ByteArray.empty)) 1<|
 Jm (∃k j:Nat,j<k∧(k:Int)<g.aI.length∧(g.aI.getD j ByteArray.empty).toList=(g.aI.getD k ByteArray.empty).toList) 5<|
 λ r=>r=0
theorem alY.fun {n:Int} {g:dD}:CK (alY n g):=.Gh (.Gh (.Gh (.Gh (.Gh (.Gh .zero)))))
def ahs (p:bL) (i:Nat):Int→Prop:=
 Jm (¬QH (p.aG.getD i aM).EF) 1<|
 Jm (∃k:Nat,k<i∧(p.aG.getD k aM).EF.toList=(p.aG.getD i aM).EF.toList) 5<|
 alY p.dz (p.aG.getD i aM)
theorem ahs.fun:CK (ahs p i):=.Gh (.Gh alY.fun)
def LJ (p:bL):Int→Prop:=
 Jm (p.dz<0∨64<p.dz) 2<|
 Jm (24<(p.aG.length:Int)) 3<|
 Fst p.aG.length (ahs p)
theorem LJ.fun:CK (LJ p):=.Gh (.Gh (.fst λ _=>ahs.fun))
theorem XC {l:List Int} (h:∀j:Nat,(j:Int)<g→1≤j→l.getD (j - 1) 0<l.getD j 0) (hg:(l.length:Int)≤g):¬ ∃j:Nat,1≤j∧(j:Int)<l.length∧l.getD j 0≤l.getD (j - 1) 0:=λ ⟨j,h1,h2,h3⟩=>by
 have:=h j om h1;omega
theorem kN {P:Nat→Prop} (h:∀j:Nat,(j:Int)<g→P j) (hg:(n:Int)≤g):¬ ∃j:Nat,(j:Int)<n∧¬P j:=λ ⟨j,h1,h2⟩=>h2 (h j om)
theorem xU {s_:ByteArray}:W (tH s_) (λ r=>r=true↔QH s_):=by
 unfold tH;refine bK (by (intro hc; simp only [Bool.or_eq_false_iff,beq_eq_false_iff_ne] at hc; omega)) ?_;refine bK (by (intro hc; simp only [Bool.or_eq_false_iff,beq_eq_false_iff_ne] at hc; omega)) ?_;refine cO ?_ ?_<;>intro c1
 ·have jf:=c1;have c1:=fA c1;refine aK ?_;(constructor; (intro e; cases e); (rintro ⟨a1,a3,a5⟩; omega))
 ·have jf:=c1;have c1:=fA c1;have hsz:s_.size≤16:=(by simp only [Bool.or_eq_false_iff] at jf; have:=of_decide_eq_false jf.1.1.2; omega);refine cu (λ (g1:Int)=>0≤g1∧(∀j:Nat,(j:Int)<g1→iE s_ j=45∨(48≤iE s_ j∧iE s_ j≤57)∨(97≤iE s_ j∧iE s_ j≤122))) (λ (g1:Int)=>(s_.size - g1).toNat) ?_ ?_
  ·intro ah g1 fZ dS;obtain ⟨fI,eG⟩:=fZ;unfold ND;refine wi ?_ ?_<;>intro c2
   ·refine wm<|wm ?_;refine wn<|wi ?_ ?_<;>intro c3
    ·refine aK ?_;(constructor; (intro e; cases e); (rintro ⟨_,_,a5⟩; have:=a5 g1.toNat om; omega))
    ·refine wn<|dS _ ?_ ?_
     ·(refine ⟨ob,fO eG fI om⟩)
     ·exact ob
   ·refine aK ?_;(constructor; (intro _; exact ⟨om,om,λ j hj=>eG j om⟩); intro _; rfl)
  ·(refine ⟨ob,λ j hj=>by (try dsimp only at hj); omega⟩)
theorem XD {i_:Int} (h1:0≤i_) (h2:i_<p_.aG.length) (h3:p_.aG.length≤2000000) (h4:∀g∈p_.aG,g.dz.length≤2000000∧g.aI.length≤2000000):W (Df p_ i_) (λ r=>ahs p_ i_.toNat r):=by
 have hgl:=h4 _ (getD_in (i:=i_.toNat) aM om);unfold Df;refine wn<|aL (xU) λ v1 hv1=>?_;refine cO ?_ ?_<;>intro c1
 ·have jf:=c1;have c1:=fA c1;exact aK<|gQ (λ h=>by simp [hv1.2 h] at jf)
 ·have jf:=c1;have c1:=fA c1;refine cu (λ (g1:Int)=>0≤g1∧(∀k:Nat,(k:Int)<g1→(p_.aG.getD k aM).EF.toList≠(p_.aG.getD i_.toNat aM).EF.toList)) (λ (g1:Int)=>(i_ - g1).toNat) ?_ ?_
  ·intro ah g1 fZ dS;obtain ⟨fI,eG⟩:=fZ;unfold KH;refine wi ?_ ?_<;>intro c2
   ·refine wn<|wi ?_ ?_<;>intro c3
    ·exact aK (bH (λ h=>h (hv1.1 (by simpa using jf))) (gQ ⟨g1.toNat,om,c3⟩))
    ·refine wn<|dS _ ?_ ?_
     ·(refine ⟨ob,fO eG fI c3⟩)
     ·exact ob
   ·refine wi ?_ ?_<;>intro c4
    ·exact aK (bH (λ h=>h (hv1.1 (by simpa using jf))) (bH (λ ⟨k,h1,h2⟩=>eG k om h2) (gQ c4)))
    ·refine wi ?_ ?_<;>intro c5
     ·exact aK (bH (λ h=>h (hv1.1 (by simpa using jf))) (bH (λ ⟨k,h1,h2⟩=>eG k om h2) (bH om (gQ c5))))
     ·refine cu (λ (g2:Int)=>0≤g2∧(∀j:Nat,(j:Int)<g2→0≤(p_.aG.getD i_.toNat aM).dz.getD j 0∧(p_.aG.getD i_.toNat aM).dz.getD j 0<p_.dz)) (λ (g2:Int)=>((p_.aG.getD i_.toNat aM).dz.length - g2).toNat) ?_ ?_
      ·intro dR g2 Eu Aq;obtain ⟨yM,nG⟩:=Eu;unfold IC;refine wi ?_ ?_<;>intro c6
       ·refine wm<|wi ?_ ?_<;>intro c7
        ·exact aK<|bH (λ h=>h (hv1.1 (by simpa using jf))) (bH (λ ⟨k,h1,h2⟩=>eG k om h2) (bH om (bH om (gQ ⟨g2.toNat,om,om⟩))))
        ·refine wn<|Aq _ ?_ ?_
         ·(refine ⟨ob,fO nG yM om⟩)
         ·exact ob
       ·refine cu (λ (g3:Int)=>1≤g3∧(∀j:Nat,(j:Int)<g3→1≤j→(p_.aG.getD i_.toNat aM).dz.getD (j - 1) 0<(p_.aG.getD i_.toNat aM).dz.getD j 0)) (λ (g3:Int)=>((p_.aG.getD i_.toNat aM).dz.length - g3).toNat) ?_ ?_
        ·intro vk g3 ajX ajY;obtain ⟨af2,Dx⟩:=ajX;unfold IB;refine wi ?_ ?_<;>intro c8
         ·refine wm<|wn ?_;refine wi ?_ ?_<;>intro c9
          ·exact aK<|bH (λ h=>h (hv1.1 (by simpa using jf))) (bH (λ ⟨k,h1,h2⟩=>eG k om h2) (bH om (bH om (bH (kN nG om) (gQ ⟨g3.toNat,om,om,by rw [show g3.toNat - 1=(g3 - 1).toNat by omega]; omega⟩)))))
          ·refine wn<|ajY _ ?_ ?_
           ·(refine ⟨ob,λ j h1 h2=>?_⟩; by_cases q:(j:Int)<g3; (exact Dx j q h2); (have e:j=g3.toNat:=by omega); subst e; rw [show g3.toNat - 1=(g3 - 1).toNat by omega]; omega)
           ·exact ob
         ·refine cu (λ (g4:Int)=>0≤g4∧(∀j:Nat,(j:Int)<g4→QH ((p_.aG.getD i_.toNat aM).aI.getD j ByteArray.empty))) (λ (g4:Int)=>((p_.aG.getD i_.toNat aM).aI.length - g4).toNat) ?_ ?_
          ·intro kE g4 Xt UL;obtain ⟨Uf,yN⟩:=Xt;unfold Iz;refine wi ?_ ?_<;>intro c10
           ·refine wn<|aL (xU) λ v4 hv4=>?_;refine cO ?_ ?_<;>intro c11
            ·have YI:=c11;have c11:=fA c11;exact aK<|bH (λ h=>h (hv1.1 (by simpa using jf))) (bH (λ ⟨k,h1,h2⟩=>eG k om h2) (bH om (bH om (bH (kN nG om) (bH (XC Dx om) (gQ ⟨g4.toNat,om,λ h=>by simp [hv4.2 h] at YI⟩))))))
            ·have YI:=c11;have c11:=fA c11;refine wn<|UL _ ?_ ?_
             ·(refine ⟨ob,fO yN Uf (hv4.1 (by simpa using YI))⟩)
             ·exact ob
           ·refine cu (λ (g5:Int)=>0≤g5∧(∀k:Nat,(k:Int)<g5→∀j:Nat,j<k→((p_.aG.getD i_.toNat aM).aI.getD j ByteArray.empty).toList≠((p_.aG.getD i_.toNat aM).aI.getD k ByteArray.empty).toList)) (λ (g5:Int)=>((p_.aG.getD i_.toNat aM).aI.length - g5).toNat) ?_ ?_
            ·intro jP g5 aa7 aa8;obtain ⟨Xr,Ob⟩:=aa7;unfold Iy;refine wi ?_ ?_<;>intro c12
             ·refine cu (λ (g8:Int)=>0≤g8∧(∀j:Nat,(j:Int)<g8→((p_.aG.getD i_.toNat aM).aI.getD j ByteArray.empty).toList≠((p_.aG.getD i_.toNat aM).aI.getD g5.toNat ByteArray.empty).toList)) (λ (g8:Int)=>(g5 - g8).toNat) ?_ ?_
              ·intro Iw g8 aoC aoD;obtain ⟨amN,ajZ⟩:=aoC;unfold Iu;refine wi ?_ ?_<;>intro c13
               ·refine wm<|wi ?_ ?_<;>intro c14
                ·exact aK (bH (λ h=>h (hv1.1 (by simpa using jf))) (bH (λ ⟨k,h1,h2⟩=>eG k om h2) (bH om (bH om (bH (kN nG om) (bH (XC Dx om) (bH (kN yN om) (gQ ⟨g5.toNat,g8.toNat,om,om,c14⟩))))))))
                ·refine wn<|aoD _ ?_ ?_
                 ·(refine ⟨ob,fO ajZ amN c14⟩)
                 ·exact ob
               ·refine wn<|aa8 _ ?_ ?_
                ·(refine ⟨ob,λ k hk j hj=>?_⟩; by_cases q:(k:Int)<g5; (exact Ob k q j hj); (have e:k=g5.toNat:=by omega); subst e; exact ajZ j om)
                ·exact ob
              ·(refine ⟨ob,λ j hj=>by (try dsimp only at hj); omega⟩)
             ·exact aK (bH (λ h=>h (hv1.1 (by simpa using jf))) (bH (λ ⟨k,h1,h2⟩=>eG k om h2) (bH om (bH om (bH (kN nG om) (bH (XC Dx om) (bH (kN yN om) (bH (λ ⟨k,j,h1,h2,h3⟩=>Ob k om j h1 h3) rfl))))))))
            ·(refine ⟨ob,λ j h1 h2=>by omega⟩)
          ·(refine ⟨ob,λ j hj=>by (try dsimp only at hj); omega⟩)
        ·(refine ⟨ob,λ j h1 h2=>by omega⟩)
      ·(refine ⟨ob,λ j hj=>by (try dsimp only at hj); omega⟩)
  ·(refine ⟨ob,λ j hj=>by (try dsimp only at hj); omega⟩)
def RsE (l:List eu) (i:Nat):Int→Prop:=
 Jm (∃j:Nat,(j:Int)<((l.getD i eU).fV).length∧¬(0≤((l.getD i eU).fV).getD j 0∧((l.getD i eU).fV).getD j 0<(i:Int))) 2<|
 Jm (∃j:Nat,1≤j∧(j:Int)<((l.getD i eU).fV).length∧((l.getD i eU).fV).getD j 0≤((l.getD i eU).fV).getD (j - 1) 0) 12<|
 λ r=>r=0
def RsA (l:List eu):Int→Prop:=Jm (32<(l.length:Int)) 3<|Fst l.length (RsE l)
theorem RsA.fun {l:List eu}:CK (RsA l):=.Gh (.fst λ _=>.Gh (.Gh .zero))
theorem sD {p:Prop} (hc:c≠0) (h:Jm p c A 0):¬p∧A 0:=by
 rcases h with ⟨_,h⟩ | h
 ·exact absurd h.symm hc
 ·exact h
theorem aj0 (h:Fst n E 0):∀k,k<n→E k 0:=by
 rcases h with ⟨_,_,_,_,h⟩ | h
 ·exact absurd rfl h
 ·exact h.1
theorem RsA.ok {l:List eu} (h:RsA l 0):aov l:=by
 obtain ⟨h1,h2⟩:=sD (by decide) h;refine ⟨om,λ i hi=>mQ 0 λ j hj=>?_⟩;obtain ⟨h3,_⟩:=sD (by decide) (aj0 h2 i hi);by_cases q:0≤((l.getD i eU).fV).getD j 0∧((l.getD i eU).fV).getD j 0<(i:Int)
 ·exact q
 ·exact absurd ⟨j,om,q⟩ h3
def aqm (l:List eu) (s:List Bool):Prop:=(s.length:Int)=l.length∧∀i:Nat,(i:Int)<l.length→∀j:Nat,(j:Int)<((l.getD i eU).fV).length→s.getD i false=true→s.getD (((l.getD i eU).fV).getD j 0).toNat false=true
def DmA (l:List dG):Int→Prop:=Jm (16<(l.length:Int)) 3<|Jm (∃i:Nat,(i:Int)<l.length∧¬(-1≤(l.getD i eY).bG∧(l.getD i eY).bG<(i:Int))) 2<|λ r=>r=0
theorem DmA.fun {l:List dG}:CK (DmA l):=.Gh (.Gh .zero)
theorem DmA.ok {l:List dG} (h:DmA l 0):aow l:=by
 obtain ⟨h1,h2⟩:=sD (by decide) h;obtain ⟨h3,_⟩:=sD (by decide) h2;refine ⟨om,λ i hi=>?_⟩;by_cases q : -1≤(l.getD i eY).bG∧(l.getD i eY).bG<(i:Int)
 ·exact q
 ·exact absurd ⟨i,om,q⟩ h3
def DgP (l:List dG) (s:List Bool) (i:Nat):Prop:=((l.getD i eY).gY=true→s.getD i false=true)∧(s.getD i false=true→0≤(l.getD i eY).bG→s.getD (l.getD i eY).bG.toNat false=true)
def RgP (l:List dG) (s:List Bool):Prop:=(s.length:Int)=l.length∧∀i:Nat,(i:Int)<l.length→DgP l s i
def QK (l:List aO) (m:List Int):Prop:=∀i:Nat,(i:Int)<m.length→(0≤m.getD i 0∧m.getD i 0<l.length)∧∀k:Nat,k<i→m.getD k 0≠m.getD i 0
def alZ (b:aP) (l:List aO) (g:aF):Prop:=((g.Setting.length:Int)=b.bT.length∧(g.aY.On.length:Int)=b.bD.length∧(g.aY.bC.length:Int)=b.bD.length∧(g.Released.length:Int)=b.bf.length∧(g.bq.length:Int)=b.bO.length)∧
 (∀i:Nat,(i:Int)<g.Setting.length→0≤g.Setting.getD i 0∧g.Setting.getD i 0<(b.bT.getD i aV).aR.length)∧∀i:Nat,(i:Int)<g.Uses.length → -1≤(g.Uses.getD i bE).gU∧(g.Uses.getD i bE).gU<l.length
theorem BM (h1:∀g∈p_.aG,g.dz.length≤2000000∧g.aI.length≤2000000):W (uy p_) (λ r=>LJ p_ r):=by
 unfold uy;refine wi ?_ ?_<;>intro c1
 ·exact aK<|gQ c1
 ·refine wi ?_ ?_<;>intro c2
  ·exact aK<|bH om (gQ c2)
  ·refine cu (λ (g1:Int)=>0≤g1∧(∀j:Nat,(j:Int)<g1→ahs p_ j 0)) (λ (g1:Int)=>(p_.aG.length - g1).toNat) ?_ ?_
   ·intro ah g1 fZ dS;obtain ⟨fI,eG⟩:=fZ;unfold KI;refine wi ?_ ?_<;>intro c3
    ·refine aL (XD om om om h1) λ v3 hv3=>?_;refine cO ?_ ?_<;>intro c4
     ·have wL:=c4;have c4:=fA c4;exact aK (bH om (bH om (abe (i:=g1.toNat) om (λ k hk=>eG k om) (hv3) (c4))))
     ·have wL:=c4;have c4:=fA c4;refine wn<|dS _ ?_ ?_
      ·(refine ⟨ob,fO eG fI (by have e:v3=0:=(by simpa using wL); rw [e] at hv3; exact hv3)⟩)
      ·exact ob
    ·exact aK (bH om (bH om (abf (λ k hk=>eG k om))))
   ·(refine ⟨ob,λ j hj=>by (try dsimp only at hj); omega⟩)
theorem BN {l_:List eu} (h1:∀g∈l_,g.fV.length≤2000000):W (uz l_) (λ r=>RsA l_ r):=by
 unfold uz;refine wi ?_ ?_<;>intro c1
 ·exact aK<|gQ c1
 ·refine cu (λ (g1:Int)=>0≤g1∧(∀j:Nat,(j:Int)<g1→RsE l_ j 0)) (λ (g1:Int)=>(l_.length - g1).toNat) ?_ ?_
  ·intro ah g1 fZ dS;obtain ⟨fI,eG⟩:=fZ;unfold KL;refine wi ?_ ?_<;>intro c2
   ·have hgl:=h1 _ (getD_in (i:=g1.toNat) eU om);refine cu (λ (g6:Int)=>0≤g6∧(∀j:Nat,(j:Int)<g6→0≤((l_.getD g1.toNat eU).fV).getD j 0∧((l_.getD g1.toNat eU).fV).getD j 0<((g1.toNat:Nat):Int))) (λ (g6:Int)=>(((l_.getD g1.toNat eU).fV).length - g6).toNat) ?_ ?_
    ·intro jE g6 Xu UO;obtain ⟨Uh,Jk⟩:=Xu;unfold KJ;refine wn<|wi ?_ ?_<;>intro c3
     ·refine wm<|wm ?_;refine wi ?_ ?_<;>intro c4
      ·exact aK<|bH om (abe (i:=g1.toNat) om (λ k hk=>eG k om) (gQ ⟨g6.toNat,om,om⟩) (by decide))
      ·refine wn<|UO _ ?_ ?_
       ·(refine ⟨ob,fO Jk Uh om⟩)
       ·exact ob
     ·refine cu (λ (g7:Int)=>1≤g7∧(∀j:Nat,(j:Int)<g7→1≤j→((l_.getD g1.toNat eU).fV).getD (j - 1) 0<((l_.getD g1.toNat eU).fV).getD j 0)) (λ (g7:Int)=>(((l_.getD g1.toNat eU).fV).length - g7).toNat) ?_ ?_
      ·intro ou g7 aeX adl;obtain ⟨adn,QL⟩:=aeX;unfold IE;refine wn<|wi ?_ ?_<;>intro c5
       ·refine wm<|wm ?_;refine wn<|wi ?_ ?_<;>intro c6
        ·exact aK<|bH om (abe (i:=g1.toNat) om (λ k hk=>eG k om) (bH (kN Jk om) (gQ ⟨g7.toNat,om,om,by rw [show g7.toNat - 1=(g7 - 1).toNat by omega]; omega⟩)) (by decide))
        ·refine wn<|adl _ ?_ ?_
         ·(refine ⟨ob,λ j h1 h2=>?_⟩; by_cases q:(j:Int)<g7; (exact QL j q h2); (have e:j=g7.toNat:=by omega); subst e; rw [show g7.toNat - 1=(g7 - 1).toNat by omega]; omega)
         ·exact ob
       ·refine wn<|dS _ ?_ ?_
        ·(refine ⟨ob,fO eG fI (bH (kN Jk om) (bH (XC QL om) rfl))⟩)
        ·exact ob
      ·(refine ⟨ob,λ j h1 h2=>by omega⟩)
    ·(refine ⟨ob,λ j hj=>by (try dsimp only at hj); omega⟩)
   ·exact aK<|bH om (abf λ k hk=>eG k om)
  ·(refine ⟨ob,λ j hj=>by (try dsimp only at hj); omega⟩)
theorem UR {l_:List eu} {fB:List Bool} (h1:∀g∈l_,g.fV.length≤2000000):W (Af l_ fB) (λ r=>(r=true↔RsA l_ 0∧aqm l_ fB)):=by
 unfold Af;refine aL (BN ob) λ v1 hv1=>?_;refine wi ?_ ?_<;>intro c1
 ·refine aK ?_;(constructor; (intro e; cases e); (rintro ⟨a,b,_⟩; have e:=RsA.fun _ _ hv1 a; omega))
 ·have hok:RsA l_ 0:=(by have e:v1=0:=om; rw [e] at hv1; exact hv1);obtain ⟨p1,p2⟩:=hok.ok;refine cu (λ (g1:Int)=>0≤g1∧(∀i:Nat,(i:Int)<g1→∀j:Nat,(j:Int)<((l_.getD i eU).fV).length→fB.getD i false=true→fB.getD (((l_.getD i eU).fV).getD j 0).toNat false=true)) (λ (g1:Int)=>(l_.length - g1).toNat) ?_ ?_
  ·intro ah g1 fZ dS;obtain ⟨fI,eG⟩:=fZ;unfold I5;refine wi ?_ ?_<;>intro c2
   ·have hgl:=h1 _ (getD_in (i:=g1.toNat) eU om);refine cu (λ (g4:Int)=>0≤g4∧(∀j:Nat,(j:Int)<g4→fB.getD g1.toNat false=true→fB.getD (((l_.getD g1.toNat eU).fV).getD j 0).toNat false=true)) (λ (g4:Int)=>(((l_.getD g1.toNat eU).fV).length - g4).toNat) ?_ ?_
    ·intro kE g4 Xt UL;obtain ⟨Uf,yN⟩:=Xt;unfold IZ;refine wn<|wi ?_ ?_<;>intro c3
     ·have hx:=p2 g1.toNat om _ (getD_in (i:=g4.toNat) 0 om);refine wm<|wm ?_;refine cO ?_ ?_<;>intro c4
      ·have wL:=c4;have c4:=fA c4;refine aK ?_;(constructor; (intro e; cases e); (rintro ⟨_,_,a⟩; simp only [Bool.and_eq_true,Bool.not_eq_true'] at wL; have:=a g1.toNat om g4.toNat om wL.1; rw [this] at wL; cases wL.2))
      ·have wL:=c4;have c4:=fA c4;refine wn<|UL _ ?_ ?_
       ·(refine ⟨ob,λ j h1 hr=>?_⟩; by_cases q:(j:Int)<g4; (exact yN j q hr); (have e:j=g4.toNat:=by omega); subst e; simp only [hr,Bool.true_and,Bool.not_eq_false'] at wL; exact wL)
       ·exact ob
     ·refine wn<|dS _ ?_ ?_
      ·(refine ⟨ob,λ i hi j hj hr=>?_⟩; by_cases q:(i:Int)<g1; (exact eG i q j hj hr); (have e:i=g1.toNat:=by omega); subst e; exact yN j om hr)
      ·exact ob
    ·(refine ⟨ob,λ j h1 h2=>by omega⟩)
   ·refine aK ?_;(constructor; (intro _; exact ⟨hok,om,λ i hi=>eG i om⟩); (intro _; rfl))
  ·(refine ⟨ob,λ j h1 h2=>by omega⟩)
theorem vR {l_:List dG}:W (qb l_) (λ r=>DmA l_ r):=by
 unfold qb;refine wi ?_ ?_<;>intro c1
 ·exact aK<|gQ c1
 ·refine cu (λ (g1:Int)=>0≤g1∧(∀j:Nat,(j:Int)<g1 → -1≤(l_.getD j eY).bG∧(l_.getD j eY).bG<(j:Int))) (λ (g1:Int)=>(l_.length - g1).toNat) ?_ ?_
  ·intro ah g1 fZ dS;obtain ⟨fI,eG⟩:=fZ;unfold KM;refine wi ?_ ?_<;>intro c2
   ·refine wm<|wi ?_ ?_<;>intro c3
    ·exact aK<|bH om (gQ ⟨g1.toNat,om,om⟩)
    ·refine wn<|dS _ ?_ ?_
     ·(refine ⟨ob,fO eG fI om⟩)
     ·exact ob
   ·exact aK<|bH om (bH (kN eG om) rfl)
  ·(refine ⟨ob,λ j hj=>by (try dsimp only at hj); omega⟩)
theorem BO {l_:List dG} {xM:List Bool}:W (uG l_ xM) (λ r=>(r=true↔DmA l_ 0∧RgP l_ xM)):=by
 unfold uG;refine aL (vR) λ v1 hv1=>?_;refine wi ?_ ?_<;>intro c1
 ·refine aK ?_;(constructor; (intro e; cases e); (rintro ⟨a,b,_⟩; have e:=DmA.fun _ _ hv1 a; omega))
 ·have hok:DmA l_ 0:=(by have e:v1=0:=om; rw [e] at hv1; exact hv1);obtain ⟨p1,p2⟩:=hok.ok;refine cu (λ (g1:Int)=>0≤g1∧(∀j:Nat,(j:Int)<g1→DgP l_ xM j)) (λ (g1:Int)=>(l_.length - g1).toNat) ?_ ?_
  ·intro ah g1 fZ dS;obtain ⟨fI,eG⟩:=fZ;unfold K5;refine wi ?_ ?_<;>intro c2
   ·have hx:=p2 g1.toNat om;refine wm<|wm ?_;refine wm<|cO ?_ ?_<;>intro c3
    ·have nu:=c3;have c3:=fA c3;refine aK ?_;(constructor; (intro e; cases e); (rintro ⟨_,_,this⟩; have hd:=this g1.toNat om; obtain ⟨d1,d2⟩:=hd; revert d1 d2; cases hA:(l_.getD g1.toNat eY).gY<;>cases hB:xM.getD g1.toNat false<;>simp_all))
    ·have nu:=c3;have c3:=fA c3;refine wn<|dS _ ?_ ?_
     ·(refine ⟨ob,fO eG fI ?_⟩; unfold DgP; revert nu; cases hA:(l_.getD g1.toNat eY).gY<;>cases hB:xM.getD g1.toNat false<;>simp)
     ·exact ob
   ·refine aK ?_;(constructor; (intro _; exact ⟨hok,om,λ i hi=>eG i om⟩); (intro _; rfl))
  ·(refine ⟨ob,λ j hj=>by (try dsimp only at hj); omega⟩)
variable {l_:List aO}
theorem mR {aj:List Int} (h1:l_.length≤2000000) (h2:aj.length≤2000000):W (kU l_ aj) (λ r=>r=true↔QK l_ aj):=by
 unfold kU;refine cu (λ (g1:Int)=>0≤g1∧(∀i:Nat,(i:Int)<g1→(0≤aj.getD i 0∧aj.getD i 0<l_.length)∧∀k:Nat,k<i→aj.getD k 0≠aj.getD i 0)) (λ (g1:Int)=>(aj.length - g1).toNat) ?_ ?_
 ·intro ah g1 fZ dS;obtain ⟨fI,eG⟩:=fZ;unfold Fh;refine wi ?_ ?_<;>intro c1
  ·refine wm<|wi ?_ ?_<;>intro c2
   ·refine aK ?_;(constructor; (intro e; cases e); (intro a; obtain ⟨b,d⟩:=a g1.toNat om; omega))
   ·refine cu (λ (g4:Int)=>0≤g4∧(∀k:Nat,(k:Int)<g4→aj.getD k 0≠aj.getD g1.toNat 0)) (λ (g4:Int)=>(g1 - g4).toNat) ?_ ?_
    ·intro kE g4 Xt UL;obtain ⟨Uf,yN⟩:=Xt;unfold Fg;refine wi ?_ ?_<;>intro c3
     ·refine wm<|wi ?_ ?_<;>intro c4
      ·refine aK ?_;(constructor; (intro e; cases e); (intro a; obtain ⟨b,d⟩:=a g1.toNat om; exact absurd c4 (d g4.toNat om)))
      ·refine wn<|UL _ ?_ ?_
       ·(refine ⟨ob,fO yN Uf c4⟩)
       ·exact ob
     ·refine wn<|dS _ ?_ ?_
      ·(refine ⟨ob,fO eG fI ⟨om,λ k hk=>yN k om⟩⟩)
      ·exact ob
    ·(refine ⟨ob,λ j hj=>by (try dsimp only at hj); omega⟩)
  ·refine aK ?_;(constructor; (intro _ i hi; exact eG i om); (intro _; rfl))
 ·(refine ⟨ob,λ j hj=>by (try dsimp only at hj); omega⟩)
def NdE (b:aP) (n:aO) (dv:Int):Int→Prop:=
 Jm (32<(n.eF.length:Int)∨32<(n.gJ.length:Int)∨10<(n.aI.length:Int)) 3<|
 Jm (∃j:Nat,(j:Int)<n.eF.length∧¬aa5 b.bT.length (n.eF.getD j dU)) 2<|
 Jm (∃j:Nat,(j:Int)<n.gJ.length∧¬ahg b.bD.length (n.gJ.getD j eP)) 2<|
 Jm (∃j:Nat,(j:Int)<n.aI.length∧¬QH (n.aI.getD j ByteArray.empty)) 1<|
 Jm (∃j:Nat,(j:Int)<n.bf.length∧¬(0≤n.bf.getD j 0∧n.bf.getD j 0<b.bf.length)) 2<|
 Jm (¬(-1≤n.gB∧n.gB<b.bO.length)) 2<|
 Jm (∃j:Nat,(j:Int)<n.dx.length∧¬(0≤n.dx.getD j 0∧n.dx.getD j 0<dv)) 2<|
 Jm (∃j:Nat,1≤j∧(j:Int)<n.dx.length∧n.dx.getD j 0≤n.dx.getD (j - 1) 0) 12<|
 λ r=>r=0
variable {b:aP}
theorem NdE.fun {n:aO} {dv:Int}:CK (NdE b n dv):=.Gh (.Gh (.Gh (.Gh (.Gh (.Gh (.Gh (.Gh .zero)))))))
def Sl (b:aP):Int→Prop:=Thn (λ r=>r=fq b.bT)<|Thn (λ r=>r=Sp.fq b.bD)<|Thn (LJ b.aQ)<|Thn (RsA b.bf) (DmA b.bO)
theorem Sl.fun:CK (Sl b):=.thn (λ _ _ h k=>h.trans k.symm) (.thn (λ _ _ h k=>h.trans k.symm) (.thn LJ.fun (.thn RsA.fun DmA.fun)))
def BP (b:aP) (l:List aO):Int→Prop:=Thn (Sl b)<|Jm (12<(l.length:Int)) 3<|Fst l.length λ i=>NdE b (l.getD i dh) l.length
theorem BP.fun {l:List aO}:CK (BP b l):=.thn Sl.fun (.Gh (.fst λ _=>NdE.fun))
variable {b_:aP}
theorem XE (h1:Sj b_) (h2:∀g∈b_.aQ.aG,g.dz.length≤2000000∧g.aI.length≤2000000):W (Dg b_) (λ r=>Sl b_ r):=by
 obtain ⟨z1,z2,z3,z4,z5,z6,z7⟩:=h1;unfold Dg;refine aL (sw ob) λ v1 hv1=>?_;subst v1;refine wi ?_ ?_<;>intro c1
 ·exact aK<|XB rfl c1
 ·refine aL (Sp.sj ob) λ v2 hv2=>?_;subst v2;refine wi ?_ ?_<;>intro c2
  ·exact aK<|w9 c1.symm (XB rfl c2)
  ·refine aL (BM h2) λ v3 hv3=>?_;refine wi ?_ ?_<;>intro c3
   ·exact aK<|w9 c1.symm (w9 c2.symm (XB hv3 c3))
   ·refine aL (BN ob) λ v4 hv4=>?_;refine wi ?_ ?_<;>intro c4
    ·exact aK<|w9 c1.symm (w9 c2.symm (w9 (c3 ▸ hv3) (XB hv4 c4)))
    ·refine aL (vR) λ v5 hv5=>?_;exact aK<|w9 c1.symm (w9 c2.symm (w9 (c3 ▸ hv3) (w9 (c4 ▸ hv4) hv5)))
theorem YJ {x_:aO} (h1:Sj b_) (h2:l_.length≤2000000) (h3:x_.bf.length≤2000000) (h4:x_.dx.length≤2000000):W (GR b_ l_ x_) (λ r=>NdE b_ x_ l_.length r):=by
 obtain ⟨z1,z2,z3,z4,z5,z6,z7⟩:=h1;unfold GR;refine wi ?_ ?_<;>intro c1
 ·exact aK<|gQ om
 ·refine cu (λ (g1:Int)=>0≤g1∧(∀j:Nat,(j:Int)<g1→aa5 b_.bT.length (x_.eF.getD j dU))) (λ (g1:Int)=>(x_.eF.length - g1).toNat) ?_ ?_
  ·intro ah g1 fZ dS;obtain ⟨fI,eG⟩:=fZ;unfold NG;refine wi ?_ ?_<;>intro c2
   ·refine wn<|wi ?_ ?_<;>intro c3
    ·exact aK (bH om (gQ ⟨g1.toNat,om,λ ⟨_,_,_,_,_⟩=>by omega⟩))
    ·refine wn<|dS _ ?_ ?_
     ·(refine ⟨ob,fO eG fI ⟨om,om,om,om,om⟩⟩)
     ·exact ob
   ·refine cu (λ (g2:Int)=>0≤g2∧(∀j:Nat,(j:Int)<g2→ahg b_.bD.length (x_.gJ.getD j eP))) (λ (g2:Int)=>(x_.gJ.length - g2).toNat) ?_ ?_
    ·intro dR g2 Eu Aq;obtain ⟨yM,nG⟩:=Eu;unfold KR;refine wi ?_ ?_<;>intro c4
     ·refine wn<|wi ?_ ?_<;>intro c5
      ·exact aK (bH om (bH (kN eG om) (gQ ⟨g2.toNat,om,λ ⟨_,_,_,_,_,_,_⟩=>by omega⟩)))
      ·refine wn<|Aq _ ?_ ?_
       ·(refine ⟨ob,fO nG yM ⟨om,om,om,om,om,om,om⟩⟩)
       ·exact ob
     ·refine cu (λ (g3:Int)=>0≤g3∧(∀j:Nat,(j:Int)<g3→QH (x_.aI.getD j ByteArray.empty))) (λ (g3:Int)=>(x_.aI.length - g3).toNat) ?_ ?_
      ·intro vk g3 ajX ajY;obtain ⟨af2,Dx⟩:=ajX;unfold KQ;refine wi ?_ ?_<;>intro c6
       ·refine wn<|aL (xU) λ v3 hv3=>?_;refine cO ?_ ?_<;>intro c7
        ·have Ue:=c7;have c7:=fA c7;exact aK (bH om (bH (kN eG om) (bH (kN nG om) (gQ ⟨g3.toNat,om,λ h=>by simp [hv3.2 h] at Ue⟩))))
        ·have Ue:=c7;have c7:=fA c7;refine wn<|ajY _ ?_ ?_
         ·(refine ⟨ob,fO Dx af2 (hv3.1 (by simpa using Ue))⟩)
         ·exact ob
       ·refine cu (λ (g4:Int)=>0≤g4∧(∀j:Nat,(j:Int)<g4→0≤x_.bf.getD j 0∧x_.bf.getD j 0<b_.bf.length)) (λ (g4:Int)=>(x_.bf.length - g4).toNat) ?_ ?_
        ·intro kE g4 Xt UL;obtain ⟨Uf,yN⟩:=Xt;unfold KP;refine wi ?_ ?_<;>intro c8
         ·refine wn<|wi ?_ ?_<;>intro c9
          ·exact aK (bH om (bH (kN eG om) (bH (kN nG om) (bH (kN Dx om) (gQ ⟨g4.toNat,om,om⟩)))))
          ·refine wn<|UL _ ?_ ?_
           ·(refine ⟨ob,fO yN Uf om⟩)
           ·exact ob
         ·refine wi ?_ ?_<;>intro c10
          ·exact aK (bH om (bH (kN eG om) (bH (kN nG om) (bH (kN Dx om) (bH (kN yN om) (gQ om))))))
          ·refine cu (λ (g5:Int)=>0≤g5∧(∀j:Nat,(j:Int)<g5→0≤x_.dx.getD j 0∧x_.dx.getD j 0<(l_.length:Int))) (λ (g5:Int)=>(x_.dx.length - g5).toNat) ?_ ?_
           ·intro jP g5 aa7 aa8;obtain ⟨Xr,Ob⟩:=aa7;unfold KO;refine wi ?_ ?_<;>intro c11
            ·refine wn<|wi ?_ ?_<;>intro c12
             ·exact aK (bH om (bH (kN eG om) (bH (kN nG om) (bH (kN Dx om) (bH (kN yN om) (bH om (gQ ⟨g5.toNat,om,om⟩)))))))
             ·refine wn<|aa8 _ ?_ ?_
              ·(refine ⟨ob,fO Ob Xr om⟩)
              ·exact ob
            ·refine cu (λ (g6:Int)=>1≤g6∧(∀j:Nat,(j:Int)<g6→1≤j→x_.dx.getD (j - 1) 0<x_.dx.getD j 0)) (λ (g6:Int)=>(x_.dx.length - g6).toNat) ?_ ?_
             ·intro jE g6 Xu UO;obtain ⟨Uh,Jk⟩:=Xu;unfold KN;refine wi ?_ ?_<;>intro c13
              ·refine wm<|wn ?_;refine wi ?_ ?_<;>intro c14
               ·exact aK (bH om (bH (kN eG om) (bH (kN nG om) (bH (kN Dx om) (bH (kN yN om) (bH om (bH (kN Ob om) (gQ ⟨g6.toNat,om,om,by rw [show g6.toNat - 1=(g6 - 1).toNat by omega]; omega⟩))))))))
               ·refine wn<|UO _ ?_ ?_
                ·(refine ⟨ob,λ j h1 h2=>?_⟩; by_cases q:(j:Int)<g6; (exact Jk j q h2); (have e:j=g6.toNat:=by omega); subst e; rw [show g6.toNat - 1=(g6 - 1).toNat by omega]; omega)
                ·exact ob
              ·exact aK (bH om (bH (kN eG om) (bH (kN nG om) (bH (kN Dx om) (bH (kN yN om) (bH om (bH (kN Ob om) (bH (XC Jk om) (rfl)))))))))
             ·(refine ⟨ob,λ j h1 h2=>by omega⟩)
           ·(refine ⟨ob,λ j hj=>by (try dsimp only at hj); omega⟩)
        ·(refine ⟨ob,λ j hj=>by (try dsimp only at hj); omega⟩)
      ·(refine ⟨ob,λ j hj=>by (try dsimp only at hj); omega⟩)
    ·(refine ⟨ob,λ j hj=>by (try dsimp only at hj); omega⟩)
  ·(refine ⟨ob,λ j hj=>by (try dsimp only at hj); omega⟩)
theorem sF (h1:Sj b_) (h2:∀g∈b_.aQ.aG,g.dz.length≤2000000∧g.aI.length≤2000000) (h3:Xp l_):W (qc b_ l_) (λ r=>BP b_ l_ r):=by
 obtain ⟨w1,w2⟩:=h3;unfold qc;refine aL (XE h1 h2) λ v1 hv1=>?_;refine wi ?_ ?_<;>intro c1
 ·exact aK<|XB hv1 c1
 ·refine wi ?_ ?_<;>intro c2
  ·exact aK<|w9 (c1 ▸ hv1) (gQ c2)
  ·refine cu (λ (g1:Int)=>0≤g1∧(∀j:Nat,(j:Int)<g1→NdE b_ (l_.getD j dh) l_.length 0)) (λ (g1:Int)=>(l_.length - g1).toNat) ?_ ?_
   ·intro ah g1 fZ dS;obtain ⟨fI,eG⟩:=fZ;unfold NH;refine wi ?_ ?_<;>intro c3
    ·have hw:=w2 _ (getD_in (i:=g1.toNat) dh om);refine wn<|aL (YJ ob ob ob ob) λ v4 hv4=>?_;refine wi ?_ ?_<;>intro c4
     ·exact aK<|w9 (c1 ▸ hv1) (bH om (abe (i:=g1.toNat) om (λ k hk=>eG k om) hv4 c4))
     ·refine wn<|dS _ ?_ ?_
      ·(refine ⟨ob,fO eG fI (by rw [c4] at hv4; exact hv4)⟩)
      ·exact ob
    ·exact aK<|w9 (c1 ▸ hv1) (bH om (abf λ k hk=>eG k om))
   ·(refine ⟨ob,λ j hj=>by (try dsimp only at hj); omega⟩)
theorem UU {g_:aF} (h1:Sj b_) (h2:l_.length≤2000000) (h3:uK g_):W (Ac b_ l_ g_) (λ r=>r=true↔alZ b_ l_ g_):=by
 obtain ⟨s1,s2,s3,s4,s5,s6,s7⟩:=h1;obtain ⟨z1,z2,z3,z4,z5,z6⟩:=h3;unfold Ac;refine wi ?_ ?_<;>intro c1
 ·refine aK ?_;(constructor; (intro e; cases e); (rintro ⟨⟨b1,b2,b3,b4,b5⟩,_⟩; omega))
 ·refine cu (λ (g1:Int)=>0≤g1∧(∀j:Nat,(j:Int)<g1→0≤g_.Setting.getD j 0∧g_.Setting.getD j 0<(b_.bT.getD j aV).aR.length)) (λ (g1:Int)=>(g_.Setting.length - g1).toNat) ?_ ?_
  ·intro ah g1 fZ dS;obtain ⟨fI,eG⟩:=fZ;unfold IV;refine wi ?_ ?_<;>intro c2
   ·refine wm<|wn ?_;refine wi ?_ ?_<;>intro c3
    ·refine aK ?_;(constructor; (intro e; cases e); (rintro ⟨_,a,_⟩; have:=a g1.toNat om; omega))
    ·refine wn<|dS _ ?_ ?_
     ·(refine ⟨ob,fO eG fI om⟩)
     ·exact ob
   ·refine cu (λ (g2:Int)=>0≤g2∧(∀j:Nat,(j:Int)<g2 → -1≤(g_.Uses.getD j bE).gU∧(g_.Uses.getD j bE).gU<l_.length)) (λ (g2:Int)=>(g_.Uses.length - g2).toNat) ?_ ?_
    ·intro dR g2 Eu Aq;obtain ⟨yM,nG⟩:=Eu;unfold IU;refine wi ?_ ?_<;>intro c4
     ·refine wm<|wi ?_ ?_<;>intro c5
      ·refine aK ?_;(constructor; (intro e; cases e); (rintro ⟨_,_,a⟩; have:=a g2.toNat om; omega))
      ·refine wn<|Aq _ ?_ ?_
       ·(refine ⟨ob,fO nG yM om⟩)
       ·exact ob
     ·refine aK ?_;(constructor; (intro _; exact ⟨⟨om,om,om,om,om⟩,λ i hi=>eG i om,λ i hi=>nG i om⟩); (intro _; rfl))
    ·(refine ⟨ob,λ j hj=>by (try dsimp only at hj); omega⟩)
  ·(refine ⟨ob,λ j hj=>by (try dsimp only at hj); omega⟩)
variable {l:List ay} {s:List Int}
theorem al0 (hf:Yy l) (hs:uH l s=true) {x:bg} (h0:0≤x.fJ) (h1:x.fJ<l.length):M5 (Gl l s) x=ajr (jK l s) x:=by
 obtain ⟨e1,e2,_,_⟩:=VF hf hs x.fJ.toNat om;unfold M5 ajr;rw [e1,e2,Bool.not_not]
theorem al1 (hf:Yy l) (hs:uH l s=true):aeV l (Gl l s)=ownB l (jK l s):=by
 unfold aeV ownB;have:∀i∈List.range l.length,(!ajT (Gl l s).1 (Gl l s).2 l i)=(!aom ((jK l s).getD i gW) (l.getD i aV)):=λ i hi=>by
  obtain ⟨e1,e2,_,_⟩:=VF hf hs i (by simpa using hi);unfold ajT aom;rw [e1,e2]
 rw [Bool.eq_iff_iff,List.all_eq_true,List.all_eq_true];exact ⟨λ h i hi=>by rw [← this i hi]; exact h i hi,λ h i hi=>by rw [this i hi]; exact h i hi⟩
theorem any_congr {l:List α} {p q:α→Bool} (h:∀x∈l,p x=q x):l.any p=l.any q:=by
 rw [Bool.eq_iff_iff,List.any_eq_true,List.any_eq_true];exact ⟨λ ⟨x,h1,h2⟩=>⟨x,h1,by rw [← h x h1]; exact h2⟩,λ ⟨x,h1,h2⟩=>⟨x,h1,by rw [h x h1]; exact h2⟩⟩
theorem BQ {m:List bg} (h1:lJ l m=true) (h2:uH l s=true):iN l s m=Dw l s m:=by
 obtain ⟨hck,hml,hmb⟩:=Qs h1;have hf:=Am hck;unfold iN Dw;rw [h1,h2,al1 hf h2,any_congr λ x hx=>al0 hf h2 (Qt (Qu h1 x hx)).1.1 (Qt (Qu h1 x hx)).1.2,Bool.and_comm (!_)];rfl
theorem xg {l_:List ay} {s_:List Int} (h1:l_.length≤2000000) (h2:s_.length≤2000000) (h3:ag4 l_):W (oV l_ s_) (λ r=>r=((fq l_==0)&&uH l_ s_)):=by
 unfold oV;refine aL (sw ob) λ v1 hv1=>?_;subst v1;refine cO ?_ ?_<;>intro c1
 ·have jf:=c1;have c1:=fA c1;refine aK ?_;(rcases Bool.or_eq_true_iff.1 jf with c | c; (rw [show (fq l_==0)=false by simpa using c]; rfl); (unfold uH; rw [show ((s_.length:Int)==(l_.length:Int))=false by simpa using c]; simp))
 ·have jf:=c1;have c1:=fA c1;have he:((s_.length:Int)==(l_.length:Int))=true:=(by have:=(Bool.or_eq_false_iff.1 jf).2; simpa using this);have hc0:(fq l_==0)=true:=(by have:=(Bool.or_eq_false_iff.1 jf).1; simpa using this);refine cu (λ (g1:Int)=>0≤g1∧g1≤l_.length∧(∀j:Nat,(j:Int)<g1→dO (s_.getD j 0) 0 ((l_.getD j aV).aR.length - 1)=true)) (λ (g1:Int)=>(l_.length - g1).toNat) ?_ ?_
  ·intro ah g1 fZ dS;obtain ⟨fI,eG,dI⟩:=fZ;unfold Fv;refine wi ?_ ?_<;>intro c2
   ·have hch:=h3 g1.toNat om;refine wm<|wn ?_;refine wi ?_ ?_<;>intro c3
    ·refine aK ?_;(unfold uH; rw [he,Lr (i:=g1.toNat) om (by unfold dO; rw [Bool.and_eq_false_iff,decide_eq_false_iff_not,decide_eq_false_iff_not]; omega)]; simp)
    ·refine wn<|dS _ ?_ ?_
     ·(refine ⟨ob,ob,fO dI fI (by unfold dO; rw [Bool.and_eq_true,decide_eq_true_eq,decide_eq_true_eq]; omega)⟩)
     ·exact ob
   ·refine aK ?_;(unfold uH; rw [he,hc0,N8 λ j hj=>dI j om]; rfl)
  ·(refine ⟨ob,ob,λ j hj=>by omega⟩)
theorem BR {l_:List ay} {s_:List Int} {m_:List bg} (h1:l_.length≤2000000) (h2:s_.length≤2000000) (h3:m_.length≤2000000) (h4:ag4 l_):W (yK l_ s_ m_) (λ r=>r=iN l_ s_ m_):=by
 unfold yK;refine aL (xg ob ob ob) λ v1 hv1=>?_;subst v1;refine aL (mM λ hc=>D8 (BK ob ob)) λ v2 hv2=>?_;subst v2;refine cO ?_ ?_<;>intro c1
 ·have jf:=c1;have c1:=fA c1;refine aK ?_;(unfold iN; rcases Bool.or_eq_true_iff.1 jf with c | c; (simp only [Bool.not_eq_true',Bool.and_eq_false_iff,beq_eq_false_iff_ne] at c; rcases c with c | c; (rw [show lJ l_ m_=false by (unfold lJ; rw [show (fq l_==0)=false by simpa using c]; rfl)]; rfl); (rw [c,Bool.and_false]; rfl)); (rw [show lJ l_ m_=false by simpa using c]; rfl))
 ·have jf:=c1;have c1:=fA c1;have hss:uH l_ s_=true:=(by have:=(Bool.or_eq_false_iff.1 jf).1; simp only [Bool.not_eq_false',Bool.and_eq_true] at this; exact this.2);have hlm:lJ l_ m_=true:=(by have:=(Bool.or_eq_false_iff.1 jf).2; simpa using this);obtain ⟨hck,hml,hmb⟩:=Qs hlm;have hst:=Hr l_ s_ l_.length;refine aL (BL (VE (Am hck) hss) (afU (Am hck) hss)) λ v3 hv3=>?_;subst v3;have hs1:(Gl l_ s_).1.length=l_.length:=hst.1;have hs2:(Gl l_ s_).2.length=l_.length:=hst.2;refine cu (λ (g1:Int)=>0≤g1∧g1≤m_.length∧(m_.drop g1.toNat).any (M5 (Gl l_ s_))=m_.any (M5 (Gl l_ s_))) (λ (g1:Int)=>(m_.length - g1).toNat) ?_ ?_
  ·intro ah g1 fZ dS;obtain ⟨fI,eG,dI⟩:=fZ;unfold K3;refine wi ?_ ?_<;>intro c2
   ·have hlt:g1.toNat<m_.length:=om;have hx:=(Qt (Qu hlm _ (getD_in (i:=g1.toNat) dU hlt))).1;rw [drop_cons dU hlt,List.any_cons] at dI;refine wm<|wn ?_;refine aL (mM λ hc=>D8 (vQ)) λ v6 hv6=>?_;subst v6;refine cO ?_ ?_<;>intro c3
    ·have nu:=c3;have c3:=fA c3;refine aK ?_;(rw [BQ hlm hss]; unfold Dw; rw [← dI,show M5 (Gl l_ s_) (m_.getD g1.toNat dU)=true from nu]; rfl)
    ·have nu:=c3;have c3:=fA c3;refine wn<|dS _ ?_ ?_
     ·(refine ⟨ob,ob,?_⟩; rw [← dI,show M5 (Gl l_ s_) (m_.getD g1.toNat dU)=false from nu,show (g1+1).toNat=g1.toNat+1 by omega]; rfl)
     ·exact ob
   ·refine aL (LG ob ob ob) λ v7 hv7=>?_;subst v7;refine aK ?_;(rw [BQ hlm hss]; unfold Dw; rw [← dI,show g1.toNat=m_.length by omega,List.drop_length]; rfl)
  ·(refine ⟨ob,ob,rfl⟩)
theorem LJ.v (h:LJ p 0):adk p:=by
 obtain ⟨h1,h2⟩:=sD (by decide) h;obtain ⟨h3,h4⟩:=sD (by decide) h2;have h5:=aj0 h4;have hg:∀i:Nat,(i:Int)<p.aG.length→GpV p.dz (p.aG.getD i aM)∧∀k:Nat,k<i→(p.aG.getD k aM).EF.toList≠(p.aG.getD i aM).EF.toList:=λ i hi=>by
  obtain ⟨a1,a2⟩:=sD (by decide) (h5 i om);obtain ⟨b1,b2⟩:=sD (by decide) a2;obtain ⟨c1,c2⟩:=sD (by decide) b2;obtain ⟨d1,d2⟩:=sD (by decide) c2;obtain ⟨e1,e2⟩:=sD (by decide) d2;obtain ⟨f1,f2⟩:=sD (by decide) e2;obtain ⟨k1,k2⟩:=sD (by decide) f2;obtain ⟨l1,_⟩:=sD (by decide) k2;refine ⟨⟨⟨om,om,mQ 0 λ j hj=>?_⟩,Classical.not_not.1 a1,λ k hk hl=>?_,λ j hj=>?_,λ k j hj hk e=>l1 ⟨k,j,hj,hk,e⟩⟩,λ k hk e=>b1 ⟨k,hk,e⟩⟩
  ·exact Classical.byContradiction λ q=>e1 ⟨j,om,q⟩
  ·exact Classical.byContradiction λ q=>f1 ⟨k,hk,hl,om⟩
  ·exact Classical.byContradiction λ q=>k1 ⟨j,hj,q⟩
 exact ⟨⟨om,om,mQ aM λ i hi=>(hg i om).1.ok⟩,λ i hi=>(hg i hi).1,λ i k hk hi=>(hg i hi).2 k hk⟩
def aqo (p:bL) (l:List gM) (i:Nat):Prop:=Ud p (l.getD i jg)∧(∀k:Nat,k<i→(l.getD k jg).bM≠(l.getD i jg).bM)∧
 ∀k:Nat,k<i→∀a b:Nat,(a:Int)<(p.aG.getD (l.getD k jg).bM.toNat aM).dz.length→(b:Int)<(p.aG.getD (l.getD i jg).bM.toNat aM).dz.length→(p.aG.getD (l.getD k jg).bM.toNat aM).dz.getD a 0≠(p.aG.getD (l.getD i jg).bM.toNat aM).dz.getD b 0
def Sm (p:bL) (l:List gM):Prop:=∀i:Nat,(i:Int)<l.length→aqo p l i
def GSz (p:bL):Prop:=∀g∈p.aG,g.dz.length≤2000000∧g.aI.length≤2000000
structure NdV (b:aP) (k:Int) (n:aO):Prop where
 ok:aox b n
 fw:∀j:Nat,(j:Int)<n.aI.length→QH (n.aI.getD j ByteArray.empty)
 pr:∀x∈n.dx,0≤x∧x<k
 ps:∀k:Nat,1≤k→(k:Int)<n.dx.length→n.dx.getD (k - 1) 0<n.dx.getD k 0
def atp (l:List Int):Prop:=∀k j:Nat,j<k→(k:Int)<l.length→l.getD j 0≠l.getD k 0
def nmU (p:bL) (u:gM):ByteArray:=((p.aG.getD u.bM.toNat aM).aI.getD u.dA.toNat ByteArray.empty)
def M6 (p:bL) (us:List au) (m:Int) (f:ByteArray):Nat:=us.countP λ u=>(u.gU==m)&&decide (nmU p u.iB=f)
def cntF (l:List ByteArray) (f:ByteArray):Nat:=l.countP λ x=>decide (x=f)
variable {f:ByteArray}
theorem ZC {us:List au} {u:au} {m:Int} :M6 p (us++[u]) m f=M6 p us m f+(if u.gU=m∧nmU p u.iB=f then 1 else 0):=by
 unfold M6;rw [List.countP_append,List.countP_singleton];congr 1;simp only [Bool.and_eq_true,beq_iff_eq,decide_eq_true_eq]
theorem ZE {l:List ByteArray} {x:ByteArray} :cntF (l++[x]) f=cntF l f+(if x=f then 1 else 0):=by
 unfold cntF;rw [List.countP_append,List.countP_singleton];congr 1;simp only [decide_eq_true_eq]
def aqp (r:dL) (x:bg):Prop:=r.pQ≠0∧r.pQ≤x.gF*r.lK∧x.Low*r.lK≤r.pQ
structure awQ (s:iL):Prop where
 sc:atf s
 sh:atg s
 bv:BdV s.bZ
 dst:atp s.dH
 st:∀i:Nat,(i:Int)<s.bZ.bT.length→0≤s.bW.Setting.getD i 0∧s.bW.Setting.getD i 0<(s.bZ.bT.getD i aV).aR.length
 us:∀u∈s.bW.Uses,-1≤u.gU∧u.gU<s.iH.length
 sb:uH s.bZ.bT s.bW.Setting=true
 mt:iN s.bZ.bT s.bW.Setting []=true
 lm:∀m∈s.dH,∀x∈(s.iH.getD m.toNat dh).eF,aqp ((jK s.bZ.bT s.bW.Setting).getD x.fJ.toNat gW) x
 dr:Sp.iN s.bZ.bD s.bW.aY (s.dH.flatMap λ m=>(s.iH.getD m.toNat dh).gJ)=true
 pn:UsV s.bZ.aQ (s.bW.Uses.map au.iB)
 fn:∀m∈s.dH,∀f,cntF (s.iH.getD m.toNat dh).aI f≤M6 s.bZ.aQ s.bW.Uses m f
 rs:ahr s.bZ.bf s.bW.Released
 rl:∀m∈s.dH,∀x∈(s.iH.getD m.toNat dh).bf,s.bW.Released.getD x.toNat false=true
 dm:ajV s.bZ.bO s.bW.bq
 dl:∀m∈s.dH,0≤(s.iH.getD m.toNat dh).gB→s.bW.bq.getD (s.iH.getD m.toNat dh).gB.toNat false=true
theorem aht {r:dL} (hv:vN r=true) (h:zP r=false):r.pQ≠0:=by
 intro e;obtain ⟨_,_,h3,_,h5⟩:=tL hv;rw [e] at h5;unfold mO at h5;rw [show (0:Int).toNat=0 from rfl,Nat.gcd_zero_left] at h5;have:r.lK=1:=by omega
 unfold zP at h;rw [e,this] at h;cases h
theorem aeY {r:dL} {lo hi:Int} (h:vO r lo hi=true):lo*r.lK≤r.pQ∧r.pQ≤hi*r.lK:=by
 unfold vO at h;simp only [Bool.and_eq_true,Bool.or_eq_true,decide_eq_true_eq,beq_iff_eq] at h;obtain ⟨hv,h1,h2⟩:=h;obtain ⟨n0,_,d1,_,_⟩:=tL hv;have e:=Int.mul_tdiv_add_tmod r.pQ r.lK;have m0:=Int.tmod_nonneg r.lK n0;have m1:=Int.tmod_lt_of_pos r.pQ (show 0<r.lK by omega);have e2:r.lK*r.pQ.tdiv r.lK=r.pQ.tdiv r.lK*r.lK:=Int.mul_comm _ _;have l1:lo*r.lK≤r.pQ.tdiv r.lK*r.lK:=Int.mul_le_mul_of_nonneg_right h1 om;refine ⟨om,?_⟩;rcases h2 with h2 | ⟨h2,h3⟩
 ·have l2:(r.pQ.tdiv r.lK+1)*r.lK≤hi*r.lK:=Int.mul_le_mul_of_nonneg_right h2 om;rw [Int.add_mul,Int.one_mul] at l2;omega
 ·rw [← h2]; omega
theorem qL {β:Type} {f:α→β} {l:List α} {k:Nat} {d:α} {e:β} (h:k<l.length):(l.map f).getD k e=f (l.getD k d):=by
 rw [List.getD_eq_getElem?_getD,List.getElem?_map,List.getD_eq_getElem?_getD,List.getElem?_eq_getElem h]; rfl
theorem af4 {l:List α} {v d:α} (hj:j<l.length):(l.set j v).getD j d=v:=by
 rw [List.getD_eq_getElem?_getD,List.getElem?_set_self hj]; rfl
theorem af5 {l:List α} {v d:α} (h:i≠j):(l.set j v).getD i d=l.getD i d:=by
 rw [List.getD_eq_getElem?_getD,List.getElem?_set_ne (Ne.symm h),← List.getD_eq_getElem?_getD]
theorem al2 {r:dL} (h:r.pQ≠0):zP r=false:=by
 unfold zP;rw [show (r.pQ==0)=false by simpa using h]; rfl
theorem aeZ {r:dL} {lo hi:Int} (hv:vN r=true) (h1:lo*r.lK≤r.pQ) (h2:r.pQ≤hi*r.lK):vO r lo hi=true:=by
 unfold vO;obtain ⟨n0,_,d1,_,_⟩:=tL hv;have e:=Int.mul_tdiv_add_tmod r.pQ r.lK;have m0:=Int.tmod_nonneg r.lK n0;have m1:=Int.tmod_lt_of_pos r.pQ (show 0<r.lK by omega);have e2:r.lK*r.pQ.tdiv r.lK=r.pQ.tdiv r.lK*r.lK:=Int.mul_comm _ _;simp only [Bool.and_eq_true,Bool.or_eq_true,decide_eq_true_eq,beq_iff_eq];have q1:lo≤r.pQ.tdiv r.lK:=by
  refine Int.not_lt.1 λ h=>?_;have:(r.pQ.tdiv r.lK+1)*r.lK≤lo*r.lK:=Int.mul_le_mul_of_nonneg_right h om;rw [Int.add_mul,Int.one_mul] at this;omega
 have q2:r.pQ.tdiv r.lK≤hi:=by
  refine Int.not_lt.1 λ h=>?_;have:(hi+1)*r.lK≤r.pQ.tdiv r.lK*r.lK:=Int.mul_le_mul_of_nonneg_right h om;rw [Int.add_mul,Int.one_mul] at this;omega
 refine ⟨hv,q1,?_⟩;by_cases q:r.pQ.tdiv r.lK<hi
 ·exact .inl q
 ·have:r.pQ.tdiv r.lK=hi:=by omega
  refine .inr ⟨this,?_⟩;rw [this] at e e2;omega
theorem ZF (h:iN l s []=true):fq l=0∧uH l s=true∧ownB l (jK l s)=true:=by
 unfold iN at h;simp only [Bool.and_eq_true] at h;exact ⟨(Qs h.1.1).1,h.1.2,h.2.1⟩
def al3 (r:dL) (x:bg) (bt:Bool):Prop:=r.pQ≠0∧r.pQ≤x.gF*r.lK∧(bt=false→x.Low*r.lK≤r.pQ)
theorem ZG {k lo hi:Int} (h:iN l s []=true) (k0:0≤k) (k1:k<l.length) (h0:0≤lo) (h1:lo≤hi) (h2:hi≤4000000000):
  iN l s [⟨k,lo,hi⟩]=true↔((jK l s).getD k.toNat gW).pQ≠0∧((jK l s).getD k.toNat gW).pQ≤hi*((jK l s).getD k.toNat gW).lK∧lo*((jK l s).getD k.toNat gW).lK≤((jK l s).getD k.toNat gW).pQ:=by
 obtain ⟨c1,c2,c3⟩:=ZF h;have hv:=(VF (Am c1) c2 k.toNat om).2.2.1;have hb:OJ (l.length:Int) ⟨k,lo,hi⟩=false:=by
  unfold OJ dO;simp only [Bool.or_eq_false_iff,Bool.not_eq_false',Bool.and_eq_true,decide_eq_true_eq];omega
 have hl:lJ l [⟨k,lo,hi⟩]=true:=by
  unfold lJ;rw [c1,show List.any [(⟨k,lo,hi⟩:bg)] (OJ l.length)=false by rw [List.any_cons,hb]; rfl]; rfl
 unfold iN;rw [hl,c2,c3];simp only [Bool.true_and,List.any_cons,List.any_nil,Bool.or_false,Bool.not_eq_true'];unfold ajr;dsimp only;constructor
 ·intro e;rw [Bool.or_eq_false_iff,Bool.not_eq_false'] at e;obtain ⟨w1,w2⟩:=aeY e.2;exact ⟨aht hv e.1,w2,w1⟩
 ·rintro ⟨a1,a2,a3⟩;rw [al2 a1,aeZ hv a3 a2]; rfl
def aoE (b:aP) (g:aF) (n:aO) (bt:Bool):Prop:=∀j:Nat,(j:Int)<n.eF.length→al3 ((jK b.bT g.Setting).getD (n.eF.getD j dU).fJ.toNat gW) (n.eF.getD j dU) bt
def aoF (b:aP) (g:aF) (n:aO) (d:Int):Prop:=∀f:ByteArray,cntF n.aI f≤M6 b.aQ g.Uses d f
def aqr (g:aF) (n:aO):Prop:=∀j:Nat,(j:Int)<n.bf.length→g.Released.getD (n.bf.getD j 0).toNat false=true
def aqs (g:aF) (n:aO):Prop:=0≤n.gB→g.bq.getD n.gB.toNat false=true
def drM (l:List aO) (ms:List Int):List bU:=ms.flatMap λ m=>(l.getD m.toNat dh).gJ
theorem Au {b:Bool} {P:Prop} (h:b=true↔P) (c:b=false):¬P:=λ p=>by rw [h.2 p] at c; cases c
theorem UW {l_:List gM} (h1:∀g∈p_.aG,g.dz.length≤2000000∧g.aI.length≤2000000) (h2:l_.length≤2000000):W (Ae p_ l_) (λ r=>(r.2=0↔LJ p_ 0∧Sm p_ l_)):=by
 unfold Ae;refine aL (BM h1) λ v1 hv1=>?_;refine wi ?_ ?_<;>intro c1
 ·refine aK ?_;(refine ⟨λ e=>by (try dsimp only at e); omega,λ ⟨a,_⟩=>absurd (LJ.fun _ _ hv1 a) c1⟩)
 ·have hpa:LJ p_ 0:=(by rw [c1] at hv1; exact hv1);have hpv:=hpa.v;obtain ⟨⟨p1,p2,p3⟩,gr,nm⟩:=id hpv;refine wn<|cu (λ (g1:Int×List Int)=>0≤g1.1∧g1.2.length=p_.dz.toNat∧(∀x:Nat,(x:Int)<g1.1→g1.2.getD x 0 = -1)) (λ (g1:Int×List Int)=>(p_.dz - g1.1).toNat) ?_ ?_
  ·intro ah g1 fZ dS;obtain ⟨fI,eG,dI⟩:=fZ;unfold IY;refine wi ?_ ?_<;>intro c2
   ·refine wm<|dS _ ?_ ?_
    ·(refine ⟨ob,by simp only [List.length_set]; exact eG,λ x hx=>?_⟩; dsimp only at hx ⊢; by_cases q:x=g1.1.toNat; (rw [q,af4 om]); (rw [af5 q]; exact dI x om))
    ·exact ob
   ·refine cu (λ (g2:Int×List Int)=>0≤g2.1∧g2.2.length=p_.dz.toNat∧(∀x:Nat,(x:Int)<p_.dz→(g2.2.getD x 0 ≠ -1↔∃j:Nat,(j:Int)<g2.1∧∃k:Nat,(k:Int)<(p_.aG.getD (l_.getD j jg).bM.toNat aM).dz.length∧(p_.aG.getD (l_.getD j jg).bM.toNat aM).dz.getD k 0=x))∧(∀i:Nat,(i:Int)<g2.1→aqo p_ l_ i)) (λ (g2:Int×List Int)=>(l_.length - g2.1).toNat) ?_ ?_
    ·intro dR g2 Eu Aq;obtain ⟨yM,nG,mo,Jl⟩:=Eu;unfold IX;refine wi ?_ ?_<;>intro c3
     ·refine wm<|wm ?_;refine wi ?_ ?_<;>intro c4
      ·refine aK ?_;(refine ⟨λ e=>by (try dsimp only at e); omega,λ ⟨_,h⟩=>?_⟩; obtain ⟨⟨u1,u2,u3,u4⟩,_⟩:=h g2.1.toNat om; omega)
      ·have hu:Ud p_ (l_.getD g2.1.toNat jg):=⟨om,om,om,om⟩;obtain ⟨u1,u2,u3,u4⟩:=id hu;refine cu (λ (g7:Int)=>0≤g7∧(∀k:Nat,(k:Int)<g7→(l_.getD k jg).bM≠(l_.getD g2.1.toNat jg).bM)) (λ (g7:Int)=>(g2.1 - g7).toNat) ?_ ?_
       ·intro ou g7 aeX adl;obtain ⟨adn,QL⟩:=aeX;unfold Fx;refine wi ?_ ?_<;>intro c5
        ·refine wn<|wi ?_ ?_<;>intro c6
         ·refine aK ?_;(refine ⟨λ e=>by (try dsimp only at e); omega,λ ⟨_,h⟩=>?_⟩; obtain ⟨_,hd,_⟩:=h g2.1.toNat om; exact absurd c6 (hd g7.toNat om))
         ·refine wn<|adl _ ?_ ?_
          ·(refine ⟨ob,fO QL adn c6⟩)
          ·exact ob
        ·refine wn<|cu (λ (g8:Int×List Int)=>0≤g8.1∧g8.1≤(p_.aG.getD (l_.getD g2.1.toNat jg).bM.toNat aM).dz.length∧g8.2.length=p_.dz.toNat∧(∀x:Nat,(x:Int)<p_.dz→(g8.2.getD x 0 ≠ -1↔(∃j:Nat,(j:Int)<g2.1∧∃k:Nat,(k:Int)<(p_.aG.getD (l_.getD j jg).bM.toNat aM).dz.length∧(p_.aG.getD (l_.getD j jg).bM.toNat aM).dz.getD k 0=x)∨∃k:Nat,(k:Int)<g8.1∧(p_.aG.getD (l_.getD g2.1.toNat jg).bM.toNat aM).dz.getD k 0=x))∧(∀b:Nat,(b:Int)<g8.1→∀j:Nat,(j:Int)<g2.1→∀a:Nat,(a:Int)<(p_.aG.getD (l_.getD j jg).bM.toNat aM).dz.length→(p_.aG.getD (l_.getD j jg).bM.toNat aM).dz.getD a 0≠(p_.aG.getD (l_.getD g2.1.toNat jg).bM.toNat aM).dz.getD b 0)) (λ (g8:Int×List Int)=>((p_.aG.getD (l_.getD g2.1.toNat jg).bM.toNat aM).dz.length - g8.1).toNat) ?_ ?_
         ·intro Iw g8 aoC aoD;obtain ⟨amN,ajZ,amP,af6,amQ⟩:=aoC;unfold Fw;refine wi ?_ ?_<;>intro c7
          ·have hmg:=getD_in (l:=p_.aG) (i:=(l_.getD g2.1.toNat jg).bM.toNat) aM om;have hgl:=(h1 _ hmg).1;have hpn:=(p3 _ hmg).pn _ (getD_in (i:=g8.1.toNat) 0 om);refine wm<|wi ?_ ?_<;>intro c8
           ·refine aK ?_;(refine ⟨λ e=>by (try dsimp only at e); omega,λ ⟨_,h⟩=>?_⟩; obtain ⟨_,_,hd⟩:=h g2.1.toNat om; exfalso; rcases (af6 ((p_.aG.getD (l_.getD g2.1.toNat jg).bM.toNat aM).dz.getD g8.1.toNat 0).toNat om).1 c8 with ⟨j,e3,k,e5,e6⟩ | ⟨k,e5,e6⟩; (exact hd j om k g8.1.toNat e5 om (by rw [e6]; omega)); (have:=Xz hpv u1 u2 k g8.1.toNat om om; omega))
           ·refine wm<|aoD _ ?_ ?_
            ·(refine ⟨ob,ob,by simp only [List.length_set]; exact amP,λ x hx=>?_,λ b hb j hj a ha=>?_⟩; (dsimp only; by_cases q:x=((p_.aG.getD (l_.getD g2.1.toNat jg).bM.toNat aM).dz.getD g8.1.toNat 0).toNat; (rw [q,af4 om]; constructor; (intro _; exact .inr ⟨g8.1.toNat,om,om⟩); (intro _; omega)); (rw [af5 q,af6 x hx]; constructor; (rintro (h | ⟨k,e5,e6⟩); (exact .inl h); (exact .inr ⟨k,om,e6⟩)); (rintro (h | ⟨k,e5,e6⟩); (exact .inl h); (refine .inr ⟨k,?_,e6⟩; by_cases e:(k:Int)<g8.1; (exact e); exfalso; apply q; rw [show g8.1.toNat=k by omega]; omega)))); (by_cases q:(b:Int)<g8.1; (exact amQ b q j hj a ha); (have e:b=g8.1.toNat:=by (try dsimp only at hb); omega); subst e; intro e7; have e8:=(af6 ((p_.aG.getD (l_.getD g2.1.toNat jg).bM.toNat aM).dz.getD g8.1.toNat 0).toNat om).2 (.inl ⟨j,hj,a,ha,by rw [e7]; omega⟩); omega))
            ·exact ob
          ·refine wn<|Aq _ ?_ ?_
           ·(refine ⟨ob,amP,λ x hx=>?_,fO Jl yM ⟨hu,λ k hk e=>QL k om e,λ k hk a b ha hb=>amQ b om k om a ha⟩⟩; dsimp only; rw [af6 x hx]; constructor; (rintro (⟨j,e3,e⟩ | ⟨k,e5,e6⟩); (exact ⟨j,om,e⟩); (exact ⟨g2.1.toNat,om,k,om,e6⟩)); (rintro ⟨j,e3,k,e5,e6⟩; by_cases q:(j:Int)<g2.1; (exact .inl ⟨j,q,k,e5,e6⟩); (have e:j=g2.1.toNat:=by omega); subst e; exact .inr ⟨k,om,e6⟩))
           ·exact ob
         ·(refine ⟨ob,ob,ob,λ x hx=>⟨λ h=>.inl ((mo x hx).1 h),?_⟩,λ b hb=>?_⟩; (rintro (h | ⟨k,e5,_⟩); (exact (mo x hx).2 h); (exfalso; (try dsimp only at e5); omega)); (exfalso; (try dsimp only at hb); omega))
       ·(refine ⟨ob,λ j hj=>by (try dsimp only at hj); omega⟩)
     ·refine aK ?_;(refine ⟨λ _=>⟨hpa,λ i hi=>Jl i om⟩,λ _=>rfl⟩)
    ·(refine ⟨ob,om,λ x hx=>⟨λ h=>?_,λ ⟨j,e,_⟩=>?_⟩,λ j hj=>?_⟩; (exact absurd (dI x om) h); (exfalso; (try dsimp only at e); omega); (exfalso; (try dsimp only at hj); omega))
  ·(refine ⟨ob,by simp,λ x hx=>by dsimp only at hx; omega⟩)
theorem YK {l_:List au} (h1:l_.length≤2000000):W (G7 l_) (λ r=>r=l_.map au.iB):=by
 unfold G7;refine cu (λ (g1:Int×List gM)=>0≤g1.1∧g1.1≤l_.length∧g1.2=(l_.take g1.1.toNat).map au.iB) (λ (g1:Int×List gM)=>(l_.length - g1.1).toNat) ?_ ?_
 ·intro ah g1 fZ dS;obtain ⟨fI,eG,dI⟩:=fZ;unfold NP;have hgl:g1.2.length=g1.1.toNat:=(by rw [dI,List.length_map,List.length_take]; omega);refine wi ?_ ?_<;>intro c1
  ·refine wm<|wn ?_;refine dS _ ?_ ?_
   ·(refine ⟨ob,ob,?_⟩; dsimp only; rw [show (g1.1+1).toNat=g1.1.toNat+1 by omega,jU bE om,List.map_append,dI]; rfl)
   ·exact ob
  ·refine aK ?_;(rw [dI,show g1.1.toNat=l_.length by omega,List.take_length])
 ·(refine ⟨ob,ob,rfl⟩)
def fnG (l:List ByteArray) (j:Nat):ByteArray:=l.getD j ByteArray.empty
theorem aj1 {l:List ByteArray} (h:0<cntF l f):∃j:Nat,(j:Int)<l.length∧fnG l j=f:=by
 unfold cntF at h;obtain ⟨x,hx,e⟩:=List.countP_pos_iff.1 h;obtain ⟨j,hj,rfl⟩:=List.mem_iff_getElem.1 hx;exact ⟨j,om,by unfold fnG; rw [List.getD_eq_getElem?_getD,List.getElem?_eq_getElem hj]; simpa using e⟩
theorem XF {x:bg} (h:iN l s []=true) (hx:aa5 l.length x):iN l s [⟨x.fJ,0,x.gF⟩]=true↔al3 ((jK l s).getD x.fJ.toNat gW) x true:=by
 obtain ⟨x1,x2,x3,x4,x5⟩:=hx;rw [ZG h x1 x2 (Int.le_refl 0) om x5,Int.zero_mul];obtain ⟨c1,c2,_⟩:=ZF h;have hv:=(tL (VF (Am c1) c2 x.fJ.toNat om).2.2.1).1;exact ⟨λ ⟨a,b,_⟩=>⟨a,b,nofun⟩,λ ⟨a,b,_⟩=>⟨a,b,hv⟩⟩
theorem XG {x:bg} (h:iN l s []=true) (hx:aa5 l.length x):iN l s [⟨x.fJ,x.Low,x.gF⟩]=true↔al3 ((jK l s).getD x.fJ.toNat gW) x false:=by
 obtain ⟨x1,x2,x3,x4,x5⟩:=hx;rw [ZG h x1 x2 x3 x4 x5];exact ⟨λ ⟨a,b,c⟩=>⟨a,b,λ _=>c⟩,λ ⟨a,b,c⟩=>⟨a,b,c rfl⟩⟩
theorem LK (h:Thn A B 0):A 0∧B 0:=by
 rcases h with h | h
 ·exact absurd rfl h.2
 ·exact h
theorem Dy {l:List aO} (h:BP b l 0):amM b∧l.length≤12∧∀n∈l,aox b n:=by
 obtain ⟨h1,h2⟩:=LK h;obtain ⟨b1,h3⟩:=LK h1;obtain ⟨b2,h4⟩:=LK h3;obtain ⟨b3,h5⟩:=LK h4;obtain ⟨b4,b5⟩:=LK h5;obtain ⟨c1,c2⟩:=sD (by decide) h2;refine ⟨⟨b1.symm,b2.symm,b3.v.ok,b4.ok,b5.ok⟩,om,mQ dh λ i hi=>?_⟩;obtain ⟨d1,d2⟩:=sD (by decide) (aj0 c2 i hi);obtain ⟨e1,e2⟩:=sD (by decide) d2;obtain ⟨f1,f2⟩:=sD (by decide) e2;obtain ⟨g1,g2⟩:=sD (by decide) f2;obtain ⟨k1,k2⟩:=sD (by decide) g2;obtain ⟨m1,m2⟩:=sD (by decide) k2;refine ⟨om,om,om,mQ dU λ j hj=>?_,mQ eP λ j hj=>?_,mQ 0 λ j hj=>?_,Classical.not_not.1 m1⟩
 ·exact Classical.byContradiction λ q=>e1 ⟨j,om,q⟩
 ·exact Classical.byContradiction λ q=>f1 ⟨j,om,q⟩
 ·exact Classical.byContradiction λ q=>k1 ⟨j,om,q⟩
def aqu (b:aP) (l:List aO) (ms:List Int) (g:aF) (bt:Bool):Prop:=∀i:Nat,(i:Int)<ms.length→aoE b g (l.getD (ms.getD i 0).toNat dh) bt
def aqv (b:aP) (l:List aO) (ms:List Int) (g:aF):Prop:=∀i:Nat,(i:Int)<ms.length→aoF b g (l.getD (ms.getD i 0).toNat dh) (ms.getD i 0)
def aqw (b:aP) (l:List aO) (ms:List Int) (g:aF):Prop:=(RsA b.bf 0∧aqm b.bf g.Released)∧∀i:Nat,(i:Int)<ms.length→aqr g (l.getD (ms.getD i 0).toNat dh)
def atq (b:aP) (l:List aO) (ms:List Int) (g:aF):Prop:=(DmA b.bO 0∧RgP b.bO g.bq)∧∀i:Nat,(i:Int)<ms.length→aqs g (l.getD (ms.getD i 0).toNat dh)
def al4 (b:aP) (l:List aO) (ms:List Int) (g:aF) (bt:Bool):Int→Prop:=
 Jm (¬(QK l ms∧alZ b l g)) 1<|
 Jm (iN b.bT g.Setting []=false) 2<|
 Jm (¬aqu b l ms g bt) 3<|
 Jm (Sp.iN b.bD g.aY (drM l ms)=false) 4<|
 Jm (¬(LJ b.aQ 0∧Sm b.aQ (g.Uses.map au.iB))) 5<|
 Jm (¬aqv b l ms g) 6<|
 Jm (¬aqw b l ms g) 7<|
 Jm (¬atq b l ms g) 8<|
 λ r=>r=0
theorem al4.fun {l:List aO} {ms:List Int} {g:aF} {bt:Bool}:CK (al4 b l ms g bt):=.Gh (.Gh (.Gh (.Gh (.Gh (.Gh (.Gh (.Gh .zero)))))))
def aj2 (b:aP) (l:List aO) (ms:List Int) (g:aF) (bt:Bool):Int→Prop:=Jm (¬BP b l 0) 1 (al4 b l ms g bt)
theorem aj2.fun {l:List aO} {ms:List Int} {g:aF} {bt:Bool}:CK (aj2 b l ms g bt):=.Gh al4.fun
theorem Hy {us:List au} (h:Sm p (us.map au.iB)):∀u∈us,Ud p u.iB:=by
 refine mQ bE λ i hi=>?_;have:=(h i (by rw [List.length_map]; omega)).1;rw [qL (d:=bE) hi] at this;exact this
theorem UY {g_:aF} {x_:aO} {gI:Bool} (h1:b_.bT.length≤2000000) (h2:g_.Setting.length≤2000000) (h3:ag4 b_.bT) (h4:iN b_.bT g_.Setting []=true) (h5:∀x∈x_.eF,aa5 b_.bT.length x) (h6:x_.eF.length≤2000000):W (Ad b_ g_ x_ gI) (λ r=>r=true↔aoE b_ g_ x_ gI):=by
 unfold Ad;refine cu (λ (g1:Int)=>0≤g1∧(∀j:Nat,(j:Int)<g1→al3 ((jK b_.bT g_.Setting).getD (x_.eF.getD j dU).fJ.toNat gW) (x_.eF.getD j dU) gI)) (λ (g1:Int)=>(x_.eF.length - g1).toNat) ?_ ?_
 ·intro ah g1 fZ dS;obtain ⟨fI,eG⟩:=fZ;unfold IW;refine wi ?_ ?_<;>intro c1
  ·have hx:=h5 _ (getD_in (i:=g1.toNat) dU om);refine wn<|wi ?_ ?_<;>intro c2
   ·subst c2;unfold oK;refine aL (BR ob ob ob ob) λ v3 hv3=>?_;subst v3;refine wi ?_ ?_<;>intro c3
    ·refine aK ?_;(constructor; (intro e; cases e); (intro h; exfalso; rw [(XF h4 hx).2 (h g1.toNat om)] at c3; cases c3))
    ·refine wn<|dS _ ?_ ?_
     ·(refine ⟨ob,fO eG fI ((XF h4 hx).1 c3)⟩)
     ·exact ob
   ·subst c2;unfold oK;refine aL (BR ob ob ob ob) λ v3 hv3=>?_;subst v3;refine wi ?_ ?_<;>intro c4
    ·refine aK ?_;(constructor; (intro e; cases e); (intro h; exfalso; rw [(XG h4 hx).2 (h g1.toNat om)] at c4; cases c4))
    ·refine wn<|dS _ ?_ ?_
     ·(refine ⟨ob,fO eG fI ((XG h4 hx).1 c4)⟩)
     ·exact ob
  ·refine aK ?_;(constructor; (intro _; exact λ j hj=>eG j om); (intro _; rfl))
 ·(refine ⟨ob,λ j hj=>by (try dsimp only at hj); omega⟩)
theorem OP {g_:aF} {x_:aO} {cZ:Int} (h1:g_.Uses.length≤2000000) (h2:x_.aI.length≤2000000) (h3:∀u∈g_.Uses,Ud b_.aQ u.iB):W (sU b_ g_ x_ cZ) (λ r=>r=true↔aoF b_ g_ x_ cZ):=by
 unfold sU;refine cu (λ (g1:Int)=>0≤g1∧(∀j:Nat,(j:Int)<g1→cntF x_.aI (fnG x_.aI j)≤M6 b_.aQ g_.Uses cZ (fnG x_.aI j))) (λ (g1:Int)=>(x_.aI.length - g1).toNat) ?_ ?_
 ·intro ah g1 fZ dS;obtain ⟨fI,eG⟩:=fZ;unfold Bu;refine wi ?_ ?_<;>intro c1
  ·refine wn<|cu (λ (g6:Int×Int)=>0≤g6.2∧g6.2≤x_.aI.length∧(0≤g6.1∧g6.1≤g6.2)∧g6.1=(cntF (x_.aI.take g6.2.toNat) (x_.aI.getD g1.toNat ByteArray.empty):Int)) (λ (g6:Int×Int)=>(x_.aI.length - g6.2).toNat) ?_ ?_
   ·intro jE g6 Xu UO;obtain ⟨Uh,Jk,Xv,aj3⟩:=Xu;unfold Br;refine wi ?_ ?_<;>intro c2
    ·refine wn<|cO ?_ ?_<;>intro c3
     ·have nu:=c3;have c3:=fA c3;refine wm<|UO _ ?_ ?_
      ·(refine ⟨ob,ob,ob,?_⟩; dsimp only; rw [aj3,show (g6.2+1).toNat=g6.2.toNat+1 by omega,jU ByteArray.empty om,ZE,if_pos (aeW (by simpa using nu))]; rfl)
      ·exact ob
     ·have nu:=c3;have c3:=fA c3;refine wn<|UO _ ?_ ?_
      ·(refine ⟨ob,ob,ob,?_⟩; dsimp only; rw [aj3,show (g6.2+1).toNat=g6.2.toNat+1 by omega,jU ByteArray.empty om,ZE,if_neg (λ e=>by rw [e] at nu; simp at nu)]; rfl)
      ·exact ob
    ·refine cu (λ (g7:Int×Int)=>0≤g7.2∧g7.2≤g_.Uses.length∧(0≤g7.1∧g7.1≤g7.2)∧g7.1=(M6 b_.aQ (g_.Uses.take g7.2.toNat) cZ (x_.aI.getD g1.toNat ByteArray.empty):Int)) (λ (g7:Int×Int)=>(g_.Uses.length - g7.2).toNat) ?_ ?_
     ·intro ou g7 aeX adl;obtain ⟨adn,QL,avD,aj4⟩:=aeX;unfold zI;refine wi ?_ ?_<;>intro c4
      ·obtain ⟨u1,u2,u3,u4⟩:=h3 _ (getD_in (i:=g7.2.toNat) bE om);refine wm<|wn ?_;refine cO ?_ ?_<;>intro c5
       ·have FM:=c5;have c5:=fA c5;refine wm<|adl _ ?_ ?_
        ·(refine ⟨ob,ob,ob,?_⟩; dsimp only; rw [aj4,show (g7.2+1).toNat=g7.2.toNat+1 by omega,jU bE om,ZC,if_pos (by simp only [Bool.and_eq_true,beq_iff_eq] at FM; exact ⟨FM.1,aeW FM.2⟩)]; rfl)
        ·exact ob
       ·have FM:=c5;have c5:=fA c5;refine wn<|adl _ ?_ ?_
        ·(refine ⟨ob,ob,ob,?_⟩; dsimp only; rw [aj4,show (g7.2+1).toNat=g7.2.toNat+1 by omega,jU bE om,ZC,if_neg (λ e=>by have e2:=e.2; unfold nmU at e2; rw [e.1,e2] at FM; simp at FM)]; rfl)
        ·exact ob
      ·rw [List.take_of_length_le om] at aj3 aj4;refine wi ?_ ?_<;>intro c6
       ·refine aK ?_;(constructor; (intro e; cases e); (intro h; exfalso; have:=h (x_.aI.getD g1.toNat ByteArray.empty); omega))
       ·refine wn<|dS _ ?_ ?_
        ·(refine ⟨ob,fO eG fI (by unfold fnG; omega)⟩)
        ·exact ob
     ·(refine ⟨ob,ob,ob,rfl⟩)
   ·(refine ⟨ob,ob,ob,rfl⟩)
  ·refine aK ?_;(constructor; (intro _ f; rcases Nat.eq_zero_or_pos (cntF x_.aI f) with e | e; (omega); (obtain ⟨j,h4,rfl⟩:=aj1 e; exact eG j om)); (intro _; rfl))
 ·(refine ⟨ob,λ j hj=>by (try dsimp only at hj); omega⟩)
end Go.Proofs.YtifekdmmpbcdgaaGreatDoor
namespace Go.Proofs.YtifekdmmpbcdgaaGreatDoor.Sp
open Go.Ab
set_option maxRecDepth 100000
theorem BS {l_:List aC} {r_:aW} (h1:l_.length≤2000000) (h2:r_.bC.length≤2000000):W (uE l_ r_) (λ r=>r=tN l_ r_):=by
 unfold uE;refine aL (Sp.sj ob) λ v1 hv1=>?_;subst v1;refine cO ?_ ?_<;>intro c1
 ·have jf:=c1;have c1:=fA c1;refine aK ?_;(unfold tN; rw [jf]; rfl)
 ·have jf:=c1;have c1:=fA c1;have hck:fq l_=0∧r_.On.length=l_.length∧r_.bC.length=l_.length:=(by have:=jf; simp only [Bool.or_eq_false_iff,bne_eq_false_iff_eq] at this; omega);obtain ⟨b1,b2,b3⟩:=Ao hck.1;refine cu (λ (g1:Int)=>0≤g1∧g1≤l_.length∧rlN (l_.drop g1.toNat) (r_.bC.drop g1.toNat)=rlN l_ r_.bC) (λ (g1:Int)=>(l_.length - g1).toNat) ?_ ?_
  ·intro ah g1 fZ dS;obtain ⟨fI,eG,dI⟩:=fZ;unfold K4;obtain ⟨i,rfl⟩:=Int.eq_ofNat_of_zero_le fI;refine wi ?_ ?_<;>intro c2
   ·have hlt:i<l_.length:=om;have hb:=b2 i hlt;rw [show ((i:Int).toNat)=i from rfl,drop_cons aH hlt,drop_cons 0 (show i<r_.bC.length by omega),rlN] at dI;simp only [Int.toNat_natCast] at *;refine wm<|wn ?_;refine aL (Sp.nU) λ v4 hv4=>?_;subst v4;refine cO ?_ ?_<;>intro c3
    ·have nu:=c3;have c3:=fA c3;refine aK ?_;(unfold tN; rw [jf,← dI]; rw [show dO (r_.bC.getD i 0) 0 _=false by simpa using nu]; rfl)
    ·have nu:=c3;have c3:=fA c3;refine wn<|dS _ ?_ ?_
     ·(refine ⟨ob,ob,?_⟩; rw [← dI,show dO (r_.bC.getD i 0) 0 _=true by simpa using nu,show ((i:Int)+1).toNat=i+1 by omega]; rfl)
     ·exact ob
   ·refine aK ?_;have e:i=l_.length:=om;unfold tN; rw [jf,← dI,show (i:Int).toNat=i from rfl,e,List.drop_length]; cases List.drop l_.length r_.bC<;>rfl
  ·(refine ⟨ob,ob,rfl⟩)
end Go.Proofs.YtifekdmmpbcdgaaGreatDoor.Sp
namespace Go.Proofs.YtifekdmmpbcdgaaGreatDoor
open Go.Ab
set_option maxRecDepth 100000
theorem BU {l_:List aC} {r_:aW} {d_:List bU} (h1:l_.length≤2000000) (h2:d_.length≤2000000) (h3:r_.bC.length≤2000000):W (uF l_ r_ d_) (λ r=>r=Sp.iN l_ r_ d_):=by
 unfold uF;refine aL (Sp.Ev ob ob) λ v1 hv1=>?_;subst v1;refine aL (mM λ hc=>D8 (Sp.BS ob ob)) λ v2 hv2=>?_;subst v2;refine aL (mM λ hc=>D8 (Sp.Od (Sp.ajB (by simp only [Bool.and_eq_true] at hc; exact hc.1)) (Sp.Sg.1 (by simp only [Bool.and_eq_true] at hc; exact hc.2)).2)) λ v3 hv3=>?_;subst v3;refine aK ?_;(unfold Sp.iN; cases Sp.rz l_ d_<;>cases Sp.tN l_ r_<;>rfl)
theorem zm {b_:aP} {l_:List aO} {aj:List Int} {g_:aF} {gI:Bool} (h1:Sj b_) (h2:∀g∈b_.aQ.aG,g.dz.length≤2000000∧g.aI.length≤2000000) (h3:Xp l_) (h4:aj.length≤10000) (h5:uK g_):W (Ag b_ l_ aj g_ gI) (λ r=>aj2 b_ l_ aj g_ gI r):=by
 obtain ⟨n3,n4⟩:=id h3;obtain ⟨s1,s2,s3,s4,s5,s6,s7⟩:=id h1;obtain ⟨z1,z2,z3,z4,z5,z6⟩:=id h5;unfold Ag;refine aL (sF h1 h2 h3) λ v1 hv1=>?_;refine aL (pq λ hc=>mR n3 om) λ v2 hv2=>?_;refine aL (pq λ hc=>UU h1 n3 h5) λ v3 hv3=>?_;refine cO ?_ ?_<;>intro c1
 ·have jf:=c1;have c1:=fA c1;refine aK ?_;(by_cases q:BP b_ l_ 0; (refine bH (λ h=>h q) (gQ (λ h=>?_)); have e:=BP.fun _ _ hv1 q; have a2:=(hv2 (by rw [e]; rfl)).2 h.1; have a3:=(hv3 (by rw [e,a2]; rfl)).2 h.2; rw [e,a2,a3] at jf; cases jf); exact gQ q)
 ·have jf:=c1;have c1:=fA c1;have e1:v1=0∧v2=true∧v3=true:=(by simp only [Bool.or_eq_false_iff,bne_eq_false_iff_eq,Bool.not_eq_false'] at jf; exact ⟨jf.1.1,jf.1.2,jf.2⟩);have hn0:BP b_ l_ 0:=(by rw [e1.1] at hv1; exact hv1);have q1:QK l_ aj∧alZ b_ l_ g_:=⟨(hv2 (by rw [e1.1]; rfl)).1 e1.2.1,(hv3 (by rw [e1.1,e1.2.1]; rfl)).1 e1.2.2⟩;have nok:=Dy hn0;have hsl:=q1.2.1;refine aL (BR s1 z1 (by decide) s2) λ v4 hv4=>?_;subst v4;refine wi ?_ ?_<;>intro c2
  ·exact aK (bH (λ h=>h hn0) (bH (λ h=>h q1) (gQ c2)))
  ·refine cu (λ (g1:Int×List bU)=>0≤g1.1∧g1.1≤aj.length∧(g1.2.length:Int)≤32*g1.1∧g1.2=drM l_ (aj.take g1.1.toNat)∧(∀i:Nat,(i:Int)<g1.1→aoE b_ g_ (l_.getD (aj.getD i 0).toNat dh) gI)) (λ (g1:Int×List bU)=>(aj.length - g1.1).toNat) ?_ ?_
   ·intro ah g1 fZ dS;obtain ⟨fI,eG,dI,jF,zN⟩:=fZ;unfold I6;refine wi ?_ ?_<;>intro c3
    ·have hmi:=(q1.1 g1.1.toNat om).1;have hnd:=getD_in (l:=l_) (i:=(aj.getD g1.1.toNat 0).toNat) dh om;have hno:=nok.2.2 _ hnd;have hns:=n4 _ hnd;obtain ⟨o1,o2,o3,o4,o5,o6,o7⟩:=id hno;refine bK (by first | omega | (unfold aJ; omega) | (intro h0; have:=of_decide_eq_true h0; omega) | (unfold big; omega)) ?_;refine bK (by first | omega | (unfold aJ; omega) | (intro h0; have:=of_decide_eq_true h0; omega) | (unfold big; omega)) ?_;refine aL (UY s1 z1 s2 c2 o4 om) λ v7 hv7=>?_;refine wi ?_ ?_<;>intro c4
     ·exact aK (bH (λ h=>h hn0) (bH (λ h=>h q1) (bH (by rw [c2]; decide) (gQ (λ h=>Au hv7 c4 (h g1.1.toNat om))))))
     ·refine bK (by first | omega | (unfold aJ; omega) | (intro h0; have:=of_decide_eq_true h0; omega) | (unfold big; omega)) ?_;refine bK (by first | omega | (unfold aJ; omega) | (intro h0; have:=of_decide_eq_true h0; omega) | (unfold big; omega)) ?_;refine bK (by first | omega | (unfold aJ; omega) | (intro h0; have:=of_decide_eq_true h0; omega) | (unfold big; omega)) ?_;refine dS _ ?_ ?_
      ·(refine ⟨om,om,by (simp only [List.length_append]; omega),?_,fO zN fI (hv7.1 c4)⟩; dsimp only; unfold drM at *; rw [show (g1.1+1).toNat=g1.1.toNat+1 by omega,jU 0 om,List.flatMap_append,jF]; simp only [List.flatMap_cons,List.flatMap_nil,List.append_nil])
      ·omega
    ·have q3:aqu b_ l_ aj g_ gI:=λ i hi=>zN i om;have hdr:g1.2=drM l_ aj:=(by rw [jF,show g1.1.toNat=aj.length by omega,List.take_length]);have att:(drM l_ aj).length≤2000000:=(by rw [← hdr]; omega);rw [hdr];refine aL (BU s3 att z3) λ v8 vZ=>?_;subst v8;refine wi ?_ ?_<;>intro c5
     ·exact aK (bH (λ h=>h hn0) (bH (λ h=>h q1) (bH (by rw [c2]; decide) (bH (λ h=>h q3) (gQ c5)))))
     ·refine aL (YK z4) λ v9 QB=>?_;subst v9;refine aL (UW h2 (by rw [List.length_map]; exact z4)) λ v10 Ar=>?_;refine wi ?_ ?_<;>intro c6
      ·exact aK (bH (λ h=>h hn0) (bH (λ h=>h q1) (bH (by rw [c2]; decide) (bH (λ h=>h q3) (bH (by rw [c5]; decide) (gQ (λ h=>c6 (Ar.2 h))))))))
      ·have q5:=Ar.1 c6;have hown:=Hy q5.2;refine cu (λ (g2:Int)=>0≤g2∧(∀i:Nat,(i:Int)<g2→aoF b_ g_ (l_.getD (aj.getD i 0).toNat dh) (aj.getD i 0))) (λ (g2:Int)=>(aj.length - g2).toNat) ?_ ?_
       ·intro dR g2 Eu Aq;obtain ⟨yM,nG⟩:=Eu;unfold FC;refine wi ?_ ?_<;>intro c7
        ·have hmi:=(q1.1 g2.toNat om).1;have hnd:=getD_in (l:=l_) (i:=(aj.getD g2.toNat 0).toNat) dh om;have hno:=nok.2.2 _ hnd;have hns:=n4 _ hnd;obtain ⟨o1,o2,o3,o4,o5,o6,o7⟩:=id hno;refine bK (by first | omega | (unfold aJ; omega) | (intro h0; have:=of_decide_eq_true h0; omega) | (unfold big; omega)) ?_;refine bK (by first | omega | (unfold aJ; omega) | (intro h0; have:=of_decide_eq_true h0; omega) | (unfold big; omega)) ?_;refine aL (OP z4 om hown) λ v13 Yw=>?_;refine wi ?_ ?_<;>intro c8
         ·exact aK (bH (λ h=>h hn0) (bH (λ h=>h q1) (bH (by rw [c2]; decide) (bH (λ h=>h q3) (bH (by rw [c5]; decide) (bH (λ h=>h q5) (gQ (λ h=>Au Yw c8 (h g2.toNat om)))))))))
         ·refine bK (by first | omega | (unfold aJ; omega) | (intro h0; have:=of_decide_eq_true h0; omega) | (unfold big; omega)) ?_;refine Aq _ ?_ ?_
          ·(refine ⟨om,fO nG yM (Yw.1 c8)⟩)
          ·omega
        ·have q6:aqv b_ l_ aj g_:=λ i hi=>nG i om;refine aL (UR s6) λ v14 Qn=>?_;refine wi ?_ ?_<;>intro c9
         ·exact aK (bH (λ h=>h hn0) (bH (λ h=>h q1) (bH (by rw [c2]; decide) (bH (λ h=>h q3) (bH (by rw [c5]; decide) (bH (λ h=>h q5) (bH (λ h=>h q6) (gQ (λ h=>Au Qn c9 h.1)))))))))
         ·have q7a:=Qn.1 c9;refine cu (λ (g3:Int)=>0≤g3∧(∀i:Nat,(i:Int)<g3→aqr g_ (l_.getD (aj.getD i 0).toNat dh))) (λ (g3:Int)=>(aj.length - g3).toNat) ?_ ?_
          ·intro vk g3 ajX ajY;obtain ⟨af2,Dx⟩:=ajX;unfold FB;refine wi ?_ ?_<;>intro c10
           ·have hmi:=(q1.1 g3.toNat om).1;have hnd:=getD_in (l:=l_) (i:=(aj.getD g3.toNat 0).toNat) dh om;have hno:=nok.2.2 _ hnd;have hns:=n4 _ hnd;obtain ⟨o1,o2,o3,o4,o5,o6,o7⟩:=id hno;refine bK (by first | omega | (unfold aJ; omega) | (intro h0; have:=of_decide_eq_true h0; omega) | (unfold big; omega)) ?_;refine bK (by first | omega | (unfold aJ; omega) | (intro h0; have:=of_decide_eq_true h0; omega) | (unfold big; omega)) ?_;refine cu (λ (g6:Int)=>0≤g6∧(∀j:Nat,(j:Int)<g6→g_.Released.getD ((l_.getD (aj.getD g3.toNat 0).toNat dh).bf.getD j 0).toNat false=true)) (λ (g6:Int)=>((l_.getD (aj.getD g3.toNat 0).toNat dh).bf.length - g6).toNat) ?_ ?_
            ·intro jE g6 Xu UO;obtain ⟨Uh,Jk⟩:=Xu;unfold Fy;refine wi ?_ ?_<;>intro c11
             ·have hx:=o6 _ (getD_in (i:=g6.toNat) 0 om);refine bK (by first | omega | (unfold aJ; omega) | (intro h0; have:=of_decide_eq_true h0; omega) | (unfold big; omega)) ?_;refine bK (by first | omega | (unfold aJ; omega) | (intro h0; have:=of_decide_eq_true h0; omega) | (unfold big; omega)) ?_;refine wi ?_ ?_<;>intro c12
              ·exact aK (bH (λ h=>h hn0) (bH (λ h=>h q1) (bH (by rw [c2]; decide) (bH (λ h=>h q3) (bH (by rw [c5]; decide) (bH (λ h=>h q5) (bH (λ h=>h q6) (gQ (λ h=>by have:=h.2 g3.toNat om g6.toNat om; rw [this] at c12; cases c12)))))))))
              ·refine bK (by first | omega | (unfold aJ; omega) | (intro h0; have:=of_decide_eq_true h0; omega) | (unfold big; omega)) ?_;refine UO _ ?_ ?_
               ·(refine ⟨om,fO Jk Uh c12⟩)
               ·omega
             ·refine bK (by first | omega | (unfold aJ; omega) | (intro h0; have:=of_decide_eq_true h0; omega) | (unfold big; omega)) ?_;refine ajY _ ?_ ?_
              ·(refine ⟨om,fO Dx af2 (λ j hj=>Jk j om)⟩)
              ·omega
            ·(refine ⟨om,λ j hj=>by (try dsimp only at hj); omega⟩)
           ·have q7:aqw b_ l_ aj g_:=⟨q7a,λ i hi=>Dx i om⟩;refine aL (BO) λ v15 aaV=>?_;refine wi ?_ ?_<;>intro c13
            ·exact aK (bH (λ h=>h hn0) (bH (λ h=>h q1) (bH (by rw [c2]; decide) (bH (λ h=>h q3) (bH (by rw [c5]; decide) (bH (λ h=>h q5) (bH (λ h=>h q6) (bH (λ h=>h q7) (gQ (λ h=>Au aaV c13 h.1))))))))))
            ·have q8a:=aaV.1 c13;refine cu (λ (g7:Int)=>0≤g7∧(∀i:Nat,(i:Int)<g7→aqs g_ (l_.getD (aj.getD i 0).toNat dh))) (λ (g7:Int)=>(aj.length - g7).toNat) ?_ ?_
             ·intro ou g7 aeX adl;obtain ⟨adn,QL⟩:=aeX;unfold Fz;refine wi ?_ ?_<;>intro c14
              ·have hmi:=(q1.1 g7.toNat om).1;have hnd:=getD_in (l:=l_) (i:=(aj.getD g7.toNat 0).toNat) dh om;have hno:=nok.2.2 _ hnd;have hns:=n4 _ hnd;obtain ⟨o1,o2,o3,o4,o5,o6,o7⟩:=id hno;refine bK (by first | omega | (unfold aJ; omega) | (intro h0; have:=of_decide_eq_true h0; omega) | (unfold big; omega)) ?_;refine bK (by first | omega | (unfold aJ; omega) | (intro h0; have:=of_decide_eq_true h0; omega) | (unfold big; omega)) ?_;refine bK (by first | omega | (unfold aJ; omega) | (intro h0; have:=of_decide_eq_true h0; omega) | (unfold big; omega)) ?_;refine cO ?_ ?_<;>intro c15
               ·have aoG:=c15;have c15:=fA c15;exact aK (bH (λ h=>h hn0) (bH (λ h=>h q1) (bH (by rw [c2]; decide) (bH (λ h=>h q3) (bH (by rw [c5]; decide) (bH (λ h=>h q5) (bH (λ h=>h q6) (bH (λ h=>h q7) (gQ (λ h=>by have:=h.2 g7.toNat om c15.1; rw [this] at c15; cases c15.2))))))))))
               ·have aoG:=c15;have c15:=fA c15;refine bK (by first | omega | (unfold aJ; omega) | (intro h0; have:=of_decide_eq_true h0; omega) | (unfold big; omega)) ?_;refine adl _ ?_ ?_
                ·(refine ⟨om,fO QL adn (λ h0=>?_)⟩; simp only [Bool.and_eq_false_iff,decide_eq_false_iff_not,Bool.not_eq_false'] at aoG; exact aoG.resolve_left (λ q=>q h0))
                ·omega
              ·exact aK (bH (λ h=>h hn0) (bH (λ h=>h q1) (bH (by rw [c2]; decide) (bH (λ h=>h q3) (bH (by rw [c5]; decide) (bH (λ h=>h q5) (bH (λ h=>h q6) (bH (λ h=>h q7) (bH (λ h=>h ⟨q8a,λ i hi=>QL i om⟩) rfl)))))))))
             ·(refine ⟨om,λ j hj=>by (try dsimp only at hj); omega⟩)
          ·(refine ⟨om,λ j hj=>by (try dsimp only at hj); omega⟩)
       ·(refine ⟨om,λ j hj=>by (try dsimp only at hj); omega⟩)
   ·(refine ⟨om,by (dsimp only; omega),by (simp only [List.length_nil]; omega),rfl,λ i hi=>by (try dsimp only at hi); omega⟩)
end Go.Proofs.YtifekdmmpbcdgaaGreatDoor
namespace Go.Proofs.YtifekdmmpbcdgaaGreatDoor
open Go.Ab
set_option maxRecDepth 100000
theorem lu {p:Prop} {c:Int} {A:Int→Prop} (hc:c≠0) (h:Jm p c A 0):¬p∧A 0:=by
 rcases h with ⟨_,h⟩ | h
 ·exact absurd h.symm hc
 ·exact h
variable {b:aP} {l:List aO} {ms:List Int}
theorem al5 {g:aF} {bt:Bool} (h:aj2 b l ms g bt 0):LJ b.aQ 0∧Sm b.aQ (g.Uses.map au.iB):=by
 obtain ⟨_,h⟩:=lu (by decide) h;obtain ⟨_,h⟩:=lu (by decide) h;obtain ⟨_,h⟩:=lu (by decide) h;obtain ⟨_,h⟩:=lu (by decide) h;obtain ⟨_,h⟩:=lu (by decide) h;exact Classical.not_not.1 (lu (by decide) h).1
def M7 (ms:List Int) (us:List au):List au:=us.filter λ u=>ms.contains u.gU
variable {α:Type}
theorem FN (P:α→Bool) (l:List α) (d:α) {i:Nat} (h:i<l.length):(l.take (i+1)).filter P=(l.take i).filter P++(if P (l.getD i d) then [l.getD i d] else []):=by
 rw [List.take_add_one,List.filter_append,List.getElem?_eq_getElem h,List.getD_eq_getElem?_getD,List.getElem?_eq_getElem h];congr 1;simp only [Option.toList_some,Option.getD_some,List.filter_cons,List.filter_nil]
abbrev GA:=List Int×List Bool×List Int×List Bool×List Bool×Int×Int×List au
structure awT (r:GA):Prop where
 a:r.1.length≤16
 b:r.2.1.length≤16
 c:r.2.2.1.length≤16
 d:r.2.2.2.1.length≤32
 e:r.2.2.2.2.1.length≤16
structure awU (b:aP) (fns:List ByteArray) (dev:Int) (old:List au) (new:List au):Prop where
 pa:LJ b.aQ 0
 len:new.length=fns.length
 bd:fns.length≤10
 at_:∀i:Nat,i<new.length→(new.getD i bE).gU=dev∧0≤(new.getD i bE).iB.bM∧(new.getD i bE).iB.bM<b.aQ.aG.length∧(new.getD i bE).iB.dA=aqi (b.aQ.aG.getD (new.getD i bE).iB.bM.toNat aM) (fns.getD i ByteArray.empty)
 lst:fns.length=1→∀k∈atn b.aQ (fns.getD 0 ByteArray.empty) b.aQ.aG.length,k<(new.getD 0 bE).iB.bM→
  ∃u∈old,∃x,x∈(b.aQ.aG.getD u.iB.bM.toNat aM).dz∧x∈(b.aQ.aG.getD k.toNat aM).dz
theorem Sp.ZH {l:List aC} {d:List bU} (h:(Sp.tO l d).2=0):(Sp.tO l d).1.On.length=l.length∧(Sp.tO l d).1.bC.length=l.length:=by
 unfold Sp.tO at h ⊢;cases h1:Sp.zk l d != 0 with
 | true=>rw [h1] at h; simp at h1; exact absurd h h1
 | false=>
  rw [h1] at h;cases h2:decide (0≤(Sp.aa4 l d).2)||!Sp.iN l ⟨Sp.kV l d,(Sp.aa4 l d).1.lv⟩ d with
  | true=>rw [h2] at h; cases h
  | false=>
   simp only [Bool.or_eq_false_iff,Bool.not_eq_false'] at h2;have hm:=h2.2;unfold Sp.iN at hm;cases h3:!Sp.tN l ⟨Sp.kV l d,(Sp.aa4 l d).1.lv⟩||!Sp.rz l d with
   | true=>rw [h3] at hm; cases hm
   | false=>
    simp only [Bool.or_eq_false_iff,Bool.not_eq_false'] at h3;have:=(Sp.Sg.1 h3.1).2;exact ⟨this.On,this.len⟩
theorem amR (h:ag1 b):Sj b:=by
 obtain ⟨b1,b2,b3,b4,b5,b6,b7,b8,b9⟩:=h;exact ⟨om,λ i hi=>by have:=b2 _ (getD_in (i:=i) aV hi); omega,om,λ g hg=>by have:=b6 g hg; omega,om,λ g hg=>by have:=b8 g hg; omega,om⟩
variable {l_:List aO}
theorem Dz {aj:List Int} (h1:∀x∈l_,x.aI.length≤10) (h2:aj.length≤10000):W (oJ l_ aj) (λ _=>True):=by
 unfold oJ;refine cu (λ g1:Int×Int=>0≤g1.2∧0≤g1.1∧g1.1≤10*g1.2) (λ g1=>(aj.length - g1.2).toNat) ?_ ob;intro ah g1 ⟨a1,a2,a3⟩ ih1;unfold Bp;refine cO (λ c=>?_) (λ c=>aK trivial);have c:=fA c;refine wn<|cO ?_ ?_<;>intro c2
 ·have c2:=fA c2;have hx:=h1 _ (getD_in (i:=(aj.getD g1.2.toNat 0).toNat) dh om);refine wn<|bK (by unfold aJ; omega) ?_;refine bK (by unfold aJ; omega) ?_;exact ih1 _ ⟨by dsimp only; omega,by dsimp only; omega,by dsimp only; omega⟩ (by dsimp only; omega)
 ·refine bK (by unfold aJ; omega) ?_;exact ih1 _ ⟨by dsimp only; omega,by dsimp only; omega,by dsimp only; omega⟩ (by dsimp only; omega)
structure Ga2 (r:GA):Prop where
 a:r.1.length≤2000000
 b:r.2.1.length≤2000000
 c:r.2.2.1.length≤2000000
 d:r.2.2.2.1.length≤2000000
 e:r.2.2.2.2.1.length≤2000000
theorem xV (p e:Int):Ga2 ([],[],[],[],[],p,e,[]):=⟨by simp,by simp,by simp,by simp,by simp⟩
theorem Hz {l:List ay}:∀ {s t:List Int},VS l s→VS l t→gK l s=gK l t→s=t:=by
 induction l with
 | nil=>
  intro s t hs ht _;rw [List.length_eq_zero_iff.1 hs.1,List.length_eq_zero_iff.1 ht.1]
 | cons c l ih=>
  intro s t hs ht e;obtain ⟨x,s,rfl,x0,x1,hs⟩:=QG hs;obtain ⟨y,t,rfl,y0,y1,ht⟩:=QG ht;have p1:=tQ hs;have p2:=tQ ht;rw [gK,gK] at e;have hd:x.toNat=y.toNat:=by
   rcases Nat.lt_trichotomy x.toNat y.toNat with q | q | q
   ·have:(x.toNat+1)*gq l≤y.toNat*gq l:=Nat.mul_le_mul_right _ om;rw [Nat.add_mul,Nat.one_mul] at this;omega
   ·exact q
   ·have:(y.toNat+1)*gq l≤x.toNat*gq l:=Nat.mul_le_mul_right _ om;rw [Nat.add_mul,Nat.one_mul] at this;omega
  rw [hd] at e;rw [show x=y by omega,ih hs ht om]
def aqx (l:List ay) (m:List bg) (s:List Int):Prop:=VS l s∧iN l s m=true∧∀t,VS l t→iN l t m=true→gK l s≤gK l t
theorem any_take_succ (P:α→Bool) (l:List α) (d:α) {i:Nat} (h:i<l.length):(l.take (i+1)).any P=((l.take i).any P||P (l.getD i d)):=by
 rw [List.take_add_one,List.any_append,List.getElem?_eq_getElem h,List.getD_eq_getElem?_getD,List.getElem?_eq_getElem h];simp
def Low (C:List Bool→Prop) (ls:List Int) (s:List Bool):Prop:=∀t:List Bool,C t→(∀x∈ls,t.getD x.toNat false=true)→∀i:Nat,s.getD i false=true→t.getD i false=true
structure Lst (n:Nat) (C:List Bool→Prop) (ls:List Int) (s:List Bool):Prop where
 ln:s.length=n
 cl:C s
 mm:∀x∈ls,s.getD x.toNat false=true
 lo:Low C ls s
theorem af7 {C:List Bool→Prop} {ls:List Int} {n:Nat}:Low C ls (List.replicate n false):=λ t _ _ i h=>by rw [Sp.r9] at h; cases h
theorem HV {C:List Bool→Prop} {ls:List Int} {s:List Bool} {a:Nat} {b:Bool} (h:Low C ls s) (hb:b=true→∀t:List Bool,C t→(∀x∈ls,t.getD x.toNat false=true)→t.getD a false=true):Low C ls (s.set a b):=λ t h1 h2 i hi=>by
 by_cases e:i=a
 ·subst e;by_cases q:i<s.length
  ·rw [QI q] at hi; exact hb hi t h1 h2
  ·rw [List.set_eq_of_length_le om] at hi; exact h t h1 h2 i hi
 ·rw [xS e] at hi; exact h t h1 h2 i hi
def jn {α:Type} (f:aO→List α) (l:List aO) (ms:List Int):List α:=ms.flatMap λ m=>f (l.getD m.toNat dh)
theorem Av {f:aO→List α} {i:Nat} (h:i<ms.length):jn f l (ms.take (i+1))=jn f l (ms.take i)++f (l.getD (ms.getD i 0).toNat dh):=by
 unfold jn;rw [jU 0 h,List.flatMap_append,List.flatMap_cons,List.flatMap_nil,List.append_nil]
theorem OQ {f:aO→List α} {c:Nat}:∀ {ms:List Int},(∀m∈ms,(f (l.getD m.toNat dh)).length≤c)→(jn f l ms).length≤c*ms.length:=by
 intro ms;induction ms with
 | nil=>intro _; exact Nat.zero_le _
 | cons m ms ih=>
  intro h;have h1:=h m List.mem_cons_self;have h2:=ih λ x hx=>h x (List.mem_cons_of_mem _ hx);unfold jn at h2 ⊢;rw [List.flatMap_cons,List.length_append,List.length_cons,Nat.mul_succ];omega
def usF (n:aO):List Int:=bif decide (n.gB<0) then [] else [n.gB]
theorem af8 (n:aO):(usF n).length≤1:=by
 unfold usF;cases decide (n.gB<0)<;>simp
structure AgA (b:aP) (l:List aO) (ms:List Int) (us:List au) (x:aF):Prop where
 st:aqx b.bT (jn aO.eF l ms) x.Setting
 ra:Sp.tO b.bD (jn aO.gJ l ms)=(x.aY,0)
 us:x.Uses=M7 ms us
 re:Lst b.bf.length (ahr b.bf) (jn aO.bf l ms) x.Released
 po:Lst b.bO.length (ajV b.bO) (jn usF l ms) x.bq
structure awV (b:aP) (l:List aO) (ms:List Int):Prop where
 df:QK l ms
 ml:ms.length≤6
 ft:∃t,VS b.bT t∧iN b.bT t (jn aO.eF l ms)=true
 le:(Sp.tO b.bD (jn aO.gJ l ms)).2=0
 fc:(jn aO.aI l ms).length≤10
theorem abg (h:QK l ms):∀m∈ms,0≤m∧m<l.length:=mQ 0 λ j hj=>(h j om).1
theorem OT (h:QK l ms) {m:Int} (hm:m∈ms):l.getD m.toNat dh∈l:=getD_in dh (by have:=abg h m hm; omega)
theorem af9 (h:BP b l 0):LJ b.aQ 0∧RsA b.bf 0∧DmA b.bO 0:=by
 obtain ⟨h1,_⟩:=LK h;obtain ⟨_,h3⟩:=LK h1;obtain ⟨_,h4⟩:=LK h3;obtain ⟨b3,h5⟩:=LK h4;exact ⟨b3,LK h5⟩
variable {b_:aP}
theorem LM {aj:List Int} {g_:aF} {cZ:Int} (h1:Sj b_) (h2:GSz b_.aQ) (h3:Xp l_) (h4:aj.length≤10000) (h5:uK g_):W (vJ b_ l_ aj g_ cZ) (λ r=>r=0→BP b_ l_ 0∧(LJ b_.aQ 0∧Sm b_.aQ (g_.Uses.map au.iB))∧0≤cZ∧cZ<l_.length):=by
 unfold vJ;refine aL (sF h1 h2 h3) λ v1 hv1=>?_;refine cO ?_ ?_<;>intro c1
 ·have c1:=fA c1;exact aK λ e=>absurd e c1
 have c1:=fA c1;rw [c1] at hv1;have hl:=(Dy hv1).2.1;refine aL (mR om om) λ v2 _=>?_;refine cO (λ c2=>aK nofun) (λ c2=>?_);refine aL (P:=λ v=>v=true→LJ b_.aQ 0∧Sm b_.aQ (g_.Uses.map au.iB)) ?_ λ v3 hv3=>?_
 ·unfold nE;refine aL (zm h1 h2 h3 h4 h5) λ v hv=>aK λ e=>?_;have e:v=0:=by simpa using e
  rw [e] at hv;exact al5 hv
 refine cO (λ c3=>aK nofun) (λ c3=>?_);have c3:=fA c3;refine cO (λ c4=>aK nofun) (λ c4=>?_);have c4:=fA c4;exact aK λ _=>⟨hv1,hv3 c3,c4.1,c4.2⟩
theorem FP {f:aO→List α} {k:Nat} (hf:∀x∈l,(f x).length≤2000000) (hin:∀m∈ms,0≤m∧m<l.length) (hm:ms.length≤10000) (hk:k≤64):W (bY (λ (self:Int×List α→M (List α)) g1=>
 bif (decide (g1.1<(ms.length:Int))) then
  need (0≤g1.1∧g1.1<(ms.length:Int))<|
  bif ((decide ((0:Int)≤(ms.getD g1.1.toNat 0)))&&(decide ((ms.getD g1.1.toNat 0)<(l.length:Int)))) then
   need (0≤(ms.getD g1.1.toNat 0)∧(ms.getD g1.1.toNat 0)<(l.length:Int))<|
   need ((g1.2.length+(f (l.getD ((ms.getD g1.1.toNat 0).toNat) dh)).length)*k≤big)<|
   need (aJ (g1.1+(1:Int)))<|
   self ((g1.1+(1:Int)),(g1.2++f (l.getD ((ms.getD g1.1.toNat 0).toNat) dh)))
  else
   need (aJ (g1.1+(1:Int)))<|
   self ((g1.1+(1:Int)),g1.2)
 else
  ret g1.2) ((0:Int),([]:List α))) (λ r=>r=jn f l ms):=by
 refine cu (λ g1:Int×List α=>0≤g1.1∧g1.1≤ms.length∧g1.2=jn f l (ms.take g1.1.toNat)) (λ g1=>(ms.length - g1.1).toNat) ?_ ⟨ob,ob,rfl⟩;intro self g1 ⟨h1,h2,h3⟩ ih;refine wi ?_ ?_<;>intro c
 ·have hx:=hin _ (getD_in (i:=g1.1.toNat) 0 om);have hl:=OQ (f:=f) (l:=l) (c:=2000000) (ms:=ms.take g1.1.toNat) λ m q=>hf _ (getD_in dh (by have:=hin m (List.mem_of_mem_take q); omega));rw [← h3,List.length_take] at hl;have hv2:=hf _ (getD_in (i:=(ms.getD g1.1.toNat 0).toNat) dh om);have hb:(g1.2.length+(f (l.getD ((ms.getD g1.1.toNat 0).toNat) dh)).length)*k≤(g1.2.length+(f (l.getD ((ms.getD g1.1.toNat 0).toNat) dh)).length)*64:=Nat.mul_le_mul_left _ hk;refine wn<|cO (λ c2=>?_) (λ c2=>by rw [decide_eq_true hx.1,decide_eq_true hx.2] at c2; cases c2);refine bK hx ?_;refine bK (by unfold big; omega) ?_;refine wn ?_;exact ih _ ⟨ob,ob,by dsimp only; rw [show (g1.1+1).toNat=g1.1.toNat+1 by omega,Av om,h3]⟩ ob
 ·exact aK (by rw [h3,List.take_of_length_le om])
theorem yO {l_:List Int} {x_:Int} (h:l_.length≤2000000):W (yI l_ x_) (λ r=>r=l_.contains x_):=by
 unfold yI;refine cu (λ g1:Int=>0≤g1∧∀j:Nat,(j:Int)<g1→l_.getD j 0≠x_) (λ g1=>(l_.length - g1).toNat) ?_ ⟨ob,λ j hj=>by omega⟩;intro ah g1 ⟨a1,a2⟩ ih1;unfold TV;refine wi ?_ ?_<;>intro c
 ·refine wn<|wi ?_ ?_<;>intro c2
  ·refine aK (List.contains_iff_mem.2 ?_).symm;rw [← c2]; exact getD_in 0 om
  ·exact bK ob (ih1 _ ⟨om,fO a2 a1 c2⟩ om)
 ·refine aK ?_;cases q:l_.contains x_ with
  | false=>rfl
  | true=>
   have:∀y∈l_,y≠x_:=mQ 0 λ j hj=>a2 j om;exact absurd rfl (this _ (List.contains_iff_mem.1 q))
def FL (b:aP) (l:List aO) (ms:List Int):Prop:=(∃t,VS b.bT t∧iN b.bT t (jn aO.eF l ms)=true)∧(Sp.tO b.bD (jn aO.gJ l ms)).2=0
variable {M_:List Int}
theorem abh {l_:List au} (h1:l_.length≤2000000) (h2:M_.length≤10000):W (MI l_ M_) (λ r=>r=M7 M_ l_):=by
 unfold MI;refine cu (λ g1:Int×List au=>0≤g1.1∧g1.1≤l_.length∧g1.2=M7 M_ (l_.take g1.1.toNat)) (λ g1=>(l_.length - g1.1).toNat) ?_ ⟨ob,ob,rfl⟩;intro ah g1 ⟨a1,a2,a3⟩ ih1;have hl:g1.2.length≤g1.1.toNat:=by
  rw [a3]; unfold M7;exact Nat.le_trans (List.length_filter_le _ _) (by rw [List.length_take]; omega)
 unfold Qj;refine wi ?_ ?_<;>intro c
 ·have hs:=FN (λ u:au=>M_.contains u.gU) l_ bE (i:=g1.1.toNat) om;have e:(g1.1+1).toNat=g1.1.toNat+1:=by omega
  refine wn<|aL (yO om) λ v8 vZ=>?_;refine cO ?_ ?_<;>intro c2
  ·rw [c2] at vZ;refine bK (by unfold big; omega) ?_;refine wn<|ih1 _ ⟨ob,ob,?_⟩ ob;dsimp only;unfold M7 at a3 ⊢;rw [e,hs,← a3,if_pos vZ.symm]
  ·rw [c2] at vZ;refine wn<|ih1 _ ⟨ob,ob,?_⟩ ob;dsimp only;unfold M7 at a3 ⊢;rw [e,hs,← a3,if_neg (by rw [← vZ]; exact Bool.false_ne_true),List.append_nil]
 ·exact aK (by rw [a3,List.take_of_length_le om])
theorem Jo {l_:List au} (h1:l_.length≤2000000) (h2:M_.length≤10000):W (vK l_ M_) (λ r=>r=M7 M_ l_):=by
 unfold vK;refine cu (λ g1:Int×List au=>0≤g1.1∧g1.1≤l_.length∧g1.2=M7 M_ (l_.take g1.1.toNat)) (λ g1=>(l_.length - g1.1).toNat) ?_ ⟨ob,ob,rfl⟩;intro ah g1 ⟨a1,a2,a3⟩ ih1;have hl:g1.2.length≤g1.1.toNat:=by
  rw [a3]; unfold M7;exact Nat.le_trans (List.length_filter_le _ _) (by rw [List.length_take]; omega)
 unfold I8;refine wi ?_ ?_<;>intro c
 ·have hs:=FN (λ u:au=>M_.contains u.gU) l_ bE (i:=g1.1.toNat) om;have e:(g1.1+1).toNat=g1.1.toNat+1:=by omega
  refine wn<|aL (yO om) λ v8 vZ=>?_;refine cO ?_ ?_<;>intro c2
  ·rw [c2] at vZ;refine bK (by unfold big; omega) ?_;refine wn<|ih1 _ ⟨ob,ob,?_⟩ ob;dsimp only;unfold M7 at a3 ⊢;rw [e,hs,← a3,if_pos vZ.symm]
  ·rw [c2] at vZ;refine wn<|ih1 _ ⟨ob,ob,?_⟩ ob;dsimp only;unfold M7 at a3 ⊢;rw [e,hs,← a3,if_neg (by rw [← vZ]; exact Bool.false_ne_true),List.append_nil]
 ·exact aK (by rw [a3,List.take_of_length_le om])
theorem Oh {l_:List ay} {s_:List Int} (h1:l_.length≤1000) (h2:VS l_ s_) (h3:∀i,i<l_.length→(l_.getD i aV).aR.length≤2000000):W (GY l_ s_) (λ r=>(r.2=true→VS l_ r.1∧gK l_ r.1=gK l_ s_+1)∧(r.2=false→gK l_ s_+1=gq l_)):=by
 obtain ⟨hsl,hsv⟩:=id h2;unfold GY;refine wm<|cu (λ (g1:Int×List Int) => -1≤g1.1∧g1.1<l_.length∧g1.2.length=l_.length∧(∀j:Nat,(j:Int)≤g1.1→g1.2.getD j 0=s_.getD j 0)∧(∀j:Nat,g1.1<(j:Int)→j<l_.length→g1.2.getD j 0=0∧s_.getD j 0+1=(l_.getD j aV).aR.length)) (λ (g1:Int×List Int)=>(g1.1+1).toNat) ?_ ?_
 ·intro ah g1 fZ dS;obtain ⟨fI,eG,dI,jF,zN⟩:=fZ;unfold NJ;refine wi ?_ ?_<;>intro c1
  ·have hv:=hsv g1.1.toNat om;have hc:=h3 g1.1.toNat om;have he:=jF g1.1.toNat om;have hgs:(g1.2.set g1.1.toNat (g1.2.getD g1.1.toNat 0+1)).getD g1.1.toNat 0=s_.getD g1.1.toNat 0+1:=(by rw [Sp.iO,if_pos ⟨rfl,om⟩,he]);have hgo:∀j,j≠g1.1.toNat→(g1.2.set g1.1.toNat (g1.2.getD g1.1.toNat 0+1)).getD j 0=g1.2.getD j 0:=λ j hj=>(by rw [Sp.iO,if_neg (λ e=>hj e.1)])
   refine wm<|wn ?_;unfold Eo;refine wm<|wi ?_ ?_<;>intro c2
   ·rw [hgs] at c2;exact aK (⟨λ _=>alS h2 (k:=g1.1.toNat) om (by simpa using dI) (λ j hj=>by rw [hgo j om]; exact jF j om) hgs (λ j h1 h2=>by rw [hgo j om]; exact zN j om h2) c2,nofun⟩)
   ·rw [hgs] at c2;refine wm<|dS _ ?_ ?_
    ·(refine ⟨ob,ob,by simpa using dI,λ j hj=>?_,λ j h1 h2=>?_⟩; (dsimp only at hj ⊢; rw [Sp.iO,if_neg om,hgo j om]; exact jF j om); (dsimp only at h1 ⊢; rw [Sp.iO]; by_cases q:j=g1.1.toNat; (rw [if_pos ⟨q,by rw [List.length_set]; omega⟩,q]; omega); (rw [if_neg (λ e=>q e.1),hgo j q]; exact zN j om h2)))
    ·exact ob
  ·exact aK (⟨nofun,λ _=>afZ h2 λ j hj=>(zN j om hj).2⟩)
 ·(refine ⟨ob,ob,by simpa using hsl,λ j _=>rfl,λ j h1 h2=>by dsimp only at h1; omega⟩)
structure FsA (l:List ay) (m:List bg) (P:List Int→Prop) (o:List (List Int)):Prop where
 no:o=[]→∀t,VS l t→P t→Dw l t m=false
 hd:o≠[]→VS l (o.getD 0 [])∧Dw l (o.getD 0 []) m=true∧∀t,VS l t→Dw l t m=true→gK l (o.getD 0 [])≤gK l t
theorem abj {l_:List ay} {m_:List bg} (h1:fq l_=0) (h2:m_.length≤2000000) (h3:∀x∈m_,0≤x.fJ∧x.fJ<l_.length):W (MG l_ m_) (FsA l_ m_ λ _=>True):=by
 have hf:=Am h1;have hsz:=size_le hf;have hlen:=hf.len;have hcb:∀i,i<l_.length→(l_.getD i aV).aR.length≤2000000:=λ i hi=>by have:=hf.big i hi; omega
 unfold MG;refine wn<|cu (λ (g1:(List Int×Bool×(List (List Int))))=>(g1.2.1=true→VS l_ g1.1∧g1.2.2.length≤gK l_ g1.1)∧FsA l_ m_ (λ t=>g1.2.1=true→gK l_ t<gK l_ g1.1) g1.2.2) (λ (g1:(List Int×Bool×(List (List Int))))=>bif g1.2.1 then gq l_ - gK l_ g1.1+1 else 0) ?_ ?_
 ·intro ah g1 ⟨fI,ha⟩ dS;unfold Qg;refine cO ?_ ?_<;>intro c1
  ·obtain ⟨hvs,hln⟩:=fI c1;have hset:=Hu hvs;have hpl:=tQ hvs;unfold GZ;refine aL (abd (VE hf hset) (afU hf hset) h2 h3) λ v9 QB=>?_;subst v9;refine cO ?_ ?_<;>intro c2
   ·refine wn ?_;unfold vH;refine aL (Oh om hvs hcb) λ v8 ⟨vZ,_⟩=>?_;refine dS _ ⟨λ e=>⟨(vZ e).1,by have:=(vZ e).2; simp only [List.length_append,List.length_singleton]; omega⟩,⟨λ e=>absurd e (by simp),λ _=>?_⟩⟩ ?_
    ·dsimp only;cases ho:g1.2.2 with
     | nil=>exact ⟨hvs,c2,λ t ht hft=>Nat.le_of_not_lt λ q=>by rw [ha.no ho t ht λ _=>q] at hft; cases hft⟩
     | cons a o=>have:=ha.hd (by rw [ho]; simp); rw [ho] at this; exact this
    ·(dsimp only; rw [c1]; cases e:v8.2 with | true=>(have:=(vZ e).2; have:=tQ (vZ e).1; simp only [cond_true]; omega) | false=>(simp only [cond_true,cond_false]; omega))
   ·unfold vH;refine aL (Oh om hvs hcb) λ v8 ⟨vZ,QB⟩=>?_;refine dS _ ⟨λ e=>⟨(vZ e).1,by have:=(vZ e).2; dsimp only; omega⟩,⟨λ e t ht hp=>?_,ha.hd⟩⟩ ?_
    ·dsimp only at hp e;have hpt:=tQ ht;by_cases q:gK l_ t<gK l_ g1.1
     ·exact ha.no e t ht λ _=>q
     ·have:gK l_ t=gK l_ g1.1:=by
       cases e8:v8.2 with
       | true=>have:=hp e8; have:=(vZ e8).2; omega
       | false=>have:=QB e8; omega
      rw [Hz ht hvs this]; exact c2
    ·(dsimp only; rw [c1]; cases e:v8.2 with | true=>(have:=(vZ e).2; have:=tQ (vZ e).1; simp only [cond_true]; omega) | false=>(simp only [cond_true,cond_false]; omega))
  ·exact aK ⟨λ e t ht _=>ha.no e t ht λ q=>(by rw [c1] at q; cases q),ha.hd⟩
 ·exact ⟨λ _=>⟨alT hf,Nat.zero_le _⟩,⟨λ _ t _ q=>by have q:=q rfl; dsimp only at q; rw [adj (s:=List.replicate _ 0) λ j _=>Sp.r9 _ _ _] at q; omega,λ e=>absurd rfl e⟩⟩
theorem LP {l_:List ay} {m_:List bg} (h1:l_.length≤2000000) (h2:m_.length≤2000000):W (yF l_ m_) (λ r=>r.2=0→aqx l_ m_ r.1∧lJ l_ m_=true):=by
 unfold yF;refine aL (YF ob ob) λ v1 hv1=>?_;subst v1;refine cO (λ c1=>aK λ e=>?_) (λ c1=>?_)
 ·have c1:=fA c1; exact absurd e c1
 obtain ⟨b1,b2⟩:=ahp c1;refine aL (abj b1 h2 (alU b2)) λ v2 hv2=>?_;refine cO (λ c2=>aK nofun) (λ c2=>?_);have c2:=fA c2;refine wn<|aK λ _=>⟨?_,b2⟩;obtain ⟨q1,q2,q3⟩:=hv2.hd (λ e=>by rw [e] at c2; simp at c2);exact ⟨q1,by rw [BQ b2 (Hu q1)]; exact q2,λ t ht hm=>q3 t ht (by rw [← BQ b2 (Hu ht)]; exact hm)⟩
theorem Jp {l_:List eu} {jy:List Int} (h1:∀g∈l_,g.fV.length≤2000000) (h2:jy.length≤100000000000) (h0:RsA l_ 0) (h4:∀x∈jy,0≤x∧x<l_.length):W (vI l_ jy) (λ r=>r.2=0∧Lst l_.length (ahr l_) jy r.1):=by
 unfold vI;refine aL (BN h1) λ v1 hv1=>?_;have e1:=RsA.fun _ _ hv1 h0;subst e1;refine cO (λ c1=>by cases c1) (λ c1=>?_)
 ·obtain ⟨p1,p2⟩:=h0.ok;refine wn<|cu (λ (g1:Int×List Bool)=>0≤g1.1∧g1.2.length=l_.length∧(∀j:Nat,(j:Int)<g1.1→g1.2.getD (jy.getD j 0).toNat false=true)∧Low (ahr l_) jy g1.2) (λ (g1:Int×List Bool)=>(jy.length - g1.1).toNat) ?_ ?_
  ·intro ah g1 fZ dS;obtain ⟨fI,eG,dI,jF⟩:=fZ;unfold IL;refine wi ?_ ?_<;>intro c2
   ·refine wn ?_;have hm:=getD_in (l:=jy) (i:=g1.1.toNat) 0 om;have hx:=h4 _ hm;refine wn<|cO (λ c3=>by have c3:=fA c3; omega) (λ c3=>?_)
    ·have c3:=fA c3;refine wm<|wn ?_;refine dS _ ?_ ?_
     ·(refine ⟨ob,ob,λ j hj=>Hw ?_ om,HV jF λ _ t _ ht=>ht _ hm⟩; by_cases q:(j:Int)<g1.1; (exact .inl (dI j q)); (have e:j=g1.1.toNat:=by (try dsimp only at hj); omega); subst e; exact .inr rfl)
     ·exact ob
   ·refine wn<|cu (λ (g2:Int×List Bool) => -1≤g2.1∧g2.1<l_.length∧g2.2.length=l_.length∧(∀j:Nat,(j:Int)<jy.length→g2.2.getD (jy.getD j 0).toNat false=true)∧(∀i:Nat,g2.1<(i:Int)→(i:Int)<l_.length→g2.2.getD i false=true→∀x∈(l_.getD i eU).fV,g2.2.getD x.toNat false=true)∧Low (ahr l_) jy g2.2) (λ (g2:Int×List Bool)=>(g2.1+1).toNat) ?_ ?_
    ·intro dR g2 Eu Aq;obtain ⟨yM,nG,mo,Jl,XH,Oi⟩:=Eu;unfold Fu;refine wi ?_ ?_<;>intro c4
     ·have hgl:=h1 _ (getD_in (i:=g2.1.toNat) eU om);refine cu (λ (g5:Int×List Bool)=>0≤g5.1∧g5.2.length=l_.length∧(∀j:Nat,(j:Int)<jy.length→g5.2.getD (jy.getD j 0).toNat false=true)∧(∀i:Nat,g2.1<(i:Int)→(i:Int)<l_.length→g5.2.getD i false=true→∀x∈(l_.getD i eU).fV,g5.2.getD x.toNat false=true)∧(∀k:Nat,(k:Int)<g5.1→g5.2.getD (((l_.getD g2.1.toNat eU).fV).getD k 0).toNat false=true)∧Low (ahr l_) jy g5.2) (λ (g5:Int×List Bool)=>((l_.getD g2.1.toNat eU).fV.length - g5.1).toNat) ?_ ?_
      ·intro jP g5 aa7 aa8;obtain ⟨Xr,Ob,Oc,amS,amT,aj5⟩:=aa7;unfold Fq;refine wm<|cO ?_ ?_<;>intro c5
       ·have FM:=c5;have c5:=fA c5;simp only [Bool.and_eq_true,decide_eq_true_eq] at FM;have hxm:=getD_in (l:=(l_.getD g2.1.toNat eU).fV) (i:=g5.1.toNat) 0 om;have hx:=p2 g2.1.toNat om _ hxm;refine wm<|wm ?_;refine aa8 _ ?_ ?_
        ·(refine ⟨ob,ob,λ j hj=>Hw (.inl (Oc j hj)) om,λ i h3 h4 h5 x hx2=>?_,λ k hk=>Hw ?_ om,HV aj5 λ _ t h1 h2=>h1 g2.1.toNat om (aj5 t h1 h2 _ FM.2) _ hxm⟩; (rw [xS om] at h5; exact Hw (.inl (amS i h3 h4 h5 x hx2)) om); by_cases q:(k:Int)<g5.1; (exact .inl (amT k q)); (have e:k=g5.1.toNat:=by (try dsimp only at hk); omega); subst e; exact .inr rfl)
        ·exact ob
       ·have FM:=c5;have c5:=fA c5;refine wn<|Aq _ ?_ ?_
        ·(refine ⟨ob,ob,Ob,Oc,λ i h3 h4 h5=>?_,aj5⟩; by_cases q:g2.1<(i:Int); (exact amS i q h4 h5); (have e:i=g2.1.toNat:=by (try dsimp only at h3); omega); subst e; refine mQ 0 λ k hk=>amT k ?_; rw [h5,Bool.and_true] at FM; have:=of_decide_eq_false FM; omega)
        ·exact ob
      ·(refine ⟨ob,mo,Jl,XH,λ k hk=>by (try dsimp only at hk); omega,Oi⟩)
     ·exact aK (⟨rfl,mo,λ i hi=>XH i om hi,mQ 0 λ j hj=>Jl j om,Oi⟩)
    ·(refine ⟨ob,ob,eG,λ j hj=>dI j om,λ i h1 h2=>by (try dsimp only at h1); omega,jF⟩)
  ·(refine ⟨ob,by simp,λ j hj=>by (try dsimp only at hj); omega,af7⟩)
theorem abk {l_:List dG} {gX:List Int} (h1:DmA l_ 0) (h3:gX.length≤100000000000) (h4:∀x∈gX,0≤x∧x<l_.length):W (MH l_ gX) (λ r=>r=0):=by
 unfold MH;refine aL vR λ v1 hv1=>?_;have e1:=DmA.fun _ _ hv1 h1;subst e1;refine cO (λ c1=>by cases c1) (λ _=>?_);refine cu (λ g1:Int=>0≤g1) (λ g1=>(gX.length - g1).toNat) ?_ (Int.le_refl _);intro ah g1 a1 ih1;unfold Qh;refine cO (λ c=>?_) (λ c=>aK rfl);have c:=fA c;have hx:=h4 _ (getD_in (i:=g1.toNat) 0 om);refine wm<|cO (λ c2=>by have c2:=fA c2; omega) (λ c2=>?_);refine wn ?_;exact ih1 _ om om
theorem Uj {l_:List dG} {gX:List Int} (h1:gX.length≤2000000) (h0:DmA l_ 0) (h4:∀x∈gX,0≤x∧x<l_.length):W (KZ l_ gX) (λ r=>r.2=0∧Lst l_.length (ajV l_) gX r.1):=by
 unfold KZ;refine aL (abk h0 om h4) λ v1 hv1=>?_;subst hv1;refine cO (λ c1=>by cases c1) (λ c1=>?_)
 ·obtain ⟨p1,p2⟩:=h0.ok;have p3:=h4;refine wn<|cu (λ (g1:Int×List Bool)=>0≤g1.1∧g1.2.length=l_.length∧(∀j:Nat,(j:Int)<g1.1→g1.2.getD (gX.getD j 0).toNat false=true)∧Low (ajV l_) gX g1.2) (λ (g1:Int×List Bool)=>(gX.length - g1.1).toNat) ?_ ?_
  ·intro ah g1 fZ dS;obtain ⟨fI,eG,dI,jF⟩:=fZ;unfold TU;refine wi ?_ ?_<;>intro c2
   ·have hm:=getD_in (l:=gX) (i:=g1.1.toNat) 0 om;have hx:=p3 _ hm;refine wm<|wn ?_;refine dS _ ?_ ?_
    ·(refine ⟨ob,ob,λ j hj=>Hw ?_ om,HV jF λ _ t _ ht=>ht _ hm⟩; by_cases q:(j:Int)<g1.1; (exact .inl (dI j q)); (have e:j=g1.1.toNat:=by (try dsimp only at hj); omega); subst e; exact .inr rfl)
    ·exact ob
   ·refine wn<|cu (λ (g2:Int×List Bool) => -1≤g2.1∧g2.1<l_.length∧g2.2.length=l_.length∧(∀j:Nat,(j:Int)<gX.length→g2.2.getD (gX.getD j 0).toNat false=true)∧(∀i:Nat,g2.1<(i:Int)→(i:Int)<l_.length→RgK l_ g2.2 i)∧Low (ajV l_) gX g2.2) (λ (g2:Int×List Bool)=>(g2.1+1).toNat) ?_ ?_
    ·intro dR g2 Eu Aq;obtain ⟨yM,nG,mo,Jl,XH,Oi⟩:=Eu;unfold Qi;refine wi ?_ ?_<;>intro c3
     ·have hp:=p2 g2.1.toNat om;refine wm<|wn ?_;unfold G5;refine wm<|cO ?_ ?_<;>intro c4
      ·have wL:=c4;have c4:=fA c4;refine wm<|wn ?_;refine Aq _ ?_ ?_
       ·(have q:=Bool.and_eq_true_iff.1 wL; have q2:=of_decide_eq_true q.2; refine ⟨ob,ob,ob,λ j hj=>Hw (.inl (QJ om (Jl j hj))) (by rw [List.length_set]; omega),λ k h3 h4=>aql om mo om XH (by (try dsimp only at h3); omega) h4,HV (HV Oi λ hb t h1 h2=>(Bool.or_eq_true_iff.1 hb).elim (λ q=>Oi t h1 h2 _ q) (λ q=>h1.al _ om q)) λ _ t h1 h2=>h1.pa g2.1.toNat om ((HV Oi λ hb t h1 h2=>(Bool.or_eq_true_iff.1 hb).elim (λ q=>Oi t h1 h2 _ q) (λ q=>h1.al _ om q)) t h1 h2 _ q.1) q2⟩)
       ·exact ob
      ·have wL:=c4;have c4:=fA c4;refine wn<|Aq _ ?_ ?_
       ·(refine ⟨ob,ob,ob,λ j hj=>QJ om (Jl j hj),λ k h3 h4=>aqk om mo XH (λ hq=>by rw [hq.1,decide_eq_true hq.2] at wL; cases wL) (by (try dsimp only at h3); omega) h4,HV Oi λ hb t h1 h2=>(Bool.or_eq_true_iff.1 hb).elim (λ q=>Oi t h1 h2 _ q) (λ q=>h1.al _ om q)⟩)
       ·exact ob
     ·exact aK (⟨rfl,mo,⟨λ i hi=>(XH i om hi).1,λ i hi=>(XH i om hi).2⟩,mQ 0 λ j hj=>Jl j om,Oi⟩)
    ·(refine ⟨ob,ob,eG,λ j hj=>dI j om,λ i h1 h2=>by (try dsimp only at h1); omega,jF⟩)
  ·(refine ⟨ob,by simp,λ j hj=>by (try dsimp only at hj); omega,af7⟩)
theorem amU (hn:BP b l 0) (hd:QK l ms):∀x∈jn aO.bf l ms,0≤x∧x<b.bf.length:=λ x hx=>by
 obtain ⟨m,hm,hx⟩:=List.mem_flatMap.1 hx;exact ((Dy hn).2.2 _ (OT hd hm)).rs x hx
theorem amV (hn:BP b l 0) (hd:QK l ms):∀x∈jn usF l ms,0≤x∧x<b.bO.length:=λ x hx=>by
 obtain ⟨m,hm,hx⟩:=List.mem_flatMap.1 hx;have hdm:=((Dy hn).2.2 _ (OT hd hm)).dm;unfold usF at hx;cases q:decide ((l.getD m.toNat dh).gB<0) with
 | true=>rw [q] at hx; cases hx
 | false=>
  rw [q] at hx;have:=of_decide_eq_false q;have hx:=List.mem_singleton.1 hx;omega
theorem LQ {g_:aF} (h1:Sj b_) (h2:GSz b_.aQ) (h3:Xp l_) (h4:M_.length≤10000) (h5:g_.Uses.length≤2000000):W (yJ b_ l_ M_ g_) (λ r=>Ga2 r∧r.2.2.2.2.2.2.2.length≤g_.Uses.length∧(r.2.2.2.2.2.2.1=0→BP b_ l_ 0∧QK l_ M_∧AgA b_ l_ M_ g_.Uses ⟨r.1,⟨r.2.1,r.2.2.1⟩,r.2.2.2.2.2.2.2,r.2.2.2.1,r.2.2.2.2.1⟩)):=by
 obtain ⟨z1,z2,z3,z4,z5,z6,z7⟩:=id h1;unfold yJ;refine aL (sF h1 h2 h3) λ v1 hv1=>?_;refine cO (λ c1=>aK ⟨xV _ _,by simp,λ e=>by have c1:=fA c1; exact absurd e c1⟩) (λ c1=>?_);have c1:=fA c1;rw [c1] at hv1;obtain ⟨hb,hl12,hnd⟩:=Dy hv1;refine aL (mR om om) λ v2 hv2=>?_;refine cO (λ c2=>aK ⟨xV _ _,by simp,nofun⟩) (λ c2=>?_);have c2:=fA c2;have hdf:=hv2.1 c2;have hin:=abg hdf;obtain ⟨_,hra,hda⟩:=af9 hv1;refine aL (FP (k:=24) (f:=aO.eF) (λ x hx=>by have:=(hnd x hx).ll; omega) hin h4 om) λ v3 hv3=>?_;refine aL (FP (k:=32) (f:=aO.gJ) (λ x hx=>by have:=(hnd x hx).dl; omega) hin h4 om) λ v4 hv4=>?_;refine aL (pq (P:=λ _=>True) λ _=>Dz (λ x hx=>(hnd x hx).fl) h4) λ v5 _=>?_;refine cO (λ c3=>aK ⟨xV _ _,by simp,nofun⟩) (λ c3=>?_);simp only [Bool.or_eq_false_iff] at c3;obtain ⟨⟨c3,c3'⟩,_⟩:=c3;have c3:=fA c3; have c3:=fA c3';refine aL (LP z1 om) λ v6 hv6=>?_;refine cO (λ c4=>aK ⟨xV _ _,by simp,nofun⟩) (λ c4=>?_);have c4:=fA c4;obtain ⟨hst,hlb⟩:=hv6 c4;have hsl:=hst.1.1;refine aL (Sp.Oe z3 om) λ v7 hv7=>?_;refine cO (λ c5=>aK ⟨xV _ _,by simp,nofun⟩) (λ c5=>?_);have c5:=fA c5;rw [hv7] at c5;have hle:=Sp.ZH c5;rw [← hv7] at hle;refine cu (λ g1:Int×List Int×List Int=>0≤g1.1∧g1.1≤M_.length∧g1.2.1=jn aO.bf l_ (M_.take g1.1.toNat)∧g1.2.2=jn usF l_ (M_.take g1.1.toNat)) (λ g1=>(M_.length - g1.1).toNat) ?_ ⟨ob,ob,rfl,rfl⟩;intro ah g1 ⟨a1,a2,a3,a4⟩ ih1;have l3:=OQ (f:=aO.bf) (l:=l_) (c:=2000000) (ms:=M_.take g1.1.toNat) λ m q=>(h3.nd _ (OT hdf (List.mem_of_mem_take q))).1;have l4:=OQ (f:=usF) (l:=l_) (c:=1) (ms:=M_.take g1.1.toNat) λ m _=>af8 _;rw [← a3,List.length_take] at l3;rw [← a4,List.length_take] at l4;unfold IQ;refine wi ?_ ?_<;>intro c
 ·have hm:=(hdf g1.1.toNat om).1;have hx:=(h3.nd _ (getD_in (i:=(M_.getD g1.1.toNat 0).toNat) dh om)).1;have e:(g1.1+1).toNat=g1.1.toNat+1:=by omega
  refine bK om ?_;refine bK hm ?_;refine bK (by unfold big; omega) ?_;refine bK hm ?_;refine wi ?_ ?_<;>intro c6
  ·refine bK hm ?_;refine bK (by unfold big; omega) ?_;refine bK (by unfold aJ; omega) ?_;exact ih1 _ ⟨by dsimp only; omega,by dsimp only; omega,by dsimp only; rw [e,Av om,a3],by dsimp only; rw [e,Av om,a4]; congr 1; unfold usF; rw [decide_eq_false om]; rfl⟩ (by dsimp only; omega)
  ·refine bK (by unfold aJ; omega) ?_;exact ih1 _ ⟨by dsimp only; omega,by dsimp only; omega,by dsimp only; rw [e,Av om,a3],by dsimp only; rw [e,Av om,a4]; unfold usF; rw [decide_eq_true om]; exact (List.append_nil _).symm⟩ (by dsimp only; omega)
 ·rw [List.take_of_length_le om] at a3 a4;refine aL (Jp z6 om hra (by rw [a3]; exact amU hv1 hdf)) λ v8 ⟨_,vZ⟩=>?_;refine aL (Uj om hda (by rw [a4]; exact amV hv1 hdf)) λ v9 ⟨_,QB⟩=>?_;refine aL (abh h5 h4) λ v10 Ar=>?_;rw [a3] at vZ;rw [a4] at QB;refine aK ⟨⟨by dsimp only; omega,by dsimp only; omega,by dsimp only; omega,by dsimp only; rw [vZ.ln]; have:=hb.rs.len; omega,by dsimp only; rw [QB.ln]; omega⟩,by dsimp only; rw [Ar]; exact List.length_filter_le _ _,λ _=>⟨hv1,hdf,⟨by rw [← hv3]; exact hst,?_,Ar,vZ,QB⟩⟩⟩;dsimp only;rw [← hv4];refine Eq.trans ?_ (show v7=(⟨v7.1.On,v7.1.bC⟩,0) from Prod.ext rfl (by rw [hv7]; exact c5));exact hv7.symm
theorem QM {g_:aF} (h1:Sj b_) (h2:GSz b_.aQ) (h3:Xp l_) (h4:M_.length≤10000) (h5:g_.Uses.length≤2000000):W (vL b_ l_ g_ M_) (λ r=>Ga2 r∧r.2.2.2.2.2.2.2.length≤g_.Uses.length∧(r.2.2.2.2.2.2.1=0→BP b_ l_ 0∧QK l_ M_∧AgA b_ l_ M_ g_.Uses ⟨r.1,⟨r.2.1,r.2.2.1⟩,r.2.2.2.2.2.2.2,r.2.2.2.1,r.2.2.2.2.1⟩)):=by
 obtain ⟨z1,z2,z3,z4,z5,z6,z7⟩:=id h1;unfold vL;refine aL (sF h1 h2 h3) λ v1 hv1=>?_;refine cO (λ c1=>aK ⟨xV _ _,by simp,λ e=>by have c1:=fA c1; exact absurd e c1⟩) (λ c1=>?_);have c1:=fA c1;rw [c1] at hv1;obtain ⟨hb,hl12,hnd⟩:=Dy hv1;refine aL (mR om om) λ v2 hv2=>?_;refine cO (λ c2=>aK ⟨xV _ _,by simp,nofun⟩) (λ c2=>?_);have c2:=fA c2;have hdf:=hv2.1 c2;have hin:=abg hdf;obtain ⟨_,hra,hda⟩:=af9 hv1;refine aL (FP (k:=24) (f:=aO.eF) (λ x hx=>by have:=(hnd x hx).ll; omega) hin h4 om) λ v3 hv3=>?_;refine aL (FP (k:=32) (f:=aO.gJ) (λ x hx=>by have:=(hnd x hx).dl; omega) hin h4 om) λ v4 hv4=>?_;refine aL (pq (P:=λ _=>True) λ _=>Dz (λ x hx=>(hnd x hx).fl) h4) λ v5 _=>?_;refine cO (λ c3=>aK ⟨xV _ _,by simp,nofun⟩) (λ c3=>?_);simp only [Bool.or_eq_false_iff] at c3;obtain ⟨⟨c3,c3'⟩,_⟩:=c3;have c3:=fA c3; have c3:=fA c3';refine aL (LP z1 om) λ v6 hv6=>?_;refine cO (λ c4=>aK ⟨xV _ _,by simp,nofun⟩) (λ c4=>?_);have c4:=fA c4;obtain ⟨hst,hlb⟩:=hv6 c4;have hsl:=hst.1.1;refine aL (Sp.Oe z3 om) λ v7 hv7=>?_;refine cO (λ c5=>aK ⟨xV _ _,by simp,nofun⟩) (λ c5=>?_);have c5:=fA c5;rw [hv7] at c5;have hle:=Sp.ZH c5;rw [← hv7] at hle;refine cu (λ g1:Int×List Int×List Int=>0≤g1.1∧g1.1≤M_.length∧g1.2.1=jn aO.bf l_ (M_.take g1.1.toNat)∧g1.2.2=jn usF l_ (M_.take g1.1.toNat)) (λ g1=>(M_.length - g1.1).toNat) ?_ ⟨ob,ob,rfl,rfl⟩;intro ah g1 ⟨a1,a2,a3,a4⟩ ih1;have l3:=OQ (f:=aO.bf) (l:=l_) (c:=2000000) (ms:=M_.take g1.1.toNat) λ m q=>(h3.nd _ (OT hdf (List.mem_of_mem_take q))).1;have l4:=OQ (f:=usF) (l:=l_) (c:=1) (ms:=M_.take g1.1.toNat) λ m _=>af8 _;rw [← a3,List.length_take] at l3;rw [← a4,List.length_take] at l4;unfold Bv;refine wi ?_ ?_<;>intro c
 ·have hm:=(hdf g1.1.toNat om).1;have hx:=(h3.nd _ (getD_in (i:=(M_.getD g1.1.toNat 0).toNat) dh om)).1;have e:(g1.1+1).toNat=g1.1.toNat+1:=by omega
  refine bK om ?_;refine bK hm ?_;refine bK (by unfold big; omega) ?_;refine bK hm ?_;refine wi ?_ ?_<;>intro c6
  ·refine bK hm ?_;refine bK (by unfold big; omega) ?_;refine bK (by unfold aJ; omega) ?_;exact ih1 _ ⟨by dsimp only; omega,by dsimp only; omega,by dsimp only; rw [e,Av om,a3],by dsimp only; rw [e,Av om,a4]; congr 1; unfold usF; rw [decide_eq_false om]; rfl⟩ (by dsimp only; omega)
  ·refine bK (by unfold aJ; omega) ?_;exact ih1 _ ⟨by dsimp only; omega,by dsimp only; omega,by dsimp only; rw [e,Av om,a3],by dsimp only; rw [e,Av om,a4]; unfold usF; rw [decide_eq_true om]; exact (List.append_nil _).symm⟩ (by dsimp only; omega)
 ·rw [List.take_of_length_le om] at a3 a4;refine aL (Jp z6 om hra (by rw [a3]; exact amU hv1 hdf)) λ v8 ⟨_,vZ⟩=>?_;refine aL (Uj om hda (by rw [a4]; exact amV hv1 hdf)) λ v9 ⟨_,QB⟩=>?_;refine aL (Jo h5 h4) λ v10 Ar=>?_;rw [a3] at vZ;rw [a4] at QB;refine aK ⟨⟨by dsimp only; omega,by dsimp only; omega,by dsimp only; omega,by dsimp only; rw [vZ.ln]; have:=hb.rs.len; omega,by dsimp only; rw [QB.ln]; omega⟩,by dsimp only; rw [Ar]; exact List.length_filter_le _ _,λ _=>⟨hv1,hdf,⟨by rw [← hv3]; exact hst,?_,Ar,vZ,QB⟩⟩⟩;dsimp only;rw [← hv4];refine Eq.trans ?_ (show v7=(⟨v7.1.On,v7.1.bC⟩,0) from Prod.ext rfl (by rw [hv7]; exact c5));exact hv7.symm
theorem abl:Xy []:=λ i j _ h=>by simp at h; omega
theorem ado {l:List Int} {x:Int} (h:Xy l) (hx:∀y∈l,y<x):Xy (l++[x]):=by
 intro i j hij hj;rw [List.length_append,List.length_singleton] at hj;by_cases q:j<l.length
 ·rw [kX (i:=j) 0 q,kX (i:=i) 0 om]; exact h i j hij om
 ·rw [tF (i:=j) 0 om,kX (i:=i) 0 om]; exact hx _ (getD_in 0 om)
def Uk (b:aP) (l:List bg):Prop:=l.length≤1∧∀y∈l,aa5 b.bT.length y
def ae0 (b:aP) (l:List bU):Prop:=l.length≤1∧∀y∈l,ahg b.bD.length y
def aj6 (l:List ByteArray):Prop:=l.length≤2∧∀y∈l,QH y
def aoH (b:aP) (l:List Int):Prop:=l.length≤100∧∀y∈l,0≤y∧y<b.bf.length
def aoI (k:Int) (l:List Int):Prop:=l.length≤100∧(∀p∈l,0≤p∧p<k)∧Xy l
structure NdG (b:aP) (k:Int) (x:aO):Prop where
 lm:Uk b x.eF
 dw:ae0 b x.gJ
 fw:aj6 x.aI
 rs:aoH b x.bf
 dm : -1≤x.gB∧x.gB<b.bO.length
 pr:aoI k x.dx
theorem adp:Uk b []:=⟨Nat.zero_le _,nofun⟩
theorem adq:ae0 b []:=⟨Nat.zero_le _,nofun⟩
theorem aj7 {x:bg} (h:aa5 b.bT.length x):Uk b [x]:=⟨Nat.le_refl _,λ y hy=>by rw [List.mem_singleton] at hy; rw [hy]; exact h⟩
theorem aj8 {x:bU} (h:ahg b.bD.length x):ae0 b [x]:=⟨Nat.le_refl _,λ y hy=>by rw [List.mem_singleton] at hy; rw [hy]; exact h⟩
theorem aj9:aj6 []:=⟨Nat.zero_le _,nofun⟩
theorem akb {k:Int}:aoI k []:=⟨Nat.zero_le _,nofun,abl⟩
theorem QN {l:List Int} {lo hi:Int} (h:l.all (λ x=>decide (lo≤x)&&decide (x≤hi))=true) {r:Int} (hr:∃i:Nat,i<l.length∧r=l.getD i 0):lo≤r∧r≤hi:=by
 obtain ⟨i,h1,rfl⟩:=hr;have:=List.all_eq_true.1 h _ (getD_in 0 h1);simpa using this
theorem aqz {s:ByteArray} (h:(decide (0<s.size∧s.size≤16)&&(decide (97≤iE s 0∧iE s 0≤122)&&(List.range s.size).all λ j=>decide (iE s j=45∨(48≤iE s j∧iE s j≤57)∨(97≤iE s j∧iE s j≤122))))=true):QH s:=by
 simp only [Bool.and_eq_true,decide_eq_true_eq,List.all_eq_true,List.mem_range] at h;exact ⟨h.1,h.2.1,λ j hj=>h.2.2 j om⟩
def ae2:List ByteArray:=[({ data:=#[117,97,114,116] }:ByteArray),({ data:=#[115,112,105] }:ByteArray),({ data:=#[105,50,99] }:ByteArray),({ data:=#[112,119,109] }:ByteArray)]
theorem akc:∀s∈ae2,QH s:=by
 intro s hs;simp only [ae2,List.mem_cons,List.not_mem_nil,or_false] at hs;rcases hs with rfl | rfl | rfl | rfl<;>exact aqz (by decide)
variable {bX:cB}
theorem DC {n_:Int} {k_:Int} (h1:0≤n_) (h2:n_≤1000) (h3:1≤k_) (h4:k_≤100) (h5:0≤bX.At) (h6:bX.L.length≤600):W (kC n_ k_ bX) (λ r=>r.1.length≤n_.toNat∧(∀p∈r.1,0≤p∧p<n_)∧Xy r.1∧0≤r.2.At∧r.2.L.length≤600):=by
 unfold kC;refine cu (λ (g1:Int×List Int×Int×List Int)=>0≤g1.1∧g1.1≤n_∧0≤g1.2.2.1∧g1.2.1.length≤600∧(g1.2.2.2.length:Int)≤g1.1∧(∀p∈g1.2.2.2,0≤p∧p<g1.1)∧Xy g1.2.2.2) (λ (g1:Int×List Int×Int×List Int)=>(n_ - g1.1).toNat) ?_ ?_
 ·intro ah g1 fZ dS;obtain ⟨fI,eG,dI,jF,zN,Jf,akd⟩:=fZ;unfold vD;refine wi ?_ ?_<;>intro c1
  ·refine aL (bQ ob ob ob) λ v3 hv3=>?_;obtain ⟨Xb,Zn,Zo,ajc,ap5⟩:=hv3;refine wn<|wi ?_ ?_<;>intro c2
   ·refine wm<|dS _ ?_ ?_
    ·(refine ⟨ob,ob,ob,ob,ob,λ p hp=>?_,ado akd λ p hp=>(Jf p hp).2⟩; dsimp only; rcases List.mem_append.1 hp with hp | hp; (have:=Jf p hp; omega); (rw [List.mem_singleton] at hp; omega))
    ·exact ob
   ·refine wn<|dS _ ?_ ?_
    ·(refine ⟨ob,ob,ob,ob,ob,λ p hp=>?_,akd⟩; have:=Jf p hp; dsimp only; omega)
    ·exact ob
  ·refine aK ?_;(refine ⟨ob,λ p hp=>?_,akd,ob,ob⟩; have:=Jf p hp; omega)
 ·(refine ⟨ob,ob,ob,ob,ob,nofun,abl⟩)
theorem LU {iX:Int} (h1:0≤iX) (h2:iX≤50) (h3:0≤bX.At) (h4:bX.L.length≤600):W (pG iX bX) (λ r=>r.1.length≤iX.toNat∧(∀y∈r.1,QH y)∧0≤r.2.At∧r.2.L.length≤600):=by
 unfold pG;refine wn<|aL (bQ ob ob ob) λ v1 hv1=>?_;obtain ⟨FH,zM,FI,Je,Ll⟩:=hv1;refine cu (λ (g1:Int×List Int×Int×List ByteArray)=>0≤g1.1∧0≤g1.2.2.1∧g1.2.1.length≤600∧(g1.2.2.2.length:Int)+g1.1≤iX∧(∀y∈g1.2.2.2,QH y)) (λ (g1:Int×List Int×Int×List ByteArray)=>g1.1.toNat) ?_ ?_
 ·intro ah g1 fZ dS;obtain ⟨fI,eG,dI,jF,zN⟩:=fZ;unfold yD;refine wi ?_ ?_<;>intro c1
  ·refine aL (j3) λ v6 hv6=>?_;subst v6;refine aL (R7 ob ob ob ob) λ v7 hv7=>?_;obtain ⟨amH,ap7,ap8⟩:=hv7;refine wm<|dS _ ?_ ?_
   ·(refine ⟨ob,ob,ob,ob,λ p hp=>?_⟩; dsimp only at hp; rcases List.mem_append.1 hp with hp | hp; (exact zN p hp); (rw [List.mem_singleton] at hp; rw [hp]; obtain ⟨i,hi,e⟩:=amH; rw [e]; exact akc _ (getD_in (l:=ae2) _ hi)))
   ·exact ob
  ·refine aK ?_;(refine ⟨ob,zN,ob,ob⟩)
 ·(refine ⟨ob,ob,ob,ob,nofun⟩)
theorem OU (h1:b_.bT.length≤100) (h2:0<b_.bT.length) (h3:0≤bX.At) (h4:bX.L.length≤600):W (sQ b_ bX) (λ r=>aa5 b_.bT.length r.1∧0≤r.2.At∧r.2.L.length≤600):=by
 unfold sQ;refine aL (bQ ob ob ob) λ v1 hv1=>?_;obtain ⟨FH,zM,FI,Je,Ll⟩:=hv1;refine aL (fM ob ob ob ob) λ v2 hv2=>?_;obtain ⟨Xe,Xf,Zp⟩:=hv2;refine aL (fM ob ob ob ob) λ v3 hv3=>?_;obtain ⟨Xb,Zn,Zo⟩:=hv3;refine aK ?_;(have a:=QN (lo:=0) (hi:=24) (by decide) Xe; have b:=QN (lo:=24) (hi:=300) (by decide) Xb; exact ⟨⟨om,zM om,a.1,Int.le_trans a.2 b.1,Int.le_trans b.2 (by decide)⟩,ob,ob⟩)
theorem QO (h1:b_.bD.length≤100) (h2:0<b_.bD.length) (h3:0≤bX.At) (h4:bX.L.length≤600):W (vE b_ bX) (λ r=>ahg b_.bD.length r.1∧0≤r.2.At∧r.2.L.length≤600):=by
 unfold vE;refine aL (bQ ob ob ob) λ v1 hv1=>?_;obtain ⟨FH,zM,FI,Je,Ll⟩:=hv1;refine aL (fM ob ob ob ob) λ v2 hv2=>?_;obtain ⟨Xe,Xf,Zp⟩:=hv2;refine aL (fM ob ob ob ob) λ v3 hv3=>?_;obtain ⟨Xb,Zn,Zo⟩:=hv3;refine aL (fM ob ob ob ob) λ v4 hv4=>?_;obtain ⟨ajd,aje,amG⟩:=hv4;refine aK ?_;(have a:=QN (lo:=0) (hi:=1800) (by decide) Xe; have b:=QN (lo:=1800) (hi:=5000) (by decide) Xb; have c:=QN (lo:=0) (hi:=200) (by decide) ajd; exact ⟨⟨om,zM om,a.1,Int.le_trans a.2 b.1,b.2,c.1,Int.le_trans c.2 (by decide)⟩,ob,ob⟩)
variable {v1:Int×cB} {g1:Int×List Int×Int×List aO} {ah:(Int×List Int×Int×List aO)→M (List aO×cB)} {v46:Int×cB} {g14:List Int×Int×List bg} {g15:List Int×Int×List bU} {g16:List Int×Int×List ByteArray} {Q:(List aO×cB)→Prop}
theorem sG {v53:List Int×cB} {g18:List Int×Int×List Int} (dS:∀s':(Int×List Int×Int×List aO),(0≤s'.1∧s'.1≤v1.1∧0≤s'.2.2.1∧s'.2.1.length≤600∧(s'.2.2.2.length:Int)=s'.1∧(∀x∈s'.2.2.2,NdG b_ v1.1 x))→(v1.1 - s'.1).toNat<(v1.1 - g1.1).toNat→W (ah s') Q) (hc:0≤g18.2.1∧g18.1.length≤600∧aoI v1.1 g18.2.2∧Uk b_ g14.2.2∧ae0 b_ g15.2.2∧aj6 g16.2.2∧aoH b_ v53.1∧0≤g1.1∧g1.1<v1.1∧v1.1≤51∧(g1.2.2.2.length:Int)=g1.1∧(∀x∈g1.2.2.2,NdG b_ v1.1 x)∧(-1≤v46.1∧v46.1<b_.bO.length)):W (jR g1 ah v46 g14 g15 g16 v53 g18) Q:=by
 obtain ⟨ajR,ajS,QF,M4,Sk,abb,ahv,ake,akf,QS,Jq,ZI,amW⟩:=hc;unfold jR;refine wm<|dS _ ?_ ?_
 ·(refine ⟨ob,ob,ob,ob,ob,λ x hx=>?_⟩; rcases List.mem_append.1 hx with hx | hx; (exact ZI x hx); (rw [List.mem_singleton] at hx; subst hx; exact ⟨M4,Sk,abb,ahv,amW,QF⟩))
 ·exact ob
theorem sH {v53:List Int×cB} {g19:Int×List Int×Int} (dS:∀s':(Int×List Int×Int×List aO),(0≤s'.1∧s'.1≤v1.1∧0≤s'.2.2.1∧s'.2.1.length≤600∧(s'.2.2.2.length:Int)=s'.1∧(∀x∈s'.2.2.2,NdG b_ v1.1 x))→(v1.1 - s'.1).toNat<(v1.1 - g1.1).toNat→W (ah s') Q) (hc:0≤g19.2.2∧g19.2.1.length≤600∧0≤g19.1∧g19.1≤51∧g19.1≤v1.1∧Uk b_ g14.2.2∧ae0 b_ g15.2.2∧aj6 g16.2.2∧aoH b_ v53.1∧0≤g1.1∧g1.1<v1.1∧v1.1≤51∧(g1.2.2.2.length:Int)=g1.1∧(∀x∈g1.2.2.2,NdG b_ v1.1 x)∧(-1≤v46.1∧v46.1<b_.bO.length)):W (jS g1 ah v46 g14 g15 g16 v53 g19) Q:=by
 obtain ⟨ajR,ajS,QF,M4,Sk,abb,ahv,ake,akf,QS,Jq,ZI,amW,aqA,aqB⟩:=hc;unfold jS;refine aL (DC ob ob ob ob ob ob) λ v60 atv=>?_;obtain ⟨atw,aoJ,aoK,atx,aty⟩:=atv;exact sG (b_:=b_) (v1:=v1) (λ a b c=>dS a b c) (by (refine ⟨ob,ob,⟨ob,λ p hp=>(by have:=aoJ p hp; omega),aoK⟩,abb,ahv,ake,akf,ob,ob,ob,ob,aqA,aqB⟩))
theorem sI (dS:∀s':(Int×List Int×Int×List aO),(0≤s'.1∧s'.1≤v1.1∧0≤s'.2.2.1∧s'.2.1.length≤600∧(s'.2.2.2.length:Int)=s'.1∧(∀x∈s'.2.2.2,NdG b_ v1.1 x))→(v1.1 - s'.1).toNat<(v1.1 - g1.1).toNat→W (ah s') Q) (hc:0≤g16.2.1∧g16.1.length≤600∧Uk b_ g14.2.2∧ae0 b_ g15.2.2∧aj6 g16.2.2∧b_.bf.length≤4∧0≤g1.1∧g1.1<v1.1∧v1.1≤51∧(g1.2.2.2.length:Int)=g1.1∧(∀x∈g1.2.2.2,NdG b_ v1.1 x)∧(-1≤v46.1∧v46.1<b_.bO.length)):W (jT b_ v1 g1 ah v46 g14 g15 g16) Q:=by
 obtain ⟨ajR,ajS,QF,M4,Sk,abb,ahv,ake,akf,QS,Jq,ZI⟩:=hc;unfold jT;refine aL (DC ob ob ob ob ob ob) λ v53 atz=>?_;obtain ⟨atA,ae3,atB,atC,atE⟩:=atz;refine aL (bQ ob ob ob) λ v58 atF=>?_;obtain ⟨atG,atH,atI,atJ,atK⟩:=atF;refine wi ?_ ?_<;>intro c1
 ·refine aL (bQ ob ob ob) λ v61 atL=>?_;obtain ⟨atM,atN,atO,atP,atQ⟩:=atL;refine wi ?_ ?_<;>intro c2
  ·exact sH (b_:=b_) (v1:=v1) (λ a b c=>dS a b c) (by (refine ⟨ob,ob,ob,ob,ob,QF,M4,Sk,⟨om,ae3⟩,ob,ob,ob,ob,Jq,ZI⟩))
  ·exact sH (b_:=b_) (v1:=v1) (λ a b c=>dS a b c) (by (refine ⟨ob,ob,ob,ob,ob,QF,M4,Sk,⟨om,ae3⟩,ob,ob,ob,ob,Jq,ZI⟩))
 ·exact sG (b_:=b_) (v1:=v1) (λ a b c=>dS a b c) (by (refine ⟨ob,ob,akb,QF,M4,Sk,⟨om,ae3⟩,ob,ob,ob,ob,Jq,ZI⟩))
theorem l8 (dS:∀s':(Int×List Int×Int×List aO),(0≤s'.1∧s'.1≤v1.1∧0≤s'.2.2.1∧s'.2.1.length≤600∧(s'.2.2.2.length:Int)=s'.1∧(∀x∈s'.2.2.2,NdG b_ v1.1 x))→(v1.1 - s'.1).toNat<(v1.1 - g1.1).toNat→W (ah s') Q) (hc:0≤g15.2.1∧g15.1.length≤600∧Uk b_ g14.2.2∧ae0 b_ g15.2.2∧b_.bf.length≤4∧0≤g1.1∧g1.1<v1.1∧v1.1≤51∧(g1.2.2.2.length:Int)=g1.1∧(∀x∈g1.2.2.2,NdG b_ v1.1 x)∧(-1≤v46.1∧v46.1<b_.bO.length)):W (jh b_ v1 g1 ah v46 g14 g15) Q:=by
 obtain ⟨ajR,ajS,QF,M4,Sk,abb,ahv,ake,akf,QS,Jq⟩:=hc;unfold jh;refine aL (bQ ob ob ob) λ v62 atS=>?_;obtain ⟨atT,atU,atV,atW,atX⟩:=atS;refine wi ?_ ?_<;>intro c1
 ·refine aL (LU ob ob ob ob) λ v63 atY=>?_;obtain ⟨atZ,aoL,at0,at1⟩:=atY;exact sI (λ a b c=>dS a b c) (by (refine ⟨ob,ob,QF,M4,⟨ob,aoL⟩,Sk,ob,ob,ob,ob,QS,Jq⟩))
 ·exact sI (λ a b c=>dS a b c) (by (refine ⟨ob,ob,QF,M4,aj9,Sk,ob,ob,ob,ob,QS,Jq⟩))
theorem mU (dS:∀s':(Int×List Int×Int×List aO),(0≤s'.1∧s'.1≤v1.1∧0≤s'.2.2.1∧s'.2.1.length≤600∧(s'.2.2.2.length:Int)=s'.1∧(∀x∈s'.2.2.2,NdG b_ v1.1 x))→(v1.1 - s'.1).toNat<(v1.1 - g1.1).toNat→W (ah s') Q) (hc:0≤g14.2.1∧g14.1.length≤600∧Uk b_ g14.2.2∧b_.bf.length≤4∧b_.bD.length≤3∧0≤g1.1∧g1.1<v1.1∧v1.1≤51∧(g1.2.2.2.length:Int)=g1.1∧(∀x∈g1.2.2.2,NdG b_ v1.1 x)∧(-1≤v46.1∧v46.1<b_.bO.length)):W (jC b_ v1 g1 ah v46 g14) Q:=by
 obtain ⟨ajR,ajS,QF,M4,Sk,abb,ahv,ake,akf,QS,Jq⟩:=hc;unfold jC;refine wi ?_ ?_<;>intro c1
 ·refine aL (bQ ob ob ob) λ v64 hv64=>?_;obtain ⟨at5,at6,at7,aua,aub⟩:=hv64;refine wi ?_ ?_<;>intro c2
  ·refine aL (QO ob ob ob ob) λ v65 auc=>?_;obtain ⟨aoM,aud,aue⟩:=auc;refine wn ?_;exact l8 (λ a b c=>dS a b c) (by (refine ⟨ob,ob,QF,aj8 aoM,M4,ob,ob,ob,ob,QS,Jq⟩))
  ·exact l8 (λ a b c=>dS a b c) (by (refine ⟨ob,ob,QF,adq,M4,ob,ob,ob,ob,QS,Jq⟩))
 ·refine wn ?_;exact l8 (λ a b c=>dS a b c) (by (refine ⟨ob,ob,QF,adq,M4,ob,ob,ob,ob,QS,Jq⟩))
theorem LV {iX:Int} (h1:ag1 b_) (h2:0≤iX) (h3:iX≤50) (h4:0≤bX.At) (h5:bX.L.length≤600):W (pI b_ iX bX) (λ r=>r.1.length≤iX.toNat∧(∀x∈r.1,NdG b_ (r.1.length:Int) x)∧0≤r.2.At∧r.2.L.length≤600):=by
 obtain ⟨q1,q2,q3,q4,q5,q6,q7,q8,q9⟩:=h1;unfold pI;refine wn<|aL (bQ ob ob ob) λ v1 hv1=>?_;obtain ⟨FH,zM,FI,Je,Ll⟩:=hv1;refine cu (λ (g1:Int×List Int×Int×List aO)=>0≤g1.1∧g1.1≤v1.1∧0≤g1.2.2.1∧g1.2.1.length≤600∧(g1.2.2.2.length:Int)=g1.1∧(∀x∈g1.2.2.2,NdG b_ v1.1 x)) (λ (g1:Int×List Int×Int×List aO)=>(v1.1 - g1.1).toNat) ?_ ?_
 ·intro ah g1 fZ dS;obtain ⟨fI,eG,dI,jF,zN,Jf⟩:=fZ;unfold yE;refine wi ?_ ?_<;>intro c1
  ·refine wn<|aL (lW ob ob ob ob ob ob) λ v46 aeK=>?_;obtain ⟨auf,aug,auh,aui,auj⟩:=aeK;refine wi ?_ ?_<;>intro c2
   ·refine aL (bQ ob ob ob) λ v66 auk=>?_;obtain ⟨aul,aum,aun,auo,aup⟩:=auk;refine wi ?_ ?_<;>intro c3
    ·refine aL (OU ob ob ob ob) λ v67 auq=>?_;obtain ⟨aoN,aur,aus⟩:=auq;refine wn ?_;exact mU (λ a b c=>dS a b c) (by (refine ⟨ob,ob,aj7 aoN,ob,ob,ob,ob,ob,ob,Jf,om,om⟩))
    ·exact mU (λ a b c=>dS a b c) (by (refine ⟨ob,ob,adp,ob,ob,ob,ob,ob,ob,Jf,om,om⟩))
   ·refine wn ?_;exact mU (λ a b c=>dS a b c) (by (refine ⟨ob,ob,adp,ob,ob,ob,ob,ob,ob,Jf,om,om⟩))
  ·have hlen:(g1.2.2.2.length:Int)=v1.1:=by omega
   refine wi ?_ ?_<;>intro c4
   ·refine aL (bQ ob ob ob) λ v68 aut=>?_;obtain ⟨auu,auv,auw,auy,auz⟩:=aut;refine wi ?_ ?_<;>intro c5
    ·refine wn<|cu (λ (g20:Int×Int×List aO)=>0≤g20.1 ∧ -1≤g20.2.1∧g20.2.1<v1.1∧g20.1≤v1.1∧(g20.2.2.length:Int)=v1.1∧(∀x∈g20.2.2,NdG b_ v1.1 x)) (λ (g20:Int×Int×List aO)=>(g20.2.1 - g20.1).toNat) ?_ ?_
     ·intro aeH g20 aqC aqD;obtain ⟨auA,auB,auC,auD,auE,abm⟩:=aqC;unfold wK;refine wi ?_ ?_<;>intro c6
      ·refine wm<|wm ?_;refine wm<|aqD _ ?_ ?_
       ·(refine ⟨ob,ob,ob,ob,ob,aaK (aaK abm (abm _ (getD_in _ om))) (abm _ (getD_in _ om))⟩)
       ·exact ob
      ·refine cu (λ (g21:Int×List aO)=>0≤g21.1∧(g21.2.length:Int)=v1.1∧(∀x∈g21.2,NdG b_ v1.1 x)) (λ (g21:Int×List aO)=>(v1.1 - g21.1).toNat) ?_ ?_
       ·intro WY g21 aqE aqF;obtain ⟨auF,aoO,ae4⟩:=aqE;unfold wJ;refine wi ?_ ?_<;>intro c7
        ·have q:=ae4 (g21.2.getD g21.1.toNat dh) (getD_in _ om);have qp:=q.pr.1;refine wm<|cu (λ (g24:Int×List Int) => -1≤g24.1∧g24.1<(g21.2.getD g21.1.toNat dh).dx.length∧(g24.2.length:Int)+g24.1<(g21.2.getD g21.1.toNat dh).dx.length∧(∀p∈g24.2,0≤p∧p<v1.1)∧Xy g24.2∧(∀p∈g24.2,∀j:Nat,(j:Int)≤g24.1→p<v1.1 - 1 - (g21.2.getD g21.1.toNat dh).dx.getD j 0)) (λ (g24:Int×List Int)=>(g24.1+1).toNat) ?_ ?_
         ·intro aeG g24 aqG aqH;obtain ⟨auG,auH,auI,akg,akh,aki⟩:=aqG;unfold wI;refine wi ?_ ?_<;>intro c8
          ·have q2:=q.pr.2.1 _ (getD_in (i:=g24.1.toNat) 0 om);refine wm<|wm ?_;refine wm<|aqH _ ?_ ?_
           ·(refine ⟨ob,ob,ob,λ p hp=>?_,ado akh (λ p hp=>by have:=aki p hp g24.1.toNat om; omega),λ p hp j hj=>?_⟩; (rcases List.mem_append.1 hp with hp | hp; (exact akg p hp); (rw [List.mem_singleton] at hp; omega)); (dsimp only at hj; rcases List.mem_append.1 hp with hp | hp; (exact aki p hp j om); (rw [List.mem_singleton] at hp; have:=q.pr.2.2 j g24.1.toNat om om; omega)))
           ·exact ob
          ·refine wm<|aqF _ ?_ ?_
           ·(refine ⟨ob,ob,aaK ae4 ⟨q.lm,q.dw,q.fw,q.rs,q.dm,ob,akg,akh⟩⟩)
           ·exact ob
         ·(refine ⟨ob,ob,ob,nofun,abl,nofun⟩)
        ·refine aK ?_;(refine ⟨ob,λ x hx=>?_,ob,ob⟩; have q:=ae4 x hx; rw [aoO]; exact q)
       ·(refine ⟨ob,ob,abm⟩)
     ·(refine ⟨ob,ob,ob,ob,ob,Jf⟩)
    ·refine aK ?_;(refine ⟨ob,λ x hx=>?_,ob,ob⟩; have q:=Jf x hx; rw [hlen]; exact q)
   ·refine wn<|aK ?_;(refine ⟨ob,λ x hx=>?_,ob,ob⟩; have q:=Jf x hx; rw [hlen]; exact q)
 ·(refine ⟨ob,ob,ob,ob,ob,nofun⟩)
theorem adr {p_:bL} {l_:List ByteArray} {jD:List Int} (h1:∀g∈p_.aG,g.dz.length≤2000000∧g.aI.length≤2000000) (h2:l_.length≤2000000) (hp:adk p_) (hg:YH p_ l_ jD):W (MJ p_ l_ jD) (λ _=>True):=by
 unfold MJ;refine aL (P:=λ _=>True) ?_ λ v1 _=>?_
 ·unfold K9;refine aL (BM h1) λ v1 _=>?_;refine cO (λ _=>aK trivial) (λ _=>?_);refine cu (λ g1:Int=>0≤g1) (λ g1=>(l_.length - g1).toNat) ?_ (Int.le_refl _);intro ah g1 a1 ih1;unfold K8;refine cO (λ c=>?_) (λ _=>aK trivial);have c:=fA c;refine bK om ?_;refine aL xU λ v4 _=>?_;exact cO (λ _=>aK trivial) (λ _=>bK (by unfold aJ; omega) (ih1 _ om om))
 refine cO (λ _=>aK trivial) (λ _=>?_);refine aL (P:=λ _=>True) ?_ λ v2 _=>cO (λ _=>aK trivial) (λ _=>aK trivial);unfold OD;refine cO (λ _=>aK trivial) (λ c1=>?_);have c1:=fA c1;refine cu (λ g1:Int=>0≤g1) (λ g1=>(jD.length - g1).toNat) ?_ (Int.le_refl _);intro ah g1 a1 ih1;unfold NR;refine cO (λ c=>?_) (λ _=>aK trivial);have c:=fA c;have hx:=hg.ir _ (getD_in (i:=g1.toNat) 0 om);have hf:=(h1 _ (getD_in (i:=(jD.getD g1.toNat 0).toNat) aM om)).2;refine bK om ?_;refine bK (λ _=>hx) ?_;refine bK (λ _=>by omega) ?_;refine aL (pq λ _=>LH hf) λ v5 _=>?_;refine bK (λ _=>by omega) ?_;refine aL (pq λ _=>Og h1 (by rw [List.length_take]; omega) (λ x hx=>hg.ir x (List.mem_of_mem_take hx)) hx.1 hx.2 hp) λ v6 _=>?_;exact cO (λ _=>aK trivial) (λ _=>bK (by unfold aJ; omega) (ih1 _ om om))
end Go.Proofs.YtifekdmmpbcdgaaGreatDoor

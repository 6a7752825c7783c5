/- An abstract machine over the model's code, that it is sound; models of the functions and their proofs. -/
import Derived.Test.YtccjmcmolnbiiaaGreatDoorA6
set_option linter.unusedVariables false
set_option linter.unusedSimpArgs false
namespace Go.Proofs.YtccjmcmolnbiiaaGreatDoor
open Go.Ab
set_option maxRecDepth 100000
def ak7 (r:List bI) (on:List Bool) (l:List aI) (j:Nat):Bool:=((on.getD j false)&&((l.getD j aJ).fK != 0))&&!nO (r.getD j dV) (l.getD j aJ).Low (l.getD j aJ).fK
def aiI (l:List aI) (st:List bI×List Bool):Bool:=(List.range l.length).all fun i=>!ak7 st.1 st.2 l i
def ZG (st:List bI×List Bool) (x:bK):Bool:=!(st.2.getD x.eU.toNat false)||!nO (st.1.getD x.eU.toNat dV) x.Low x.fK
def NY (l:List aI) (s:List Int) (m:List bK):Bool:=!m.any (ZG (Qu l s))&&aiI l (Qu l s)
def VS (l:List aI) (s:List Int):Prop:=s.length=l.length∧∀i,i<l.length→0≤s.getD i 0∧s.getD i 0<(l.getD i aJ).aM.length
def rJ:List aI→Nat
 | []=>1
 | c::l=>c.aM.length*rJ l
def sZ:List aI→List Int→Nat
 | c::l,x::t=>x.toNat*rJ l+sZ l t
 | _,_=>0
theorem TI {c:aI} {l:List aI} {s:List Int} (h:VS (c::l) s):∃x t,s=x::t∧0≤x∧x<c.aM.length∧VS l t:=by
 obtain ⟨h1,h2⟩:=h;cases s with
 | nil=>cases h1
 | cons x t=>
  have h0:=h2 0 (by simp);exact ⟨x,t,rfl,h0.1,h0.2,by simpa using h1,fun i hi=>h2 (i+1) (by simpa using hi)⟩
theorem NZ {l:List aI}:∀ {s:List Int},VS l s→sZ l s<rJ l:=by
 induction l with
 | nil=>intro s _; cases s<;>simp [sZ,rJ]
 | cons c l ih=>
  intro s h;obtain ⟨x,t,rfl,h1,h2,h3⟩:=TI h;have:=ih h3;rw [sZ,rJ];have h4:(x.toNat+1)*rJ l≤c.aM.length*rJ l:=Nat.mul_le_mul_right _ om;rw [Nat.add_mul,Nat.one_mul] at h4;omega
theorem aeW {l:List aI}:∀ {s:List Int},(∀j,j<l.length→s.getD j 0=0)→sZ l s=0:=by
 induction l with
 | nil=>intro s _; cases s<;>rfl
 | cons c l ih=>
  intro s h;cases s with
  | nil=>rfl
  | cons x t=>
   have h0:=h 0 (by simp);have h0:x=0:=h0;rw [sZ,h0,ih fun j hj=>h (j+1) (by simpa using hj)];simp
theorem ahm {l:List aI}:∀ {s:List Int},VS l s→(∀j,j<l.length→s.getD j 0+1=(l.getD j aJ).aM.length)→sZ l s+1=rJ l:=by
 induction l with
 | nil=>intro s h _; cases s<;>rfl
 | cons c l ih=>
  intro s hv h;obtain ⟨x,t,rfl,h1,h2,h3⟩:=TI hv;have h0:x+1=c.aM.length:=h 0 (by simp);have:=ih h3 fun j hj=>h (j+1) (by simpa using hj);rw [sZ,rJ,show c.aM.length=x.toNat+1 by omega,Nat.add_mul,Nat.one_mul];omega
theorem ak8 {l:List aI}:∀ {s t:List Int} {k:Nat},VS l s→k<l.length→t.length=l.length→(∀j,j<k→t.getD j 0=s.getD j 0)→t.getD k 0=s.getD k 0+1→(∀j,k<j→j<l.length→t.getD j 0=0∧s.getD j 0+1=(l.getD j aJ).aM.length)→sZ l t=sZ l s+1:=by
 induction l with
 | nil=>intro s t k _ h; exact absurd h (Nat.not_lt_zero _)
 | cons c l ih=>
  intro s t k hv hk hl h1 h2 h3;obtain ⟨x,s,rfl,g1,g2,g3⟩:=TI hv;cases t with
  | nil=>cases hl
  | cons y t=>
   cases k with
   | zero=>
    have h2:y=x+1:=h2;have e1:=aeW (l:=l) (s:=t) fun j hj=>(h3 (j+1) om (by simpa using hj)).1;have e2:=ahm g3 fun j hj=>(h3 (j+1) om (by simpa using hj)).2;rw [sZ,sZ,e1,h2,show (x+1).toNat=x.toNat+1 by omega,Nat.add_mul,Nat.one_mul];omega
   | succ k=>
    have h0:y=x:=h1 0 om;have:=ih g3 (by simpa using hk) (by simpa using hl) (fun j hj=>h1 (j+1) om) h2 (fun j a b=>h3 (j+1) om (by simpa using b));rw [sZ,sZ,h0,this];omega
theorem ahn {l:List aI} {s t:List Int} {k:Nat} (hv:VS l s) (hk:k<l.length) (hl:t.length=l.length) (h1:∀j,j<k→t.getD j 0=s.getD j 0) (h2:t.getD k 0=s.getD k 0+1) (h3:∀j,k<j→j<l.length→t.getD j 0=0∧s.getD j 0+1=(l.getD j aJ).aM.length) (h4:s.getD k 0+1<(l.getD k aJ).aM.length):VS l t∧sZ l t=sZ l s+1:=by
 refine ⟨⟨hl,fun i hi=>?_⟩,ak8 hv hk hl h1 h2 h3⟩;have:=hv.2 i hi;rcases Nat.lt_trichotomy i k with h | h | h
 ·rw [h1 i h]; exact this
 ·subst h; omega
 ·have:=h3 i h hi; omega
theorem ac0 {l:List aI} {s:List Int} (h:VS l s):kD l s=true:=by
 unfold kD;rw [h.1,beq_self_eq_true,Bool.true_and,List.all_eq_true];intro i hi;have:=h.2 i (by have:=List.mem_range.1 hi; omega);exact (within_iff _ _ _).2 om
theorem aiJ (l:List aI) (c:aI):rJ (l++[c])=rJ l*c.aM.length:=by
 induction l with
 | nil=>simp [rJ]
 | cons a l ih=>rw [List.cons_append,rJ,rJ,ih,Nat.mul_assoc]
theorem aiK {l:List aI} (h:∀c∈l,1≤c.aM.length):mg l=Xp (rJ l) 1099511627776:=by
 induction l using Jf with
 | nil=>rfl
 | append_singleton l c ih=>
  have hc:=h c (by simp);rw [Rm,ih fun x hx=>h x (by simp [hx]),aiJ,Int.natCast_mul];generalize ((rJ l:Nat):Int)=a;generalize hb:(c.aM.length:Int)=b;have hb1:1≤b:=by omega
  unfold Xp;by_cases h1:(1099511627776:Int)<a
  ·have h2:(1099511627776:Int)<a*b:=by
    have:=Int.mul_le_mul_of_nonneg_left hb1 (show 0≤a by omega);omega
   have h3:(1099511627776:Int)≤1099511627776*b:=by omega
   rw [if_pos h1,if_pos h2];split<;>omega
  ·rw [if_neg h1]
theorem size_le {l:List aI} (h:aay l):rJ l≤4096:=by
 have hp:=h.prod;rw [aiK fun c hc=>by
  obtain ⟨k,hk,rfl⟩:=List.mem_iff_getElem.1 hc;have:=NG (kX (h.valid k hk));rw [List.getD_eq_getElem?_getD,List.getElem?_eq_getElem hk] at this;simp only [Option.getD_some] at this;omega] at hp
 unfold Xp at hp;split at hp<;>omega
theorem aho {l:List aI} (h:aay l):VS l (List.replicate (l.length:Int).toNat 0):=by
 refine ⟨by simp,fun i hi=>?_⟩;have:=NG (kX (h.valid i hi));rw [Sp.nu];omega
theorem aiL {l:List aI} {m:List bK} (h:((bif eF l != 0 then eF l else bif !kY l m then 1 else 0) != 0)=false):eF l=0∧kY l m=true:=by
 cases h1:eF l != 0 with
 | true=>rw [h1] at h; simp only [cond_true] at h; rw [h1] at h; cases h
 | false=>
  cases h2:kY l m with
  | false=>rw [h1,h2] at h; cases h
  | true=>exact ⟨by simpa using h1,rfl⟩
theorem ahp {l:List aI} {m:List bK} (h:kY l m=true):∀x∈m,0≤x.eU∧x.eU<l.length:=fun x hx=>(NH (Il h x hx)).1
theorem Ef {r_:bI} {Ch:Int} {nV:Int}:W (rY r_ Ch nV) (fun r=>r=nO r_ Ch nV):=by
 unfold rY;refine aH (zG) fun v1 hv1=>?_;subst v1;refine bV (fun c1=>?_) (fun c1=>?_)
 ·have fU:=c1;have c1:=nr c1;refine av ?_;(unfold nO; rw [show pz r_=false by simpa using fU]; rfl)
 ·have fU:=c1;have c1:=nr c1;have hv:=l9 (r:=r_) (by simpa using fU);have q1:=tdiv_le r_.jW r_.jq hv.1 om;refine wm ?_;refine av ?_;(unfold nO; rw [show pz r_=true by simpa using fU]; rfl)
theorem WY {l_:(List aI)} {r_:(List bI)} {qC:(List Bool)} (h1:l_.length≤2000000) (h2:r_.length=l_.length) (h3:qC.length=l_.length):W (H7 l_ r_ qC) (fun r=>r=aiI l_ (r_,qC)):=by
 unfold H7;refine bF (fun (g1:Int)=>0≤g1∧g1≤l_.length∧(∀j:Nat,(j:Int)<g1→ak7 r_ qC l_ j=false)) (fun (g1:Int)=>(l_.length - g1).toNat) ?_ ?_
 ·intro aj g1 dQ bS;obtain ⟨dG,bE,bG⟩:=dQ;unfold SQ;refine wi (fun c1=>?_) (fun c1=>?_)
  ·refine wm ?_;refine wn ?_;refine aH (gX fun hc=>mG (Ef)) fun v3 hv3=>?_;subst v3;refine bV (fun c2=>?_) (fun c2=>?_)
   ·have jT:=c2;have c2:=nr c2;refine av ?_;(unfold aiI; rw [w9 (i:=g1.toNat) om (by rw [show ak7 r_ qC l_ g1.toNat=true from jT]; rfl)])
   ·have jT:=c2;have c2:=nr c2;refine wn ?_;refine bS _ ?_ ?_
    ·(refine ⟨ob,ob,dR bG dG jT⟩)
    ·exact ob
  ·refine av ?_;(unfold aiI; rw [zA fun j hj=>(by rw [bG j om]; rfl)])
 ·(refine ⟨ob,ob,fun j hj=>by omega⟩)
theorem ac1 {l_:(List aI)} {s_:(List Int)} {m_:(List bK)} (h1:Good l_ s_) (h2:Up l_ s_) (h3:m_.length≤2000000) (h4:∀x∈m_,0≤x.eU∧x.eU<l_.length):W (Jv l_ s_ m_) (fun r=>r=NY l_ s_ m_):=by
 have hsm:=h1.small;have hst:=O7 l_ s_ l_.length;unfold Jv;refine aH (NW ob ob) fun v1 hv1=>?_;subst v1;have hs1:(Qu l_ s_).1.length=l_.length:=hst.1;have hs2:(Qu l_ s_).2.length=l_.length:=hst.2;refine bF (fun (g1:Int)=>0≤g1∧g1≤m_.length∧(m_.drop g1.toNat).any (ZG (Qu l_ s_))=m_.any (ZG (Qu l_ s_))) (fun (g1:Int)=>(m_.length - g1).toNat) ?_ ?_
 ·intro aj g1 dQ bS;obtain ⟨dG,bE,bG⟩:=dQ;unfold Qm;refine wi (fun c1=>?_) (fun c1=>?_)
  ·have hlt:g1.toNat<m_.length:=om;have hx:=h4 _ (getD_in (i:=g1.toNat) dn hlt);rw [drop_cons dn hlt,List.any_cons] at bG;refine wm ?_;refine wn ?_;refine aH (gX fun hc=>mG (Ef)) fun v4 hv4=>?_;subst v4;refine bV (fun c2=>?_) (fun c2=>?_)
   ·have jT:=c2;have c2:=nr c2;refine av ?_;(unfold NY; rw [← bG,show ZG (Qu l_ s_) (m_.getD g1.toNat dn)=true from jT]; rfl)
   ·have jT:=c2;have c2:=nr c2;refine wn ?_;refine bS _ ?_ ?_
    ·(refine ⟨ob,ob,?_⟩; rw [← bG,show ZG (Qu l_ s_) (m_.getD g1.toNat dn)=false from jT,show (g1+1).toNat=g1.toNat+1 by omega]; rfl)
    ·exact ob
  ·refine aH (WY ob ob ob) fun v5 hv5=>?_;subst v5;refine av ?_;(unfold NY; rw [← bG,show g1.toNat=m_.length by omega,List.drop_length]; rfl)
 ·(refine ⟨ob,ob,rfl⟩)
theorem TJ {l_:(List aI)} {s_:(List Int)} (h1:l_.length≤1000) (h2:VS l_ s_) (h3:∀i,i<l_.length→(l_.getD i aJ).aM.length≤2000000):W (Jw l_ s_) (fun r=>r.2=true→VS l_ r.1∧sZ l_ r.1=sZ l_ s_+1):=by
 obtain ⟨hsl,hsv⟩:=id h2;unfold Jw;refine wm ?_;refine bF (fun (g1:(Int×(List Int))) => -1≤g1.1∧g1.1<l_.length∧g1.2.length=l_.length∧(∀j:Nat,(j:Int)≤g1.1→g1.2.getD j 0=s_.getD j 0)∧(∀j:Nat,g1.1<(j:Int)→j<l_.length→g1.2.getD j 0=0∧s_.getD j 0+1=(l_.getD j aJ).aM.length)) (fun (g1:(Int×(List Int)))=>(g1.1+1).toNat) ?_ ?_
 ·intro aj g1 dQ bS;obtain ⟨dG,bE,bG,kC,Ec⟩:=dQ;unfold Qn;refine wi (fun c1=>?_) (fun c1=>?_)
  ·have hv:=hsv g1.1.toNat om;have hc:=h3 g1.1.toNat om;have he:=kC g1.1.toNat om;have hgs:(g1.2.set g1.1.toNat (g1.2.getD g1.1.toNat 0+1)).getD g1.1.toNat 0=s_.getD g1.1.toNat 0+1:=(by rw [Sp.gq,if_pos ⟨rfl,om⟩,he]);have hgo:∀j,j≠g1.1.toNat→(g1.2.set g1.1.toNat (g1.2.getD g1.1.toNat 0+1)).getD j 0=g1.2.getD j 0:=fun j hj=>(by rw [Sp.gq,if_neg (fun e=>hj e.1)])
   refine wm ?_;refine wn ?_;unfold Gb;refine wm ?_;refine wi (fun c2=>?_) (fun c2=>?_)
   ·rw [hgs] at c2;refine av ?_;(intro _; exact ahn h2 (k:=g1.1.toNat) om (by simpa using bG) (fun j hj=>by rw [hgo j om]; exact kC j om) hgs (fun j h1 h2=>by rw [hgo j om]; exact Ec j om h2) c2)
   ·rw [hgs] at c2;refine wm ?_;refine bS _ ?_ ?_
    ·(refine ⟨ob,ob,by simpa using bG,fun j hj=>?_,fun j h1 h2=>?_⟩; (dsimp only at hj ⊢; rw [Sp.gq,if_neg om,hgo j om]; exact kC j om); (dsimp only at h1 ⊢; rw [Sp.gq]; by_cases q:j=g1.1.toNat; (rw [if_pos ⟨q,by rw [List.length_set]; omega⟩,q]; omega); (rw [if_neg (fun e=>q e.1),hgo j q]; exact Ec j om h2)))
    ·exact ob
  ·refine av ?_;(exact nofun)
 ·(refine ⟨ob,ob,by simpa using hsl,fun j _=>rfl,fun j h1 h2=>by dsimp only at h1; omega⟩)
theorem aeX {l_:(List aI)} {m_:(List bK)} (h1:eF l_=0) (h2:m_.length≤2000000) (h3:∀x∈m_,0≤x.eU∧x.eU<l_.length):W (OW l_ m_) (fun r=>∀s∈r,kD l_ s=true∧NY l_ s m_=true):=by
 have hf:=uz h1;have hsz:=size_le hf;have hlen:=hf.len;have hcb:∀i,i<l_.length→(l_.getD i aJ).aM.length≤2000000:=fun i hi=>by have:=hf.big i hi; omega
 unfold OW;refine wn ?_;refine bF (fun (g1:((List Int)×Bool×(List (List Int))))=>(g1.2.1=true→VS l_ g1.1∧g1.2.2.length≤sZ l_ g1.1)∧(∀s∈g1.2.2,kD l_ s=true∧NY l_ s m_=true)) (fun (g1:((List Int)×Bool×(List (List Int))))=>bif g1.2.1 then rJ l_ - sZ l_ g1.1+1 else 0) ?_ ?_
 ·intro aj g1 dQ bS;obtain ⟨dG,bE⟩:=dQ;unfold SS;refine bV (fun c1=>?_) (fun c1=>?_)
  ·have fU:=c1;have c1:=nr c1;obtain ⟨hvs,hln⟩:=dG fU;have hset:=ac0 hvs;have hpl:=NZ hvs;unfold Jy;refine aH (ac1 (O5 hf hset) (akH hf hset) h2 h3) fun v9 hv9=>?_;subst v9;refine bV (fun c2=>?_) (fun c2=>?_)
   ·have jT:=c2;have c2:=nr c2;have hmem:∀s∈g1.2.2++[g1.1],kD l_ s=true∧NY l_ s m_=true:=fun s hs=>by rcases List.mem_append.1 hs with h | h; exact bE s h; (rw [List.mem_singleton] at h; rw [h]; exact ⟨hset,jT⟩)
    refine wn ?_;unfold wT;refine aH (TJ om hvs hcb) fun v8 CU=>?_;refine bS _ ?_ ?_
    ·(refine ⟨fun e=>⟨(CU e).1,by have:=(CU e).2; simp only [List.length_append,List.length_singleton]; omega⟩,hmem⟩)
    ·(dsimp only; rw [fU]; cases e:v8.2 with | true=>(have:=(CU e).2; have:=NZ (CU e).1; simp only [cond_true]; omega) | false=>(simp only [cond_true,cond_false]; omega))
   ·have jT:=c2;have c2:=nr c2;unfold wT;refine aH (TJ om hvs hcb) fun v8 CU=>?_;refine bS _ ?_ ?_
    ·(refine ⟨fun e=>⟨(CU e).1,by have:=(CU e).2; dsimp only; omega⟩,bE⟩)
    ·(dsimp only; rw [fU]; cases e:v8.2 with | true=>(have:=(CU e).2; have:=NZ (CU e).1; simp only [cond_true]; omega) | false=>(simp only [cond_true,cond_false]; omega))
  ·have fU:=c1;have c1:=nr c1;refine av ?_;(exact bE)
 ·(refine ⟨fun _=>⟨aho hf,Nat.zero_le _⟩,nofun⟩)
theorem QC {l_:(List aI)} {m_:(List bK)} (h1:l_.length≤2000000) (h2:m_.length≤2000000):W (zZ l_ m_) (fun r=>r.2=0→kD l_ r.1=true∧NY l_ r.1 m_=true∧kY l_ m_=true):=by
 unfold zZ;refine aH (aaR ob ob) fun v1 hv1=>?_;subst v1;refine bV (fun c1=>?_) (fun c1=>?_)
 ·have fU:=c1;have c1:=nr c1;refine av ?_;(intro e; exact absurd e c1)
 ·have fU:=c1;have c1:=nr c1;obtain ⟨b1,b2⟩:=aiL fU;refine aH (aeX b1 h2 (ahp b2)) fun v2 hv2=>?_;refine wi (fun c2=>?_) (fun c2=>?_)
  ·refine av ?_;exact ob
  ·refine wn ?_;refine av ?_;(intro _; have q:=hv2 _ (getD_in (i:=0) [] om); exact ⟨q.1,q.2,b2⟩)
structure N7 (s:ByteArray):Prop where
 sz:0<s.size∧s.size≤16
 b0:97≤gI s 0∧gI s 0≤122
 bs:∀j:Nat,(j:Int)<s.size→gI s j=45∨(48≤gI s j∧gI s j≤57)∨(97≤gI s j∧gI s j≤122)
structure GpV (n:Int) (g:cK):Prop where
 ok:amM n g
 nw:N7 g.vU
 so:∀k:Nat,1≤k→(k:Int)<g.bO.length→g.bO.getD (k - 1) 0<g.bO.getD k 0
 fw:∀j:Nat,(j:Int)<g.ak.length→N7 (g.ak.getD j ByteArray.empty)
 fd:∀k j:Nat,j<k→(k:Int)<g.ak.length→(g.ak.getD j ByteArray.empty).toList≠(g.ak.getD k ByteArray.empty).toList
structure agz (p:bn):Prop where
 ok:aeL p
 gr:∀i:Nat,(i:Int)<p.aD.length→GpV p.bO (p.aD.getD i aG)
 nm:∀i k:Nat,k<i→(i:Int)<p.aD.length→(p.aD.getD k aG).vU.toList≠(p.aD.getD i aG).vU.toList
structure RsV (l:List d9):Prop where
 ok:aiA l
 so:∀i:Nat,(i:Int)<l.length→∀k:Nat,1≤k→(k:Int)<((l.getD i dh).dX).length→((l.getD i dh).dX).getD (k - 1) 0<((l.getD i dh).dX).getD k 0
structure BdV (b:aR):Prop where
 cl:eF b.bQ=0
 su:Sp.eF b.bB=0
 pn:agz b.aQ
 rs:RsV b.bg
 dm:aiB b.cB
def ZH (l:List Int):Prop:=∀i j:Nat,i<j→(j:Int)<l.length→l.getD i 0<l.getD j 0
theorem ao0 {l:List Int} (h:∀k:Nat,1≤k→(k:Int)<l.length→l.getD (k - 1) 0<l.getD k 0):ZH l:=by
 intro i j hij;induction j with
 | zero=>omega
 | succ j ih=>
  intro hj;have h1:=h (j+1) om hj;rw [Nat.add_sub_cancel] at h1;by_cases e:i=j
  ·rw [e]; exact h1
  ·have:=ih om om; omega
def aiM (p:bn) (x y:Int):Prop:=∀i j:Nat,(i:Int)<(p.aD.getD x.toNat aG).bO.length→(j:Int)<(p.aD.getD y.toNat aG).bO.length→(p.aD.getD x.toNat aG).bO.getD i 0≠(p.aD.getD y.toNat aG).bO.getD j 0
def amQ (p:bn) (x:Int) (f:ByteArray):Prop:=∃k:Nat,(k:Int)<(p.aD.getD x.toNat aG).ak.length∧((p.aD.getD x.toNat aG).ak.getD k ByteArray.empty).toList=f.toList
structure ac2 (p:bn) (l:List ByteArray) (gs:List Int):Prop where
 ir:∀x∈gs,0≤x∧x<p.aD.length
 off:∀k:Nat,(k:Int)<gs.length→amQ p (gs.getD k 0) (l.getD k ByteArray.empty)
 dj:∀k j:Nat,j<k→(k:Int)<gs.length→aiM p (gs.getD j 0) (gs.getD k 0)
def agA (l:List d9) (s:List Bool):Prop:=∀i:Nat,(i:Int)<l.length→s.getD i false=true→∀x∈(l.getD i dh).dX,s.getD x.toNat false=true
structure ak9 (l:List dB) (s:List Bool):Prop where
 al:∀i:Nat,(i:Int)<l.length→(l.getD i dS).fQ=true→s.getD i false=true
 pa:∀i:Nat,(i:Int)<l.length→s.getD i false=true→0≤(l.getD i dS).aN→s.getD (l.getD i dS).aN.toNat false=true
theorem amR {l:List Bool} {i j:Nat} (h:l.getD i false=true∨i=j) (hj:j<l.length):(l.set j true).getD i false=true:=by
 by_cases e:i=j
 ·subst e; rw [List.getD_eq_getElem?_getD,List.getElem?_set_self hj]; rfl
 ·rw [List.getD_eq_getElem?_getD,List.getElem?_set_ne (Ne.symm e),← List.getD_eq_getElem?_getD]; exact h.resolve_right e
theorem uE {l:List Bool} {i j:Nat} {b:Bool} (h:i≠j):(l.set j b).getD i false=l.getD i false:=by
 rw [List.getD_eq_getElem?_getD,List.getElem?_set_ne (Ne.symm h),← List.getD_eq_getElem?_getD]
theorem xH {l:List Bool} {j:Nat} {b:Bool} (hj:j<l.length):(l.set j b).getD j false=b:=by
 rw [List.getD_eq_getElem?_getD,List.getElem?_set_self hj]; rfl
def RgK (l:List dB) (s:List Bool) (k:Nat):Prop:=((l.getD k dS).fQ=true→s.getD k false=true)∧(s.getD k false=true→0≤(l.getD k dS).aN→s.getD (l.getD k dS).aN.toNat false=true)
theorem TK {p:bn} (h:agz p) {x:Int} (h0:0≤x) (h1:x<p.aD.length):ZH (p.aD.getD x.toNat aG).bO:=ao0 fun k h2 h3=>(h.gr x.toNat om).so k h2 h3
theorem WZ {g_:cK} {eY:ByteArray} (h1:g_.ak.length≤2000000):W (Af g_ eY) (fun r => -1≤r∧r<g_.ak.length∧(0≤r→(g_.ak.getD r.toNat ByteArray.empty).toList=eY.toList)∧(r<0→∀k:Nat,(k:Int)<g_.ak.length→(g_.ak.getD k ByteArray.empty).toList≠eY.toList)):=by
 unfold Af;refine bF (fun (g1:Int)=>0≤g1∧(∀k:Nat,(k:Int)<g1→(g_.ak.getD k ByteArray.empty).toList≠eY.toList)) (fun (g1:Int)=>(g_.ak.length - g1).toNat) ?_ ?_
 ·intro aj g1 dQ bS;obtain ⟨dG,bE⟩:=dQ;unfold Nv;refine wi (fun c1=>?_) (fun c1=>?_)
  ·refine wn ?_;refine bV (fun c2=>?_) (fun c2=>?_)
   ·have jT:=c2;have c2:=nr c2;refine av ?_;(refine ⟨om,om,fun _=>by simpa using jT,fun h=>by omega⟩)
   ·have jT:=c2;have c2:=nr c2;refine wn ?_;refine bS _ ?_ ?_
    ·(refine ⟨ob,dR bE dG (by simpa using jT)⟩)
    ·exact ob
  ·refine av ?_;(refine ⟨om,om,fun h=>by omega,fun _ k hk=>bE k om⟩)
 ·(refine ⟨ob,fun j hj=>by (try dsimp only at hj); omega⟩)
theorem ZI {a_:(List Int)} {b_:(List Int)} (h1:a_.length≤2000000) (h2:b_.length≤2000000) (h3:ZH a_) (h4:ZH b_):W (vH a_ b_) (fun r=>r=false→∀i j:Nat,(i:Int)<a_.length→(j:Int)<b_.length→a_.getD i 0≠b_.getD j 0):=by
 unfold vH;refine bF (fun (g1:(Int×Int))=>0≤g1.1∧0≤g1.2∧(∀i j:Nat,(i:Int)<a_.length→(j:Int)<b_.length→((i:Int)<g1.1∨(j:Int)<g1.2)→a_.getD i 0≠b_.getD j 0)) (fun (g1:(Int×Int))=>(a_.length - g1.1).toNat+(b_.length - g1.2).toNat) ?_ ?_
 ·intro aj g1 dQ bS;obtain ⟨dG,bE,bG⟩:=dQ;unfold Ea;refine bV (fun c1=>?_) (fun c1=>?_)
  ·have fU:=c1;have c1:=nr c1;refine wm ?_;refine wi (fun c2=>?_) (fun c2=>?_)
   ·refine av ?_;exact ob
   ·refine wm ?_;refine wi (fun c3=>?_) (fun c3=>?_)
    ·refine wn ?_;refine bS _ ?_ ?_
     ·(refine ⟨ob,ob,fun i j hi hj hc=>?_⟩; by_cases q:(i:Int)<g1.1∨(j:Int)<g1.2; (exact bG i j hi hj q); (have e:i=g1.1.toNat:=by (try dsimp only at hc); omega); subst e; by_cases e2:j=g1.2.toNat; (subst e2; omega); (have:=h4 g1.2.toNat j om hj); omega)
     ·exact ob
    ·refine wn ?_;refine bS _ ?_ ?_
     ·(refine ⟨ob,ob,fun i j hi hj hc=>?_⟩; by_cases q:(i:Int)<g1.1∨(j:Int)<g1.2; (exact bG i j hi hj q); (have e:j=g1.2.toNat:=by (try dsimp only at hc); omega); subst e; by_cases e2:i=g1.1.toNat; (subst e2; omega); (have:=h3 g1.1.toNat i om hi); omega)
     ·exact ob
  ·have fU:=c1;have c1:=nr c1;refine av ?_;(intro _ i j hi hj; refine bG i j hi hj ?_; simp only [Bool.and_eq_false_iff,decide_eq_false_iff_not] at fU; omega)
 ·(refine ⟨ob,ob,fun i j h1 h2 h3=>by (try dsimp only at h3); omega⟩)
theorem aaT {p_:bn} {dN:(List Int)} {g_:Int} (h1:∀g∈p_.aD,g.bO.length≤2000000∧g.ak.length≤2000000) (h2:dN.length≤2000000) (h3:∀x∈dN,0≤x∧x<p_.aD.length) (h4:0≤g_) (h5:g_<p_.aD.length) (h6:agz p_):W (uS p_ dN g_) (fun r=>r=true→∀j:Nat,(j:Int)<dN.length→aiM p_ (dN.getD j 0) g_):=by
 have hgl:=h1 _ (getD_in (i:=g_.toNat) aG om);unfold uS;refine bF (fun (g1:Int)=>0≤g1∧(∀j:Nat,(j:Int)<g1→aiM p_ (dN.getD j 0) g_)) (fun (g1:Int)=>(dN.length - g1).toNat) ?_ ?_
 ·intro aj g1 dQ bS;obtain ⟨dG,bE⟩:=dQ;unfold Gc;refine wi (fun c1=>?_) (fun c1=>?_)
  ·have hx:=h3 _ (getD_in (i:=g1.toNat) 0 om);have hgx:=h1 _ (getD_in (i:=(dN.getD g1.toNat 0).toNat) aG om);refine wm ?_;refine wm ?_;refine aH (qy fun hc=>ZI om om (TK h6 hx.1 hx.2) (TK h6 h4 h5)) fun v3 hv3=>?_;refine bV (fun c2=>?_) (fun c2=>?_)
   ·have jT:=c2;have c2:=nr c2;refine av ?_;exact ob
   ·have jT:=c2;have c2:=nr c2;refine wn ?_;refine bS _ ?_ ?_
    ·(refine ⟨ob,dR bE dG ?_⟩; rw [decide_eq_true hx.1,Bool.true_and] at jT; exact hv3 (decide_eq_true hx.1) jT)
    ·exact ob
  ·refine av ?_;(intro _ j hj; exact bE j om)
 ·(refine ⟨ob,fun j hj=>by (try dsimp only at hj); omega⟩)
theorem Xy {p_:bn} {eY:ByteArray} (h1:∀g∈p_.aD,g.bO.length≤2000000∧g.ak.length≤2000000) (h2:p_.aD.length≤2000000):W (CO p_ eY) (fun r=>r.length≤p_.aD.length∧∀x∈r,(0≤x∧x<p_.aD.length)∧amQ p_ x eY):=by
 unfold CO;refine bF (fun (g1:(Int×(List Int)))=>0≤g1.1∧g1.1≤p_.aD.length∧(g1.2.length:Int)≤g1.1∧(∀x∈g1.2,(0≤x∧x<p_.aD.length)∧amQ p_ x eY)) (fun (g1:(Int×(List Int)))=>(p_.aD.length - g1.1).toNat) ?_ ?_
 ·intro aj g1 dQ bS;obtain ⟨dG,bE,bG,kC⟩:=dQ;unfold K6;refine wi (fun c1=>?_) (fun c1=>?_)
  ·have hgl:=h1 _ (getD_in (i:=g1.1.toNat) aG om);refine wn ?_;refine aH (WZ ob) fun v3 hv3=>?_;obtain ⟨Zp,abu,abv,akr⟩:=hv3;refine wi (fun c2=>?_) (fun c2=>?_)
   ·refine wm ?_;refine bS _ ?_ ?_
    ·(refine ⟨ob,ob,ob,fun x hx=>?_⟩; rcases List.mem_append.1 hx with hx | hx; (exact kC x hx); rw [List.mem_singleton] at hx; subst hx; exact ⟨om,v3.toNat,om,abv om⟩)
    ·exact ob
   ·refine wn ?_;refine bS _ ?_ ?_
    ·exact ob
    ·exact ob
  ·refine av ?_;(refine ⟨om,kC⟩)
 ·exact ob
theorem ala {p:bn} {l:List ByteArray} {gs:List Int} {x:Int} (h:ac2 p l gs) (hx:0≤x∧x<p.aD.length) (ho:amQ p x (l.getD gs.length ByteArray.empty)) (hd:∀j:Nat,(j:Int)<gs.length→aiM p (gs.getD j 0) x):ac2 p l (gs++[x]):=by
 have e1:∀j:Nat,j<gs.length→(gs++[x]).getD j 0=gs.getD j 0:=fun j hj=>jr 0 hj;have e2:(gs++[x]).getD gs.length 0=x:=jK 0 rfl;refine ⟨fun y hy=>?_,fun k hk=>?_,fun k j hj hk=>?_⟩
 ·rcases List.mem_append.1 hy with hy | hy
  ·exact h.ir y hy
  ·rw [List.mem_singleton] at hy; rw [hy]; exact hx
 ·rw [List.length_append,List.length_singleton] at hk;by_cases q:k<gs.length
  ·rw [e1 k q]; exact h.off k om
  ·have:k=gs.length:=by omega
   subst this; rw [e2]; exact ho
 ·rw [List.length_append,List.length_singleton] at hk;by_cases q:k<gs.length
  ·rw [e1 k q,e1 j om]; exact h.dj k j hj om
  ·have:k=gs.length:=by omega
   subst this; rw [e2,e1 j om]; exact hd j om
theorem amS (bs:ByteArray):∀(n i:Nat) (r:List UInt8),bs.size - i=n→ByteArray.toList.loop bs i r=r.reverse++bs.data.toList.drop i:=by
 intro n;induction n with
 | zero=>
  intro i r h;unfold ByteArray.toList.loop;rw [if_neg om,List.drop_eq_nil_of_le (by show bs.data.toList.length≤i; rw [Array.length_toList]; show bs.size≤i; omega),List.append_nil]
 | succ n ih=>
  intro i r h;unfold ByteArray.toList.loop;rw [if_pos om,ih (i+1) _ om,List.reverse_cons,List.append_assoc];have hi:i<bs.data.toList.length:=by rw [Array.length_toList]; show i<bs.size; omega
  rw [List.drop_eq_getElem_cons hi];congr 1;show bs.get! i::_=_;congr 1;unfold ByteArray.get!;rw [Array.getElem_toList];exact getElem!_pos bs.data i _
theorem ahq (b:ByteArray):b.toList=b.data.toList:=by
 unfold ByteArray.toList;rw [amS b _ 0 [] rfl]; rfl
theorem Vy {a b:ByteArray} (h:a.toList=b.toList):a=b:=by
 rw [ahq,ahq] at h;cases a; cases b;congr;exact Array.toList_inj.1 h
theorem aqm {s:ByteArray} (h:0<s.size):(s.toList==({ data:=#[] }:ByteArray).toList)=false:=by
 rw [beq_eq_false_iff_ne];intro e;have:=Vy e;rw [this] at h;exact absurd h (by decide)
theorem QV {α:Type} {X:Nat→α} {j:Nat} {x:α}:upd X j x j=x:=aij X j x
theorem upd_ne {α:Type} {X:Nat→α} {i j:Nat} {x:α} (h:i≠j):upd X j x i=X i:=by
 unfold upd;cases e:Nat.beq i j with
 | true=>exact absurd (Nat.eq_of_beq_eq_true e) h
 | false=>rfl
def UsV (p:bn) (l:List nE):Prop:=(∀u∈l,Qx p u)∧∀k j:Nat,j<k→(k:Int)<l.length→aiM p (l.getD j fV).dF (l.getD k fV).dF
def JQ (p:Prop) (c:Int) (A:Int→Prop) (r:Int):Prop:=(p∧r=c)∨(¬p∧A r)
theorem dW {p:Prop} {c:Int} {A:Int→Prop} (h:p):JQ p c A c:=.inl ⟨h,rfl⟩
theorem aL {p:Prop} {c:Int} {A:Int→Prop} {r:Int} (h:¬p) (a:A r):JQ p c A r:=.inr ⟨h,a⟩
def Thn (A B:Int→Prop) (r:Int):Prop:=(A r∧r≠0)∨(A 0∧B r)
def Fst (n:Nat) (E:Nat→Int→Prop) (r:Int):Prop:=(∃i:Nat,i<n∧(∀k:Nat,k<i→E k 0)∧E i r∧r≠0)∨((∀k:Nat,k<n→E k 0)∧r=0)
def ED (A:Int→Prop):Prop:=∀a b,A a→A b→a=b
theorem ED.zero:ED (fun r=>r=0):=fun _ _ h k=>h.trans k.symm
theorem ED.IX {p:Prop} {c:Int} {A:Int→Prop} (h:ED A):ED (JQ p c A):=by
 rintro a b (⟨h1,h2⟩ | ⟨h1,h2⟩) (⟨h3,h4⟩ | ⟨h3,h4⟩)
 ·rw [h2,h4]
 ·exact absurd h1 h3
 ·exact absurd h3 h1
 ·exact h _ _ h2 h4
theorem ED.thn {A B:Int→Prop} (h:ED A) (k:ED B):ED (Thn A B):=by
 rintro a b (⟨h1,h2⟩ | ⟨h1,h2⟩) (⟨h3,h4⟩ | ⟨h3,h4⟩)
 ·exact h _ _ h1 h3
 ·exact absurd (h _ _ h1 h3) h2
 ·exact absurd (h _ _ h3 h1) h4
 ·exact k _ _ h2 h4
theorem ED.fst {n:Nat} {E:Nat→Int→Prop} (h:∀i,ED (E i)):ED (Fst n E):=by
 rintro a b (⟨i,h1,h2,h3,h4⟩ | ⟨h1,h2⟩) (⟨j,k1,k2,k3,k4⟩ | ⟨k1,k2⟩)
 ·rcases Nat.lt_trichotomy i j with q | q | q
  ·exact absurd (h _ _ _ h3 (k2 i q)) h4
  ·subst q; exact h _ _ _ h3 k3
  ·exact absurd (h _ _ _ k3 (h2 j q)) k4
 ·exact absurd (h _ _ _ h3 (k1 i h1)) h4
 ·exact absurd (h _ _ _ k3 (h1 j k1)) k4
 ·rw [h2,k2]
theorem Gj {A B:Int→Prop} {r:Int} (h:A r) (hr:r≠0):Thn A B r:=.inl ⟨h,hr⟩
theorem kF {A B:Int→Prop} {r:Int} (h:A 0) (k:B r):Thn A B r:=.inr ⟨h,k⟩
theorem Gl {n:Nat} {E:Nat→Int→Prop} {r:Int} {i:Nat} (hi:i<n) (h:∀k:Nat,(k:Int)<i→E k 0) (he:E i r) (hr:r≠0):Fst n E r:=.inl ⟨i,hi,fun k hk=>h k om,he,hr⟩
theorem JR {n:Nat} {E:Nat→Int→Prop} (h:∀k:Nat,k<n→E k 0):Fst n E 0:=.inr ⟨h,rfl⟩
def alb (n:Int) (g:cK):Int→Prop:=
 JQ ((g.bO.length:Int)=0∨(g.ak.length:Int)=0) 9<|
 JQ (8<(g.ak.length:Int)) 3<|
 JQ (∃j:Nat,(j:Int)<g.bO.length∧¬(0≤g.bO.getD j 0∧g.bO.getD j 0<n)) 2<|
 JQ (∃j:Nat,1≤j∧(j:Int)<g.bO.length∧g.bO.getD j 0≤g.bO.getD (j - 1) 0) 12<|
 JQ (∃j:Nat,(j:Int)<g.ak.length∧¬N7 (g.ak.getD j ByteArray.empty)) 1<|
 JQ (∃k j:Nat,j<k∧(k:Int)<g.ak.length∧(g.ak.getD j ByteArray.empty).toList=(g.ak.getD k ByteArray.empty).toList) 5<|
 fun r=>r=0
theorem alb.fun {n:Int} {g:cK}:ED (alb n g):=.IX (.IX (.IX (.IX (.IX (.IX .zero)))))
def agB (p:bn) (i:Nat):Int→Prop:=
 JQ (¬N7 (p.aD.getD i aG).vU) 1<|
 JQ (∃k:Nat,k<i∧(p.aD.getD k aG).vU.toList=(p.aD.getD i aG).vU.toList) 5<|
 alb p.bO (p.aD.getD i aG)
theorem agB.fun {p:bn} {i:Nat}:ED (agB p i):=.IX (.IX alb.fun)
def Eh (p:bn):Int→Prop:=
 JQ (p.bO<0∨64<p.bO) 2<|
 JQ (24<(p.aD.length:Int)) 3<|
 Fst p.aD.length (agB p)
theorem Eh.fun {p:bn}:ED (Eh p):=.IX (.IX (.fst fun _=>agB.fun))
theorem Gm {l:List Int} {g:Int} (h:∀j:Nat,(j:Int)<g→1≤j→l.getD (j - 1) 0<l.getD j 0) (hg:(l.length:Int)≤g):¬ ∃j:Nat,1≤j∧(j:Int)<l.length∧l.getD j 0≤l.getD (j - 1) 0:=fun ⟨j,h1,h2,h3⟩=>by
 have:=h j om h1;omega
theorem gQ {P:Nat→Prop} {n:Nat} {g:Int} (h:∀j:Nat,(j:Int)<g→P j) (hg:(n:Int)≤g):¬ ∃j:Nat,(j:Int)<n∧¬P j:=fun ⟨j,h1,h2⟩=>h2 (h j om)
theorem JU {s_:ByteArray}:W (yJ s_) (fun r=>r=true↔N7 s_):=by
 unfold yJ;refine bC (by (intro hc; have:=ZC hc; omega)) ?_;refine bC (by (intro hc; simp only [Bool.or_eq_false_iff] at hc; have:=ZC (s:=s_) (by simp only [Bool.or_eq_false_iff]; exact hc.1); omega)) ?_;refine bV (fun c1=>?_) (fun c1=>?_)
 ·have fU:=c1;have c1:=nr c1;refine av ?_;(constructor; (intro e; cases e); (rintro ⟨⟨a1,a2⟩,⟨a3,a4⟩,a5⟩; simp only [Bool.or_eq_true,decide_eq_true_eq] at fU; rcases fU with ((c | c) | c) | c; (rw [aqm a1] at c; cases c); all_goals omega))
 ·have fU:=c1;have c1:=nr c1;have hsz:0<s_.size∧s_.size≤16:=aiC fU;refine bF (fun (g1:Int)=>1≤g1∧(∀j:Nat,(j:Int)<g1→1≤j→gI s_ j=45∨(48≤gI s_ j∧gI s_ j≤57)∨(97≤gI s_ j∧gI s_ j≤122))) (fun (g1:Int)=>(s_.size - g1).toNat) ?_ ?_
  ·intro aj g1 dQ bS;obtain ⟨dG,bE⟩:=dQ;unfold SA;refine wi (fun c2=>?_) (fun c2=>?_)
   ·refine wn ?_;refine wi (fun c3=>?_) (fun c3=>?_)
    ·refine av ?_;(constructor; (intro e; cases e); (rintro ⟨_,_,a5⟩; have:=a5 g1.toNat om; omega))
    ·refine wn ?_;refine bS _ ?_ ?_
     ·(refine ⟨ob,fun j h1 h2=>?_⟩; by_cases q:(j:Int)<g1; (exact bE j q h2); (have e:j=g1.toNat:=by omega); subst e; omega)
     ·exact ob
   ·refine av ?_;(constructor; (intro _; refine ⟨om,om,fun j hj=>?_⟩; by_cases q:j=0; (subst q; exact .inr (.inr ⟨om,om⟩)); exact bE j om om); (intro _; rfl))
  ·(refine ⟨ob,fun j h1 h2=>by omega⟩)
theorem Gn {s_:ByteArray}:W (pq s_) (fun r=>r=true↔N7 s_):=by
 unfold pq;refine bC (by (intro hc; simp only [Bool.or_eq_false_iff,beq_eq_false_iff_ne] at hc; omega)) ?_;refine bC (by (intro hc; simp only [Bool.or_eq_false_iff,beq_eq_false_iff_ne] at hc; omega)) ?_;refine bV (fun c1=>?_) (fun c1=>?_)
 ·have fU:=c1;have c1:=nr c1;refine av ?_;(constructor; (intro e; cases e); (rintro ⟨a1,a3,a5⟩; omega))
 ·have fU:=c1;have c1:=nr c1;have hsz:s_.size≤16:=(by simp only [Bool.or_eq_false_iff] at fU; have:=of_decide_eq_false fU.1.1.2; omega);refine bF (fun (g1:Int)=>0≤g1∧(∀j:Nat,(j:Int)<g1→gI s_ j=45∨(48≤gI s_ j∧gI s_ j≤57)∨(97≤gI s_ j∧gI s_ j≤122))) (fun (g1:Int)=>(s_.size - g1).toNat) ?_ ?_
  ·intro aj g1 dQ bS;obtain ⟨dG,bE⟩:=dQ;unfold Ga;refine wi (fun c2=>?_) (fun c2=>?_)
   ·refine wm ?_;refine wm ?_;refine wn ?_;refine wi (fun c3=>?_) (fun c3=>?_)
    ·refine av ?_;(constructor; (intro e; cases e); (rintro ⟨_,_,a5⟩; have:=a5 g1.toNat om; omega))
    ·refine wn ?_;refine bS _ ?_ ?_
     ·(refine ⟨ob,dR bE dG om⟩)
     ·exact ob
   ·refine av ?_;(constructor; (intro _; exact ⟨om,om,fun j hj=>bE j om⟩); intro _; rfl)
  ·(refine ⟨ob,fun j hj=>by (try dsimp only at hj); omega⟩)
theorem JV {s_:(List ByteArray)} {v_:ByteArray} (h1:s_.length≤2000000):W (slices_Index_string s_ v_) (fun r=>(0≤r↔∃j:Nat,(j:Int)<s_.length∧(s_.getD j ByteArray.empty).toList=v_.toList)):=by
 unfold slices_Index_string;refine bF (fun (g1:Int)=>0≤g1∧(∀j:Nat,(j:Int)<g1→(s_.getD j ByteArray.empty).toList≠v_.toList)) (fun (g1:Int)=>(s_.length - g1).toNat) ?_ ?_
 ·intro aj g1 dQ bS;obtain ⟨dG,bE⟩:=dQ;unfold wz;refine wi (fun c1=>?_) (fun c1=>?_)
  ·refine wn ?_;refine wi (fun c2=>?_) (fun c2=>?_)
   ·refine av ?_;(constructor; (intro _; exact ⟨g1.toNat,om,c2.symm⟩); (intro _; omega))
   ·refine wn ?_;refine bS _ ?_ ?_
    ·(refine ⟨ob,dR bE dG (fun e=>c2 e.symm)⟩)
    ·exact ob
  ·refine av ?_;(constructor; (intro e; omega); (rintro ⟨j,h1,h2⟩; exact absurd h2 (bE j om)))
 ·(refine ⟨ob,fun j hj=>by (try dsimp only at hj); omega⟩)
theorem EF {s_:(List ByteArray)} {v_:ByteArray} (h1:s_.length≤2000000):W (slices_Contains_string s_ v_) (fun r=>r=true↔∃j:Nat,(j:Int)<s_.length∧(s_.getD j ByteArray.empty).toList=v_.toList):=by
 unfold slices_Contains_string;refine aH (JV ob) fun v1 hv1=>?_;refine av ?_;(rw [← hv1]; simp)
theorem aaU {ME:Int} {g_:cK} (h1:g_.bO.length≤2000000) (h2:g_.ak.length≤2000000):W (Ji ME g_) (fun r=>alb ME g_ r):=by
 unfold Ji;refine wi (fun c1=>?_) (fun c1=>?_)
 ·refine av ?_;exact dW c1
 ·refine wi (fun c2=>?_) (fun c2=>?_)
  ·refine av ?_;exact aL om (dW c2)
  ·refine bF (fun (g1:Int)=>0≤g1∧(∀j:Nat,(j:Int)<g1→0≤g_.bO.getD j 0∧g_.bO.getD j 0<ME)) (fun (g1:Int)=>(g_.bO.length - g1).toNat) ?_ ?_
   ·intro aj g1 dQ bS;obtain ⟨dG,bE⟩:=dQ;unfold Qd;refine wi (fun c3=>?_) (fun c3=>?_)
    ·refine wn ?_;refine wi (fun c4=>?_) (fun c4=>?_)
     ·refine av ?_;exact aL om (aL om (dW ⟨g1.toNat,om,om⟩))
     ·refine wn ?_;refine bS _ ?_ ?_
      ·(refine ⟨ob,dR bE dG om⟩)
      ·exact ob
    ·refine bF (fun (g2:Int)=>1≤g2∧(∀j:Nat,(j:Int)<g2→1≤j→g_.bO.getD (j - 1) 0<g_.bO.getD j 0)) (fun (g2:Int)=>(g_.bO.length - g2).toNat) ?_ ?_
     ·intro dK g2 lZ oq;obtain ⟨oH,ji⟩:=lZ;unfold MC;refine wi (fun c5=>?_) (fun c5=>?_)
      ·refine wm ?_;refine wn ?_;refine wi (fun c6=>?_) (fun c6=>?_)
       ·refine av ?_;exact aL om (aL om (aL (gQ bE om) (dW ⟨g2.toNat,om,om,by rw [show g2.toNat - 1=(g2 - 1).toNat by omega]; omega⟩)))
       ·refine wn ?_;refine oq _ ?_ ?_
        ·(refine ⟨ob,fun j h1 h2=>?_⟩; by_cases q:(j:Int)<g2; (exact ji j q h2); (have e:j=g2.toNat:=by omega); subst e; rw [show g2.toNat - 1=(g2 - 1).toNat by omega]; omega)
        ·exact ob
      ·refine bF (fun (g3:Int)=>0≤g3∧(∀j:Nat,(j:Int)<g3→N7 (g_.ak.getD j ByteArray.empty))) (fun (g3:Int)=>(g_.ak.length - g3).toNat) ?_ ?_
       ·intro jB g3 aaI ZE;obtain ⟨W9,qg⟩:=aaI;unfold MB;refine wi (fun c7=>?_) (fun c7=>?_)
        ·refine wn ?_;refine aH (JU) fun v3 hv3=>?_;refine bV (fun c8=>?_) (fun c8=>?_)
         ·have c8o:=c8;have c8:=nr c8;refine av ?_;exact aL om (aL om (aL (gQ bE om) (aL (Gm ji om) (dW ⟨g3.toNat,om,fun h=>by simp [hv3.2 h] at c8o⟩))))
         ·have c8o:=c8;have c8:=nr c8;refine wn ?_;refine ZE _ ?_ ?_
          ·(refine ⟨ob,dR qg W9 (hv3.1 (by simpa using c8o))⟩)
          ·exact ob
        ·refine bF (fun (g4:Int)=>0≤g4∧(∀k:Nat,(k:Int)<g4→∀j:Nat,j<k→(g_.ak.getD j ByteArray.empty).toList≠(g_.ak.getD k ByteArray.empty).toList)) (fun (g4:Int)=>(g_.ak.length - g4).toNat) ?_ ?_
         ·intro jm g4 Iq EB;obtain ⟨FH,lY⟩:=Iq;unfold Mx;refine wi (fun c9=>?_) (fun c9=>?_)
          ·refine wm ?_;refine aH (EF ob) fun v6 hv6=>?_;refine bV (fun c10=>?_) (fun c10=>?_)
           ·have aiH:=c10;have c10:=nr c10;refine av ?_;(exact aL om (aL om (aL (gQ bE om) (aL (Gm ji om) (aL (gQ qg om) (dW (by obtain ⟨j,h1,h2⟩:=hv6.1 c10; rw [List.length_take] at h1; rw [Vw _ _ _ _ om] at h2; exact ⟨g4.toNat,j,om,om,h2⟩)))))))
           ·have aiH:=c10;have c10:=nr c10;refine wn ?_;refine EB _ ?_ ?_
            ·(refine ⟨ob,fun k hk j hj=>?_⟩; by_cases q:(k:Int)<g4; (exact lY k q j hj); (have e:k=g4.toNat:=by omega); subst e; intro e2; have:=hv6.2 ⟨j,by rw [List.length_take]; omega,by rw [Vw _ _ _ _ om]; exact e2⟩; simp [this] at aiH)
            ·exact ob
          ·refine av ?_;(exact aL om (aL om (aL (gQ bE om) (aL (Gm ji om) (aL (gQ qg om) (aL (fun ⟨k,j,h1,h2,h3⟩=>lY k om j h1 h3) rfl))))))
         ·(refine ⟨ob,fun j h1 h2=>by omega⟩)
       ·(refine ⟨ob,fun j hj=>by (try dsimp only at hj); omega⟩)
     ·(refine ⟨ob,fun j h1 h2=>by omega⟩)
   ·(refine ⟨ob,fun j hj=>by (try dsimp only at hj); omega⟩)
theorem ZJ {p_:bn} {i_:Int} (h1:0≤i_) (h2:i_<p_.aD.length) (h3:p_.aD.length≤2000000) (h4:∀g∈p_.aD,g.bO.length≤2000000∧g.ak.length≤2000000):W (vG p_ i_) (fun r=>agB p_ i_.toNat r):=by
 have hgl:=h4 _ (getD_in (i:=i_.toNat) aG om);unfold vG;refine wn ?_;refine aH (Gn) fun v1 hv1=>?_;refine bV (fun c1=>?_) (fun c1=>?_)
 ·have fU:=c1;have c1:=nr c1;refine av ?_;exact dW (fun h=>by simp [hv1.2 h] at fU)
 ·have fU:=c1;have c1:=nr c1;refine bF (fun (g1:Int)=>0≤g1∧(∀k:Nat,(k:Int)<g1→(p_.aD.getD k aG).vU.toList≠(p_.aD.getD i_.toNat aG).vU.toList)) (fun (g1:Int)=>(i_ - g1).toNat) ?_ ?_
  ·intro aj g1 dQ bS;obtain ⟨dG,bE⟩:=dQ;unfold DU;refine wi (fun c2=>?_) (fun c2=>?_)
   ·refine wn ?_;refine wi (fun c3=>?_) (fun c3=>?_)
    ·refine av ?_;(exact aL (fun h=>h (hv1.1 (by simpa using fU))) (dW ⟨g1.toNat,om,c3⟩))
    ·refine wn ?_;refine bS _ ?_ ?_
     ·(refine ⟨ob,dR bE dG c3⟩)
     ·exact ob
   ·refine wi (fun c4=>?_) (fun c4=>?_)
    ·refine av ?_;(exact aL (fun h=>h (hv1.1 (by simpa using fU))) (aL (fun ⟨k,h1,h2⟩=>bE k om h2) (dW c4)))
    ·refine wi (fun c5=>?_) (fun c5=>?_)
     ·refine av ?_;(exact aL (fun h=>h (hv1.1 (by simpa using fU))) (aL (fun ⟨k,h1,h2⟩=>bE k om h2) (aL om (dW c5))))
     ·refine bF (fun (g2:Int)=>0≤g2∧(∀j:Nat,(j:Int)<g2→0≤(p_.aD.getD i_.toNat aG).bO.getD j 0∧(p_.aD.getD i_.toNat aG).bO.getD j 0<p_.bO)) (fun (g2:Int)=>((p_.aD.getD i_.toNat aG).bO.length - g2).toNat) ?_ ?_
      ·intro dK g2 lZ oq;obtain ⟨oH,ji⟩:=lZ;unfold AZ;refine wi (fun c6=>?_) (fun c6=>?_)
       ·refine wm ?_;refine wi (fun c7=>?_) (fun c7=>?_)
        ·refine av ?_;exact aL (fun h=>h (hv1.1 (by simpa using fU))) (aL (fun ⟨k,h1,h2⟩=>bE k om h2) (aL om (aL om (dW ⟨g2.toNat,om,om⟩))))
        ·refine wn ?_;refine oq _ ?_ ?_
         ·(refine ⟨ob,dR ji oH om⟩)
         ·exact ob
       ·refine bF (fun (g3:Int)=>1≤g3∧(∀j:Nat,(j:Int)<g3→1≤j→(p_.aD.getD i_.toNat aG).bO.getD (j - 1) 0<(p_.aD.getD i_.toNat aG).bO.getD j 0)) (fun (g3:Int)=>((p_.aD.getD i_.toNat aG).bO.length - g3).toNat) ?_ ?_
        ·intro jB g3 aaI ZE;obtain ⟨W9,qg⟩:=aaI;unfold AY;refine wi (fun c8=>?_) (fun c8=>?_)
         ·refine wm ?_;refine wn ?_;refine wi (fun c9=>?_) (fun c9=>?_)
          ·refine av ?_;exact aL (fun h=>h (hv1.1 (by simpa using fU))) (aL (fun ⟨k,h1,h2⟩=>bE k om h2) (aL om (aL om (aL (gQ ji om) (dW ⟨g3.toNat,om,om,by rw [show g3.toNat - 1=(g3 - 1).toNat by omega]; omega⟩)))))
          ·refine wn ?_;refine ZE _ ?_ ?_
           ·(refine ⟨ob,fun j h1 h2=>?_⟩; by_cases q:(j:Int)<g3; (exact qg j q h2); (have e:j=g3.toNat:=by omega); subst e; rw [show g3.toNat - 1=(g3 - 1).toNat by omega]; omega)
           ·exact ob
         ·refine bF (fun (g4:Int)=>0≤g4∧(∀j:Nat,(j:Int)<g4→N7 ((p_.aD.getD i_.toNat aG).ak.getD j ByteArray.empty))) (fun (g4:Int)=>((p_.aD.getD i_.toNat aG).ak.length - g4).toNat) ?_ ?_
          ·intro jm g4 Iq EB;obtain ⟨FH,lY⟩:=Iq;unfold AX;refine wi (fun c10=>?_) (fun c10=>?_)
           ·refine wn ?_;refine aH (Gn) fun v4 hv4=>?_;refine bV (fun c11=>?_) (fun c11=>?_)
            ·have ao2:=c11;have c11:=nr c11;refine av ?_;exact aL (fun h=>h (hv1.1 (by simpa using fU))) (aL (fun ⟨k,h1,h2⟩=>bE k om h2) (aL om (aL om (aL (gQ ji om) (aL (Gm qg om) (dW ⟨g4.toNat,om,fun h=>by simp [hv4.2 h] at ao2⟩))))))
            ·have ao2:=c11;have c11:=nr c11;refine wn ?_;refine EB _ ?_ ?_
             ·(refine ⟨ob,dR lY FH (hv4.1 (by simpa using ao2))⟩)
             ·exact ob
           ·refine bF (fun (g5:Int)=>0≤g5∧(∀k:Nat,(k:Int)<g5→∀j:Nat,j<k→((p_.aD.getD i_.toNat aG).ak.getD j ByteArray.empty).toList≠((p_.aD.getD i_.toNat aG).ak.getD k ByteArray.empty).toList)) (fun (g5:Int)=>((p_.aD.getD i_.toNat aG).ak.length - g5).toNat) ?_ ?_
            ·intro j5 g5 Tx Rx;obtain ⟨Qy,FE⟩:=Tx;unfold AU;refine wi (fun c12=>?_) (fun c12=>?_)
             ·refine bF (fun (g8:Int)=>0≤g8∧(∀j:Nat,(j:Int)<g8→((p_.aD.getD i_.toNat aG).ak.getD j ByteArray.empty).toList≠((p_.aD.getD i_.toNat aG).ak.getD g5.toNat ByteArray.empty).toList)) (fun (g8:Int)=>(g5 - g8).toNat) ?_ ?_
              ·intro WO g8 amN akY;obtain ⟨anB,alc⟩:=amN;unfold AQ;refine wi (fun c13=>?_) (fun c13=>?_)
               ·refine wm ?_;refine wi (fun c14=>?_) (fun c14=>?_)
                ·refine av ?_;(exact aL (fun h=>h (hv1.1 (by simpa using fU))) (aL (fun ⟨k,h1,h2⟩=>bE k om h2) (aL om (aL om (aL (gQ ji om) (aL (Gm qg om) (aL (gQ lY om) (dW ⟨g5.toNat,g8.toNat,om,om,c14⟩))))))))
                ·refine wn ?_;refine akY _ ?_ ?_
                 ·(refine ⟨ob,dR alc anB c14⟩)
                 ·exact ob
               ·refine wn ?_;refine Rx _ ?_ ?_
                ·(refine ⟨ob,fun k hk j hj=>?_⟩; by_cases q:(k:Int)<g5; (exact FE k q j hj); (have e:k=g5.toNat:=by omega); subst e; exact alc j om)
                ·exact ob
              ·(refine ⟨ob,fun j hj=>by (try dsimp only at hj); omega⟩)
             ·refine av ?_;(exact aL (fun h=>h (hv1.1 (by simpa using fU))) (aL (fun ⟨k,h1,h2⟩=>bE k om h2) (aL om (aL om (aL (gQ ji om) (aL (Gm qg om) (aL (gQ lY om) (aL (fun ⟨k,j,h1,h2,h3⟩=>FE k om j h1 h3) rfl))))))))
            ·(refine ⟨ob,fun j h1 h2=>by omega⟩)
          ·(refine ⟨ob,fun j hj=>by (try dsimp only at hj); omega⟩)
        ·(refine ⟨ob,fun j h1 h2=>by omega⟩)
      ·(refine ⟨ob,fun j hj=>by (try dsimp only at hj); omega⟩)
  ·(refine ⟨ob,fun j hj=>by (try dsimp only at hj); omega⟩)
theorem Gp {l:List Int} {n:Nat} {x:Int} (hn:n≤l.length):(l.take n).contains x=true↔∃k:Nat,k<n∧l.getD k 0=x:=by
 rw [List.contains_iff_mem,List.mem_take_iff_getElem];constructor
 ·rintro ⟨i,hi,e⟩;exact ⟨i,om,by rw [List.getD_eq_getElem?_getD,List.getElem?_eq_getElem om]; exact e⟩
 ·rintro ⟨k,hk,e⟩;rw [List.getD_eq_getElem?_getD,List.getElem?_eq_getElem om] at e;exact ⟨k,om,e⟩
def RsE (l:List d9) (i:Nat):Int→Prop:=
 JQ (∃j:Nat,(j:Int)<((l.getD i dh).dX).length∧¬(0≤((l.getD i dh).dX).getD j 0∧((l.getD i dh).dX).getD j 0<(i:Int))) 2<|
 JQ (∃j:Nat,1≤j∧(j:Int)<((l.getD i dh).dX).length∧((l.getD i dh).dX).getD j 0≤((l.getD i dh).dX).getD (j - 1) 0) 12<|
 fun r=>r=0
def RsA (l:List d9):Int→Prop:=JQ (32<(l.length:Int)) 3<|Fst l.length (RsE l)
theorem RsA.fun {l:List d9}:ED (RsA l):=.IX (.fst fun _=>.IX (.IX .zero))
theorem tT {p:Prop} {c:Int} {A:Int→Prop} (hc:c≠0) (h:JQ p c A 0):¬p∧A 0:=by
 rcases h with ⟨_,h⟩ | h
 ·exact absurd h.symm hc
 ·exact h
theorem ald {n:Nat} {E:Nat→Int→Prop} (h:Fst n E 0):∀k,k<n→E k 0:=by
 rcases h with ⟨_,_,_,_,h⟩ | h
 ·exact absurd rfl h
 ·exact h.1
theorem RsA.ok {l:List d9} (h:RsA l 0):aiA l:=by
 obtain ⟨h1,h2⟩:=tT (by decide) h;refine ⟨om,fun i hi=>jG 0 fun j hj=>?_⟩;obtain ⟨h3,_⟩:=tT (by decide) (ald h2 i hi);by_cases q:0≤((l.getD i dh).dX).getD j 0∧((l.getD i dh).dX).getD j 0<(i:Int)
 ·exact q
 ·exact absurd ⟨j,om,q⟩ h3
def ale (l:List d9) (s:List Bool):Prop:=(s.length:Int)=l.length∧∀i:Nat,(i:Int)<l.length→∀j:Nat,(j:Int)<((l.getD i dh).dX).length→s.getD i false=true→s.getD (((l.getD i dh).dX).getD j 0).toNat false=true
def DmA (l:List dB):Int→Prop:=JQ (16<(l.length:Int)) 3<|JQ (∃i:Nat,(i:Int)<l.length∧¬(-1≤(l.getD i dS).aN∧(l.getD i dS).aN<(i:Int))) 2<|fun r=>r=0
theorem DmA.fun {l:List dB}:ED (DmA l):=.IX (.IX .zero)
theorem DmA.ok {l:List dB} (h:DmA l 0):aiB l:=by
 obtain ⟨h1,h2⟩:=tT (by decide) h;obtain ⟨h3,_⟩:=tT (by decide) h2;refine ⟨om,fun i hi=>?_⟩;by_cases q : -1≤(l.getD i dS).aN∧(l.getD i dS).aN<(i:Int)
 ·exact q
 ·exact absurd ⟨i,om,q⟩ h3
def DgP (l:List dB) (s:List Bool) (i:Nat):Prop:=((l.getD i dS).fQ=true→s.getD i false=true)∧(s.getD i false=true→0≤(l.getD i dS).aN→s.getD (l.getD i dS).aN.toNat false=true)
def RgP (l:List dB) (s:List Bool):Prop:=(s.length:Int)=l.length∧∀i:Nat,(i:Int)<l.length→DgP l s i
def EG (l:List aK) (m:List Int):Prop:=∀i:Nat,(i:Int)<m.length→(0≤m.getD i 0∧m.getD i 0<l.length)∧∀k:Nat,k<i→m.getD k 0≠m.getD i 0
def alf (b:aR) (l:List aK) (g:bL):Prop:=((g.dD.length:Int)=b.bQ.length∧(g.eZ.On.length:Int)=b.bB.length∧(g.eZ.dP.length:Int)=b.bB.length∧(g.eu.length:Int)=b.bg.length∧(g.fA.length:Int)=b.cB.length)∧
 (∀i:Nat,(i:Int)<g.dD.length→0≤g.dD.getD i 0∧g.dD.getD i 0<(b.bQ.getD i aJ).aM.length)∧∀i:Nat,(i:Int)<g.dZ.length → -1≤(g.dZ.getD i bH).iE∧(g.dZ.getD i bH).iE<l.length
theorem QD {p_:bn} (h1:∀g∈p_.aD,g.bO.length≤2000000∧g.ak.length≤2000000):W (uL p_) (fun r=>Eh p_ r):=by
 unfold uL;refine wi (fun c1=>?_) (fun c1=>?_)
 ·refine av ?_;exact dW c1
 ·refine wi (fun c2=>?_) (fun c2=>?_)
  ·refine av ?_;exact aL om (dW c2)
  ·refine bF (fun (g1:(Int×(qo→Option Int)))=>0≤g1.1∧(∀j:Nat,(j:Int)<g1.1→agB p_ j 0)∧(∀s:ByteArray,BS g1.2 (.s s)≠0↔∃k:Nat,(k:Int)<g1.1∧(p_.aD.getD k aG).vU=s)) (fun (g1:(Int×(qo→Option Int)))=>(p_.aD.length - g1.1).toNat) ?_ ?_
   ·intro aj g1 dQ bS;obtain ⟨dG,bE,bG⟩:=dQ;unfold Qe;refine wi (fun c3=>?_) (fun c3=>?_)
    ·have hgl:=h1 _ (getD_in (i:=g1.1.toNat) aG om);refine wn ?_;refine aH (JU) fun v5 hv5=>?_;refine bV (fun c4=>?_) (fun c4=>?_)
     ·have rZ:=c4;have c4:=nr c4;refine av ?_;(exact aL om (aL om (Gl (i:=g1.1.toNat) om (fun k hk=>bE k om) (dW (fun h=>by simp [hv5.2 h] at rZ)) (by decide))))
     ·have rZ:=c4;have c4:=nr c4;refine wi (fun c5=>?_) (fun c5=>?_)
      ·refine av ?_;(exact aL om (aL om (Gl (i:=g1.1.toNat) om (fun k hk=>bE k om) (aL (fun h=>h (hv5.1 (by simpa using rZ))) (dW (by obtain ⟨k,h1,h2⟩:=(bG _).1 c5; exact ⟨k,om,by rw [h2]⟩))) (by decide))))
      ·refine aH (aaU hgl.1 hgl.2) fun v6 hv6=>?_;refine bV (fun c6=>?_) (fun c6=>?_)
       ·have c6o:=c6;have c6:=nr c6;refine av ?_;(exact aL om (aL om (Gl (i:=g1.1.toNat) om (fun k hk=>bE k om) (aL (fun h=>h (hv5.1 (by simpa using rZ))) (aL (fun ⟨k,h1,h2⟩=>(bG _).2 ⟨k,om,Vy h2⟩ c5) hv6)) (c6))))
       ·have c6o:=c6;have c6:=nr c6;refine wn ?_;refine bS _ ?_ ?_
        ·(refine ⟨ob,dR bE dG (aL (fun h=>h (hv5.1 (by simpa using rZ))) (aL (fun ⟨k,h1,h2⟩=>(bG _).2 ⟨k,om,Vy h2⟩ c5) (by have e:v6=0:=(by simpa using c6o); rw [e] at hv6; exact hv6))),fun s=>?_⟩; dsimp only; rw [yU]; by_cases q:(.s s:qo)=.s (p_.aD.getD g1.1.toNat aG).vU; (rw [if_pos q]; constructor; (intro _; exact ⟨g1.1.toNat,om,(qo.s.inj q).symm⟩); (intro _; decide)); (rw [if_neg q,bG]; constructor; (rintro ⟨k,h1,h2⟩; exact ⟨k,om,h2⟩); (rintro ⟨k,h1,h2⟩; refine ⟨k,?_,h2⟩; by_cases e:(k:Int)<g1.1; (exact e); exfalso; apply q; rw [← h2,show k=g1.1.toNat by omega])))
        ·exact ob
    ·refine av ?_;(exact aL om (aL om (JR (fun k hk=>bE k om))))
   ·(refine ⟨ob,fun j hj=>by dsimp only at hj; omega,fun s=>?_⟩; constructor; (intro h; exact absurd rfl h); (rintro ⟨k,h1,_⟩; dsimp only at h1; omega))
theorem N8 {p_:bn} (h1:∀g∈p_.aD,g.bO.length≤2000000∧g.ak.length≤2000000):W (oD p_) (fun r=>Eh p_ r):=by
 unfold oD;refine wi (fun c1=>?_) (fun c1=>?_)
 ·refine av ?_;exact dW c1
 ·refine wi (fun c2=>?_) (fun c2=>?_)
  ·refine av ?_;exact aL om (dW c2)
  ·refine bF (fun (g1:Int)=>0≤g1∧(∀j:Nat,(j:Int)<g1→agB p_ j 0)) (fun (g1:Int)=>(p_.aD.length - g1).toNat) ?_ ?_
   ·intro aj g1 dQ bS;obtain ⟨dG,bE⟩:=dQ;unfold DV;refine wi (fun c3=>?_) (fun c3=>?_)
    ·refine aH (ZJ om om om h1) fun v3 hv3=>?_;refine bV (fun c4=>?_) (fun c4=>?_)
     ·have rZ:=c4;have c4:=nr c4;refine av ?_;(exact aL om (aL om (Gl (i:=g1.toNat) om (fun k hk=>bE k om) (hv3) (c4))))
     ·have rZ:=c4;have c4:=nr c4;refine wn ?_;refine bS _ ?_ ?_
      ·(refine ⟨ob,dR bE dG (by have e:v3=0:=(by simpa using rZ); rw [e] at hv3; exact hv3)⟩)
      ·exact ob
    ·refine av ?_;(exact aL om (aL om (JR (fun k hk=>bE k om))))
   ·(refine ⟨ob,fun j hj=>by (try dsimp only at hj); omega⟩)
theorem Ei {l_:(List d9)} (h1:∀g∈l_,g.dX.length≤2000000):W (vg l_) (fun r=>RsA l_ r):=by
 unfold vg;refine wi (fun c1=>?_) (fun c1=>?_)
 ·refine av ?_;exact dW c1
 ·refine bF (fun (g1:Int)=>0≤g1∧(∀j:Nat,(j:Int)<g1→RsE l_ j 0)) (fun (g1:Int)=>(l_.length - g1).toNat) ?_ ?_
  ·intro aj g1 dQ bS;obtain ⟨dG,bE⟩:=dQ;unfold MG;refine wi (fun c2=>?_) (fun c2=>?_)
   ·have hgl:=h1 _ (getD_in (i:=g1.toNat) dh om);refine wn ?_;refine bF (fun (g6:Int)=>0≤g6∧(∀j:Nat,(j:Int)<g6→0≤((l_.getD g1.toNat dh).dX).getD j 0∧((l_.getD g1.toNat dh).dX).getD j 0<((g1.toNat:Nat):Int))) (fun (g6:Int)=>(((l_.getD g1.toNat dh).dX).length - g6).toNat) ?_ ?_
    ·intro jE g6 JO Gi;obtain ⟨FD,rH⟩:=JO;unfold MF;refine wi (fun c3=>?_) (fun c3=>?_)
     ·refine wn ?_;refine wi (fun c4=>?_) (fun c4=>?_)
      ·refine av ?_;exact aL om (Gl (i:=g1.toNat) om (fun k hk=>bE k om) (dW ⟨g6.toNat,om,om⟩) (by decide))
      ·refine wn ?_;refine Gi _ ?_ ?_
       ·(refine ⟨ob,dR rH FD om⟩)
       ·exact ob
     ·refine bF (fun (g7:Int)=>1≤g7∧(∀j:Nat,(j:Int)<g7→1≤j→((l_.getD g1.toNat dh).dX).getD (j - 1) 0<((l_.getD g1.toNat dh).dX).getD j 0)) (fun (g7:Int)=>(((l_.getD g1.toNat dh).dX).length - g7).toNat) ?_ ?_
      ·intro mW g7 Xv Tz;obtain ⟨ZL,BO⟩:=Xv;unfold Kh;refine wi (fun c5=>?_) (fun c5=>?_)
       ·refine wm ?_;refine wn ?_;refine wi (fun c6=>?_) (fun c6=>?_)
        ·refine av ?_;exact aL om (Gl (i:=g1.toNat) om (fun k hk=>bE k om) (aL (gQ rH om) (dW ⟨g7.toNat,om,om,by rw [show g7.toNat - 1=(g7 - 1).toNat by omega]; omega⟩)) (by decide))
        ·refine wn ?_;refine Tz _ ?_ ?_
         ·(refine ⟨ob,fun j h1 h2=>?_⟩; by_cases q:(j:Int)<g7; (exact BO j q h2); (have e:j=g7.toNat:=by omega); subst e; rw [show g7.toNat - 1=(g7 - 1).toNat by omega]; omega)
         ·exact ob
       ·refine wn ?_;refine bS _ ?_ ?_
        ·(refine ⟨ob,dR bE dG (aL (gQ rH om) (aL (Gm BO om) rfl))⟩)
        ·exact ob
      ·(refine ⟨ob,fun j h1 h2=>by omega⟩)
    ·(refine ⟨ob,fun j hj=>by (try dsimp only at hj); omega⟩)
   ·refine av ?_;exact aL om (JR fun k hk=>bE k om)
  ·(refine ⟨ob,fun j hj=>by (try dsimp only at hj); omega⟩)
theorem N9 {l_:(List d9)} (h1:∀g∈l_,g.dX.length≤2000000):W (oF l_) (fun r=>RsA l_ r):=by
 unfold oF;refine wi (fun c1=>?_) (fun c1=>?_)
 ·refine av ?_;exact dW c1
 ·refine bF (fun (g1:Int)=>0≤g1∧(∀j:Nat,(j:Int)<g1→RsE l_ j 0)) (fun (g1:Int)=>(l_.length - g1).toNat) ?_ ?_
  ·intro aj g1 dQ bS;obtain ⟨dG,bE⟩:=dQ;unfold DX;refine wi (fun c2=>?_) (fun c2=>?_)
   ·have hgl:=h1 _ (getD_in (i:=g1.toNat) dh om);refine bF (fun (g6:Int)=>0≤g6∧(∀j:Nat,(j:Int)<g6→0≤((l_.getD g1.toNat dh).dX).getD j 0∧((l_.getD g1.toNat dh).dX).getD j 0<((g1.toNat:Nat):Int))) (fun (g6:Int)=>(((l_.getD g1.toNat dh).dX).length - g6).toNat) ?_ ?_
    ·intro jE g6 JO Gi;obtain ⟨FD,rH⟩:=JO;unfold DW;refine wn ?_;refine wi (fun c3=>?_) (fun c3=>?_)
     ·refine wm ?_;refine wm ?_;refine wi (fun c4=>?_) (fun c4=>?_)
      ·refine av ?_;exact aL om (Gl (i:=g1.toNat) om (fun k hk=>bE k om) (dW ⟨g6.toNat,om,om⟩) (by decide))
      ·refine wn ?_;refine Gi _ ?_ ?_
       ·(refine ⟨ob,dR rH FD om⟩)
       ·exact ob
     ·refine bF (fun (g7:Int)=>1≤g7∧(∀j:Nat,(j:Int)<g7→1≤j→((l_.getD g1.toNat dh).dX).getD (j - 1) 0<((l_.getD g1.toNat dh).dX).getD j 0)) (fun (g7:Int)=>(((l_.getD g1.toNat dh).dX).length - g7).toNat) ?_ ?_
      ·intro mW g7 Xv Tz;obtain ⟨ZL,BO⟩:=Xv;unfold A8;refine wn ?_;refine wi (fun c5=>?_) (fun c5=>?_)
       ·refine wm ?_;refine wm ?_;refine wn ?_;refine wi (fun c6=>?_) (fun c6=>?_)
        ·refine av ?_;exact aL om (Gl (i:=g1.toNat) om (fun k hk=>bE k om) (aL (gQ rH om) (dW ⟨g7.toNat,om,om,by rw [show g7.toNat - 1=(g7 - 1).toNat by omega]; omega⟩)) (by decide))
        ·refine wn ?_;refine Tz _ ?_ ?_
         ·(refine ⟨ob,fun j h1 h2=>?_⟩; by_cases q:(j:Int)<g7; (exact BO j q h2); (have e:j=g7.toNat:=by omega); subst e; rw [show g7.toNat - 1=(g7 - 1).toNat by omega]; omega)
         ·exact ob
       ·refine wn ?_;refine bS _ ?_ ?_
        ·(refine ⟨ob,dR bE dG (aL (gQ rH om) (aL (Gm BO om) rfl))⟩)
        ·exact ob
      ·(refine ⟨ob,fun j h1 h2=>by omega⟩)
    ·(refine ⟨ob,fun j hj=>by (try dsimp only at hj); omega⟩)
   ·refine av ?_;exact aL om (JR fun k hk=>bE k om)
  ·(refine ⟨ob,fun j hj=>by (try dsimp only at hj); omega⟩)
theorem Xz {l_:(List d9)} {dL:(List Bool)} (h1:aiA l_) (h2:∀g∈l_,g.dX.length≤2000000):W (Ct l_ dL) (fun r=>r=true↔ale l_ dL):=by
 obtain ⟨p1,p2⟩:=h1;unfold Ct;refine wi (fun c1=>?_) (fun c1=>?_)
 ·refine av ?_;(constructor; (intro e; cases e); (rintro ⟨a,_⟩; omega))
 ·refine bF (fun (g1:Int)=>0≤g1∧(∀i:Nat,(i:Int)<g1→∀j:Nat,(j:Int)<((l_.getD i dh).dX).length→dL.getD i false=true→dL.getD (((l_.getD i dh).dX).getD j 0).toNat false=true)) (fun (g1:Int)=>(l_.length - g1).toNat) ?_ ?_
  ·intro aj g1 dQ bS;obtain ⟨dG,bE⟩:=dQ;unfold KD;refine wi (fun c2=>?_) (fun c2=>?_)
   ·have hgl:=h2 _ (getD_in (i:=g1.toNat) dh om);refine wn ?_;refine bF (fun (g4:Int)=>0≤g4∧(∀j:Nat,(j:Int)<g4→dL.getD g1.toNat false=true→dL.getD (((l_.getD g1.toNat dh).dX).getD j 0).toNat false=true)) (fun (g4:Int)=>(((l_.getD g1.toNat dh).dX).length - g4).toNat) ?_ ?_
    ·intro jm g4 Iq EB;obtain ⟨FH,lY⟩:=Iq;unfold KC;refine wi (fun c3=>?_) (fun c3=>?_)
     ·have hx:=p2 g1.toNat om _ (getD_in (i:=g4.toNat) 0 om);refine wm ?_;refine wn ?_;refine bV (fun c4=>?_) (fun c4=>?_)
      ·have rZ:=c4;have c4:=nr c4;refine av ?_;(constructor; (intro e; cases e); (rintro ⟨_,a⟩; simp only [Bool.and_eq_true,Bool.not_eq_true'] at rZ; have:=a g1.toNat om g4.toNat om rZ.1; rw [this] at rZ; cases rZ.2))
      ·have rZ:=c4;have c4:=nr c4;refine wn ?_;refine EB _ ?_ ?_
       ·(refine ⟨ob,fun j h1 hr=>?_⟩; by_cases q:(j:Int)<g4; (exact lY j q hr); (have e:j=g4.toNat:=by omega); subst e; simp only [hr,Bool.true_and,Bool.not_eq_false'] at rZ; exact rZ)
       ·exact ob
     ·refine wn ?_;refine bS _ ?_ ?_
      ·(refine ⟨ob,fun i hi j hj hr=>?_⟩; by_cases q:(i:Int)<g1; (exact bE i q j hj hr); (have e:i=g1.toNat:=by omega); subst e; exact lY j om hr)
      ·exact ob
    ·(refine ⟨ob,fun j h1 h2=>by omega⟩)
   ·refine av ?_;(constructor; (intro _; exact ⟨om,fun i hi=>bE i om⟩); (intro _; rfl))
  ·(refine ⟨ob,fun j h1 h2=>by omega⟩)
theorem XA {l_:(List d9)} {dL:(List Bool)} (h1:∀g∈l_,g.dX.length≤2000000):W (Cu l_ dL) (fun r=>(r=true↔RsA l_ 0∧ale l_ dL)):=by
 unfold Cu;refine aH (Ei ob) fun v1 hv1=>?_;refine aH (qy fun hc=>Xz (by have e:v1=0:=(by simpa using hc); rw [e] at hv1; exact hv1.ok) h1) fun v2 hv2=>?_;refine av ?_;(constructor; (intro hr; simp only [Bool.and_eq_true] at hr; have e:v1=0:=(by simpa using hr.1); exact ⟨e ▸ hv1,(hv2 hr.1).1 hr.2⟩); (rintro ⟨a,b⟩; have e:=RsA.fun _ _ hv1 a; subst e; have:=(hv2 rfl).2 b; rw [this]; rfl))
theorem XB {l_:(List d9)} {dL:(List Bool)} (h1:∀g∈l_,g.dX.length≤2000000):W (CG l_ dL) (fun r=>(r=true↔RsA l_ 0∧ale l_ dL)):=by
 unfold CG;refine aH (N9 ob) fun v1 hv1=>?_;refine wi (fun c1=>?_) (fun c1=>?_)
 ·refine av ?_;(constructor; (intro e; cases e); (rintro ⟨a,b,_⟩; have e:=RsA.fun _ _ hv1 a; omega))
 ·have hok:RsA l_ 0:=(by have e:v1=0:=om; rw [e] at hv1; exact hv1);obtain ⟨p1,p2⟩:=hok.ok;refine bF (fun (g1:Int)=>0≤g1∧(∀i:Nat,(i:Int)<g1→∀j:Nat,(j:Int)<((l_.getD i dh).dX).length→dL.getD i false=true→dL.getD (((l_.getD i dh).dX).getD j 0).toNat false=true)) (fun (g1:Int)=>(l_.length - g1).toNat) ?_ ?_
  ·intro aj g1 dQ bS;obtain ⟨dG,bE⟩:=dQ;unfold KZ;refine wi (fun c2=>?_) (fun c2=>?_)
   ·have hgl:=h1 _ (getD_in (i:=g1.toNat) dh om);refine bF (fun (g4:Int)=>0≤g4∧(∀j:Nat,(j:Int)<g4→dL.getD g1.toNat false=true→dL.getD (((l_.getD g1.toNat dh).dX).getD j 0).toNat false=true)) (fun (g4:Int)=>(((l_.getD g1.toNat dh).dX).length - g4).toNat) ?_ ?_
    ·intro jm g4 Iq EB;obtain ⟨FH,lY⟩:=Iq;unfold KY;refine wn ?_;refine wi (fun c3=>?_) (fun c3=>?_)
     ·have hx:=p2 g1.toNat om _ (getD_in (i:=g4.toNat) 0 om);refine wm ?_;refine wm ?_;refine bV (fun c4=>?_) (fun c4=>?_)
      ·have rZ:=c4;have c4:=nr c4;refine av ?_;(constructor; (intro e; cases e); (rintro ⟨_,_,a⟩; simp only [Bool.and_eq_true,Bool.not_eq_true'] at rZ; have:=a g1.toNat om g4.toNat om rZ.1; rw [this] at rZ; cases rZ.2))
      ·have rZ:=c4;have c4:=nr c4;refine wn ?_;refine EB _ ?_ ?_
       ·(refine ⟨ob,fun j h1 hr=>?_⟩; by_cases q:(j:Int)<g4; (exact lY j q hr); (have e:j=g4.toNat:=by omega); subst e; simp only [hr,Bool.true_and,Bool.not_eq_false'] at rZ; exact rZ)
       ·exact ob
     ·refine wn ?_;refine bS _ ?_ ?_
      ·(refine ⟨ob,fun i hi j hj hr=>?_⟩; by_cases q:(i:Int)<g1; (exact bE i q j hj hr); (have e:i=g1.toNat:=by omega); subst e; exact lY j om hr)
      ·exact ob
    ·(refine ⟨ob,fun j h1 h2=>by omega⟩)
   ·refine av ?_;(constructor; (intro _; exact ⟨hok,om,fun i hi=>bE i om⟩); (intro _; rfl))
  ·(refine ⟨ob,fun j h1 h2=>by omega⟩)
theorem Bj {l_:(List dB)}:W (rQ l_) (fun r=>DmA l_ r):=by
 unfold rQ;refine wi (fun c1=>?_) (fun c1=>?_)
 ·refine av ?_;exact dW c1
 ·refine bF (fun (g1:Int)=>0≤g1∧(∀j:Nat,(j:Int)<g1 → -1≤(l_.getD j dS).aN∧(l_.getD j dS).aN<(j:Int))) (fun (g1:Int)=>(l_.length - g1).toNat) ?_ ?_
  ·intro aj g1 dQ bS;obtain ⟨dG,bE⟩:=dQ;unfold Ki;refine wi (fun c2=>?_) (fun c2=>?_)
   ·refine wn ?_;refine wi (fun c3=>?_) (fun c3=>?_)
    ·refine av ?_;exact aL om (dW ⟨g1.toNat,om,om⟩)
    ·refine wn ?_;refine bS _ ?_ ?_
     ·(refine ⟨ob,dR bE dG om⟩)
     ·exact ob
   ·refine av ?_;exact aL om (aL (gQ bE om) rfl)
  ·(refine ⟨ob,fun j hj=>by (try dsimp only at hj); omega⟩)
theorem Oa {l_:(List dB)}:W (oG l_) (fun r=>DmA l_ r):=by
 unfold oG;refine wi (fun c1=>?_) (fun c1=>?_)
 ·refine av ?_;exact dW c1
 ·refine bF (fun (g1:Int)=>0≤g1∧(∀j:Nat,(j:Int)<g1 → -1≤(l_.getD j dS).aN∧(l_.getD j dS).aN<(j:Int))) (fun (g1:Int)=>(l_.length - g1).toNat) ?_ ?_
  ·intro aj g1 dQ bS;obtain ⟨dG,bE⟩:=dQ;unfold DY;refine wi (fun c2=>?_) (fun c2=>?_)
   ·refine wm ?_;refine wi (fun c3=>?_) (fun c3=>?_)
    ·refine av ?_;exact aL om (dW ⟨g1.toNat,om,om⟩)
    ·refine wn ?_;refine bS _ ?_ ?_
     ·(refine ⟨ob,dR bE dG om⟩)
     ·exact ob
   ·refine av ?_;exact aL om (aL (gQ bE om) rfl)
  ·(refine ⟨ob,fun j hj=>by (try dsimp only at hj); omega⟩)
theorem XC {l_:(List dB)} {qC:(List Bool)} (h1:aiB l_):W (Cv l_ qC) (fun r=>r=true↔RgP l_ qC):=by
 obtain ⟨p1,p2⟩:=h1;unfold Cv;refine wi (fun c1=>?_) (fun c1=>?_)
 ·refine av ?_;(constructor; (intro e; cases e); (rintro ⟨a,_⟩; omega))
 ·refine bF (fun (g1:Int)=>0≤g1∧(∀j:Nat,(j:Int)<g1→DgP l_ qC j)) (fun (g1:Int)=>(l_.length - g1).toNat) ?_ ?_
  ·intro aj g1 dQ bS;obtain ⟨dG,bE⟩:=dQ;unfold KE;refine wi (fun c2=>?_) (fun c2=>?_)
   ·have hx:=p2 g1.toNat om;refine wm ?_;refine wm ?_;refine bV (fun c3=>?_) (fun c3=>?_)
    ·have jI:=c3;have c3:=nr c3;refine av ?_;(constructor; (intro e; cases e); (rintro ⟨_,this⟩; have hd:=this g1.toNat om; obtain ⟨d1,d2⟩:=hd; revert d1 d2; cases hA:(l_.getD g1.toNat dS).fQ<;>cases hB:qC.getD g1.toNat false<;>simp_all))
    ·have jI:=c3;have c3:=nr c3;refine wn ?_;refine bS _ ?_ ?_
     ·(refine ⟨ob,dR bE dG ?_⟩; unfold DgP; revert jI; cases hA:(l_.getD g1.toNat dS).fQ<;>cases hB:qC.getD g1.toNat false<;>simp)
     ·exact ob
   ·refine av ?_;(constructor; (intro _; exact ⟨om,fun i hi=>bE i om⟩); (intro _; rfl))
  ·(refine ⟨ob,fun j hj=>by (try dsimp only at hj); omega⟩)
theorem XD {l_:(List dB)} {qC:(List Bool)}:W (Cw l_ qC) (fun r=>(r=true↔DmA l_ 0∧RgP l_ qC)):=by
 unfold Cw;refine aH (Bj) fun v1 hv1=>?_;refine aH (qy fun hc=>XC (by have e:v1=0:=(by simpa using hc); rw [e] at hv1; exact hv1.ok)) fun v2 hv2=>?_;refine av ?_;(constructor; (intro hr; simp only [Bool.and_eq_true] at hr; have e:v1=0:=(by simpa using hr.1); exact ⟨e ▸ hv1,(hv2 hr.1).1 hr.2⟩); (rintro ⟨a,b⟩; have e:=DmA.fun _ _ hv1 a; subst e; have:=(hv2 rfl).2 b; rw [this]; rfl))
theorem ZM {l_:(List dB)} {qC:(List Bool)}:W (Fy l_ qC) (fun r=>(r=true↔DmA l_ 0∧RgP l_ qC)):=by
 unfold Fy;refine aH (Oa) fun v1 hv1=>?_;refine wi (fun c1=>?_) (fun c1=>?_)
 ·refine av ?_;(constructor; (intro e; cases e); (rintro ⟨a,b,_⟩; have e:=DmA.fun _ _ hv1 a; omega))
 ·have hok:DmA l_ 0:=(by have e:v1=0:=om; rw [e] at hv1; exact hv1);obtain ⟨p1,p2⟩:=hok.ok;refine bF (fun (g1:Int)=>0≤g1∧(∀j:Nat,(j:Int)<g1→DgP l_ qC j)) (fun (g1:Int)=>(l_.length - g1).toNat) ?_ ?_
  ·intro aj g1 dQ bS;obtain ⟨dG,bE⟩:=dQ;unfold Nq;refine wi (fun c2=>?_) (fun c2=>?_)
   ·have hx:=p2 g1.toNat om;refine wm ?_;refine wm ?_;refine wm ?_;refine bV (fun c3=>?_) (fun c3=>?_)
    ·have jI:=c3;have c3:=nr c3;refine av ?_;(constructor; (intro e; cases e); (rintro ⟨_,_,this⟩; have hd:=this g1.toNat om; obtain ⟨d1,d2⟩:=hd; revert d1 d2; cases hA:(l_.getD g1.toNat dS).fQ<;>cases hB:qC.getD g1.toNat false<;>simp_all))
    ·have jI:=c3;have c3:=nr c3;refine wn ?_;refine bS _ ?_ ?_
     ·(refine ⟨ob,dR bE dG ?_⟩; unfold DgP; revert jI; cases hA:(l_.getD g1.toNat dS).fQ<;>cases hB:qC.getD g1.toNat false<;>simp)
     ·exact ob
   ·refine av ?_;(constructor; (intro _; exact ⟨hok,om,fun i hi=>bE i om⟩); (intro _; rfl))
  ·(refine ⟨ob,fun j hj=>by (try dsimp only at hj); omega⟩)
theorem Ry {l_:(List aK)} {ah:(List Int)} (h1:l_.length≤2000000) (h2:ah.length≤2000000):W (uh l_ ah) (fun r=>r=true↔EG l_ ah):=by
 unfold uh;refine bF (fun (g1:Int)=>0≤g1∧(∀i:Nat,(i:Int)<g1→(0≤ah.getD i 0∧ah.getD i 0<l_.length)∧∀k:Nat,k<i→ah.getD k 0≠ah.getD i 0)) (fun (g1:Int)=>(ah.length - g1).toNat) ?_ ?_
 ·intro aj g1 dQ bS;obtain ⟨dG,bE⟩:=dQ;unfold Dw;refine wi (fun c1=>?_) (fun c1=>?_)
  ·refine wm ?_;refine aH (pF) fun v5 hv5=>?_;subst v5;refine wn ?_;refine aH (gX fun hc=>mE ob) fun v6 hv6=>?_;subst v6;refine bV (fun c2=>?_) (fun c2=>?_)
   ·have jT:=c2;have c2:=nr c2;refine av ?_;(constructor; (intro e; cases e); (intro a; obtain ⟨b,d⟩:=a g1.toNat om; simp only [Bool.or_eq_true] at jT; rcases jT with c | c; (simp only [Bool.not_eq_true',Bool.and_eq_false_iff,decide_eq_false_iff_not] at c; omega); (obtain ⟨k,h3,h4⟩:=(Gp om).1 c; exact absurd h4 (d k h3))))
   ·have jT:=c2;have c2:=nr c2;refine wn ?_;refine bS _ ?_ ?_
    ·(refine ⟨ob,dR bE dG ?_⟩; simp only [Bool.or_eq_false_iff] at jT; refine ⟨(by have:=jT.1; simp only [Bool.not_eq_false',Bool.and_eq_true,decide_eq_true_eq] at this; omega),fun k hk e=>?_⟩; rw [(Gp om).2 ⟨k,hk,e⟩] at jT; cases jT.2)
    ·exact ob
  ·refine av ?_;(constructor; (intro _ i hi; exact bE i om); (intro _; rfl))
 ·(refine ⟨ob,fun j hj=>by (try dsimp only at hj); omega⟩)
theorem sD {l_:(List aK)} {ah:(List Int)} (h1:l_.length≤2000000) (h2:ah.length≤2000000):W (nG l_ ah) (fun r=>r=true↔EG l_ ah):=by
 unfold nG;refine bF (fun (g1:Int)=>0≤g1∧(∀i:Nat,(i:Int)<g1→(0≤ah.getD i 0∧ah.getD i 0<l_.length)∧∀k:Nat,k<i→ah.getD k 0≠ah.getD i 0)) (fun (g1:Int)=>(ah.length - g1).toNat) ?_ ?_
 ·intro aj g1 dQ bS;obtain ⟨dG,bE⟩:=dQ;unfold HY;refine wi (fun c1=>?_) (fun c1=>?_)
  ·refine wm ?_;refine wi (fun c2=>?_) (fun c2=>?_)
   ·refine av ?_;(constructor; (intro e; cases e); (intro a; obtain ⟨b,d⟩:=a g1.toNat om; omega))
   ·refine bF (fun (g4:Int)=>0≤g4∧(∀k:Nat,(k:Int)<g4→ah.getD k 0≠ah.getD g1.toNat 0)) (fun (g4:Int)=>(g1 - g4).toNat) ?_ ?_
    ·intro jm g4 Iq EB;obtain ⟨FH,lY⟩:=Iq;unfold HV;refine wi (fun c3=>?_) (fun c3=>?_)
     ·refine wm ?_;refine wi (fun c4=>?_) (fun c4=>?_)
      ·refine av ?_;(constructor; (intro e; cases e); (intro a; obtain ⟨b,d⟩:=a g1.toNat om; exact absurd c4 (d g4.toNat om)))
      ·refine wn ?_;refine EB _ ?_ ?_
       ·(refine ⟨ob,dR lY FH c4⟩)
       ·exact ob
     ·refine wn ?_;refine bS _ ?_ ?_
      ·(refine ⟨ob,dR bE dG ⟨om,fun k hk=>lY k om⟩⟩)
      ·exact ob
    ·(refine ⟨ob,fun j hj=>by (try dsimp only at hj); omega⟩)
  ·refine av ?_;(constructor; (intro _ i hi; exact bE i om); (intro _; rfl))
 ·(refine ⟨ob,fun j hj=>by (try dsimp only at hj); omega⟩)
def NdE (b:aR) (n:aK) (dv:Int):Int→Prop:=
 JQ (32<(n.bY.length:Int)∨32<(n.fD.length:Int)∨10<(n.ak.length:Int)) 3<|
 JQ (∃j:Nat,(j:Int)<n.bY.length∧¬aaF b.bQ.length (n.bY.getD j dn)) 2<|
 JQ (∃j:Nat,(j:Int)<n.fD.length∧¬agu b.bB.length (n.fD.getD j dI)) 2<|
 JQ (∃j:Nat,(j:Int)<n.ak.length∧¬N7 (n.ak.getD j ByteArray.empty)) 1<|
 JQ (∃j:Nat,(j:Int)<n.bg.length∧¬(0≤n.bg.getD j 0∧n.bg.getD j 0<b.bg.length)) 2<|
 JQ (¬(-1≤n.fP∧n.fP<b.cB.length)) 2<|
 JQ (∃j:Nat,(j:Int)<n.bT.length∧¬(0≤n.bT.getD j 0∧n.bT.getD j 0<dv)) 2<|
 JQ (∃j:Nat,1≤j∧(j:Int)<n.bT.length∧n.bT.getD j 0≤n.bT.getD (j - 1) 0) 12<|
 fun r=>r=0
theorem NdE.fun {b:aR} {n:aK} {dv:Int}:ED (NdE b n dv):=.IX (.IX (.IX (.IX (.IX (.IX (.IX (.IX .zero)))))))
def Ob (b:aR):Int→Prop:=Thn (fun r=>r=eF b.bQ)<|Thn (fun r=>r=Sp.eF b.bB)<|Thn (Eh b.aQ)<|Thn (RsA b.bg) (DmA b.cB)
theorem Ob.fun {b:aR}:ED (Ob b):=.thn (fun _ _ h k=>h.trans k.symm) (.thn (fun _ _ h k=>h.trans k.symm) (.thn Eh.fun (.thn RsA.fun DmA.fun)))
def nY (b:aR) (l:List aK):Int→Prop:=Thn (Ob b)<|JQ (12<(l.length:Int)) 3<|Fst l.length fun i=>NdE b (l.getD i bq) l.length
theorem nY.fun {b:aR} {l:List aK}:ED (nY b l):=.thn Ob.fun (.IX (.fst fun _=>NdE.fun))
theorem ZN {b_:aR} (h1:Gg b_) (h2:∀g∈b_.aQ.aD,g.bO.length≤2000000∧g.ak.length≤2000000):W (zR b_) (fun r=>Ob b_ r):=by
 obtain ⟨z1,z2,z3,z4,z5,z6,z7⟩:=h1;unfold zR;refine aH (Ca (tQ ob)) fun v1 hv1=>?_;subst v1;refine wi (fun c1=>?_) (fun c1=>?_)
 ·refine av ?_;exact Gj rfl c1
 ·refine aH (Sp.xD ob) fun v2 hv2=>?_;subst v2;refine wi (fun c2=>?_) (fun c2=>?_)
  ·refine av ?_;exact kF c1.symm (Gj rfl c2)
  ·refine aH (QD h2) fun v3 hv3=>?_;refine wi (fun c3=>?_) (fun c3=>?_)
   ·refine av ?_;exact kF c1.symm (kF c2.symm (Gj hv3 c3))
   ·refine aH (Ei ob) fun v4 hv4=>?_;refine wi (fun c4=>?_) (fun c4=>?_)
    ·refine av ?_;exact kF c1.symm (kF c2.symm (kF (c3 ▸ hv3) (Gj hv4 c4)))
    ·refine aH (Bj) fun v5 hv5=>?_;refine av ?_;exact kF c1.symm (kF c2.symm (kF (c3 ▸ hv3) (kF (c4 ▸ hv4) hv5)))
theorem ZO {b_:aR} (h1:Gg b_) (h2:∀g∈b_.aQ.aD,g.bO.length≤2000000∧g.ak.length≤2000000):W (Fg b_) (fun r=>Ob b_ r):=by
 obtain ⟨z1,z2,z3,z4,z5,z6,z7⟩:=h1;unfold Fg;refine aH (zF ob) fun v1 hv1=>?_;subst v1;refine wi (fun c1=>?_) (fun c1=>?_)
 ·refine av ?_;exact Gj rfl c1
 ·refine aH (Sp.zC ob) fun v2 hv2=>?_;subst v2;refine wi (fun c2=>?_) (fun c2=>?_)
  ·refine av ?_;exact kF c1.symm (Gj rfl c2)
  ·refine aH (N8 h2) fun v3 hv3=>?_;refine wi (fun c3=>?_) (fun c3=>?_)
   ·refine av ?_;exact kF c1.symm (kF c2.symm (Gj hv3 c3))
   ·refine aH (N9 ob) fun v4 hv4=>?_;refine wi (fun c4=>?_) (fun c4=>?_)
    ·refine av ?_;exact kF c1.symm (kF c2.symm (kF (c3 ▸ hv3) (Gj hv4 c4)))
    ·refine aH (Oa) fun v5 hv5=>?_;refine av ?_;exact kF c1.symm (kF c2.symm (kF (c3 ▸ hv3) (kF (c4 ▸ hv4) hv5)))
theorem aaV {b_:aR} {n_:aK} {iJ:Int} (h1:Gg b_) (h2:0≤iJ) (h3:iJ≤2000000) (h4:n_.bg.length≤2000000) (h5:n_.bT.length≤2000000):W (Jr b_ n_ iJ) (fun r=>NdE b_ n_ iJ r):=by
 obtain ⟨z1,z2,z3,z4,z5,z6,z7⟩:=h1;unfold Jr;refine wi (fun c1=>?_) (fun c1=>?_)
 ·refine av ?_;exact dW om
 ·refine bF (fun (g1:Int)=>0≤g1∧(∀j:Nat,(j:Int)<g1→aaF b_.bQ.length (n_.bY.getD j dn))) (fun (g1:Int)=>(n_.bY.length - g1).toNat) ?_ ?_
  ·intro aj g1 dQ bS;obtain ⟨dG,bE⟩:=dQ;unfold Qh;refine wi (fun c2=>?_) (fun c2=>?_)
   ·refine wm ?_;refine aH (pF) fun v3 hv3=>?_;subst v3;refine wi (fun c3=>?_) (fun c3=>?_)
    ·refine av ?_;(exact aL om (dW ⟨g1.toNat,om,fun ⟨_,_,_,_,_⟩=>by omega⟩))
    ·refine wn ?_;refine bS _ ?_ ?_
     ·(refine ⟨ob,dR bE dG ⟨om,om,om,om,om⟩⟩)
     ·exact ob
   ·refine bF (fun (g2:Int)=>0≤g2∧(∀j:Nat,(j:Int)<g2→agu b_.bB.length (n_.fD.getD j dI))) (fun (g2:Int)=>(n_.fD.length - g2).toNat) ?_ ?_
    ·intro dK g2 lZ oq;obtain ⟨oH,ji⟩:=lZ;unfold MQ;refine wi (fun c4=>?_) (fun c4=>?_)
     ·refine wm ?_;refine aH (pF) fun v8 CU=>?_;subst v8;refine aH (gX fun hc=>mG (pF)) fun v9 hv9=>?_;subst v9;refine wi (fun c5=>?_) (fun c5=>?_)
      ·refine av ?_;(exact aL om (aL (gQ bE om) (dW ⟨g2.toNat,om,fun ⟨_,_,_,_,_,_,_⟩=>by omega⟩)))
      ·refine wn ?_;refine oq _ ?_ ?_
       ·(refine ⟨ob,dR ji oH ⟨om,om,om,om,om,om,om⟩⟩)
       ·exact ob
     ·refine bF (fun (g3:Int)=>0≤g3∧(∀j:Nat,(j:Int)<g3→N7 (n_.ak.getD j ByteArray.empty))) (fun (g3:Int)=>(n_.ak.length - g3).toNat) ?_ ?_
      ·intro jB g3 aaI ZE;obtain ⟨W9,qg⟩:=aaI;unfold MP;refine wi (fun c6=>?_) (fun c6=>?_)
       ·refine wn ?_;refine aH (JU) fun v12 Vh=>?_;refine bV (fun c7=>?_) (fun c7=>?_)
        ·have WW:=c7;have c7:=nr c7;refine av ?_;(exact aL om (aL (gQ bE om) (aL (gQ ji om) (dW ⟨g3.toNat,om,fun h=>by simp [Vh.2 h] at WW⟩))))
        ·have WW:=c7;have c7:=nr c7;refine wn ?_;refine ZE _ ?_ ?_
         ·(refine ⟨ob,dR qg W9 (Vh.1 (by simpa using WW))⟩)
         ·exact ob
       ·refine bF (fun (g4:Int)=>0≤g4∧(∀j:Nat,(j:Int)<g4→0≤n_.bg.getD j 0∧n_.bg.getD j 0<b_.bg.length)) (fun (g4:Int)=>(n_.bg.length - g4).toNat) ?_ ?_
        ·intro jm g4 Iq EB;obtain ⟨FH,lY⟩:=Iq;unfold MO;refine wi (fun c8=>?_) (fun c8=>?_)
         ·refine wm ?_;refine aH (pF) fun v15 Pt=>?_;subst v15;refine wi (fun c9=>?_) (fun c9=>?_)
          ·refine av ?_;(exact aL om (aL (gQ bE om) (aL (gQ ji om) (aL (gQ qg om) (dW ⟨g4.toNat,om,om⟩)))))
          ·refine wn ?_;refine EB _ ?_ ?_
           ·(refine ⟨ob,dR lY FH om⟩)
           ·exact ob
         ·refine wn ?_;refine aH (pF) fun v16 agf=>?_;subst v16;refine wi (fun c10=>?_) (fun c10=>?_)
          ·refine av ?_;(exact aL om (aL (gQ bE om) (aL (gQ ji om) (aL (gQ qg om) (aL (gQ lY om) (dW om))))))
          ·refine bF (fun (g5:Int)=>0≤g5∧(∀j:Nat,(j:Int)<g5→0≤n_.bT.getD j 0∧n_.bT.getD j 0<iJ)) (fun (g5:Int)=>(n_.bT.length - g5).toNat) ?_ ?_
           ·intro j5 g5 Tx Rx;obtain ⟨Qy,FE⟩:=Tx;unfold MN;refine wi (fun c11=>?_) (fun c11=>?_)
            ·refine wm ?_;refine aH (pF) fun v19 av6=>?_;subst v19;refine wi (fun c12=>?_) (fun c12=>?_)
             ·refine av ?_;(exact aL om (aL (gQ bE om) (aL (gQ ji om) (aL (gQ qg om) (aL (gQ lY om) (aL om (dW ⟨g5.toNat,om,om⟩)))))))
             ·refine wn ?_;refine Rx _ ?_ ?_
              ·(refine ⟨ob,dR FE Qy om⟩)
              ·exact ob
            ·refine bF (fun (g6:Int)=>1≤g6∧(∀j:Nat,(j:Int)<g6→1≤j→n_.bT.getD (j - 1) 0<n_.bT.getD j 0)) (fun (g6:Int)=>(n_.bT.length - g6).toNat) ?_ ?_
             ·intro jE g6 JO Gi;obtain ⟨FD,rH⟩:=JO;unfold ML;refine wi (fun c13=>?_) (fun c13=>?_)
              ·refine wm ?_;refine wn ?_;refine wi (fun c14=>?_) (fun c14=>?_)
               ·refine av ?_;(exact aL om (aL (gQ bE om) (aL (gQ ji om) (aL (gQ qg om) (aL (gQ lY om) (aL om (aL (gQ FE om) (dW ⟨g6.toNat,om,om,by rw [show g6.toNat - 1=(g6 - 1).toNat by omega]; omega⟩))))))))
               ·refine wn ?_;refine Gi _ ?_ ?_
                ·(refine ⟨ob,fun j h1 h2=>?_⟩; by_cases q:(j:Int)<g6; (exact rH j q h2); (have e:j=g6.toNat:=by omega); subst e; rw [show g6.toNat - 1=(g6 - 1).toNat by omega]; omega)
                ·exact ob
              ·refine av ?_;(exact aL om (aL (gQ bE om) (aL (gQ ji om) (aL (gQ qg om) (aL (gQ lY om) (aL om (aL (gQ FE om) (aL (Gm rH om) (rfl)))))))))
             ·(refine ⟨ob,fun j h1 h2=>by omega⟩)
           ·(refine ⟨ob,fun j hj=>by (try dsimp only at hj); omega⟩)
        ·(refine ⟨ob,fun j hj=>by (try dsimp only at hj); omega⟩)
      ·(refine ⟨ob,fun j hj=>by (try dsimp only at hj); omega⟩)
    ·(refine ⟨ob,fun j hj=>by (try dsimp only at hj); omega⟩)
  ·(refine ⟨ob,fun j hj=>by (try dsimp only at hj); omega⟩)
theorem aaW {b_:aR} {l_:(List aK)} {x_:aK} (h1:Gg b_) (h2:l_.length≤2000000) (h3:x_.bg.length≤2000000) (h4:x_.bT.length≤2000000):W (Jt b_ l_ x_) (fun r=>NdE b_ x_ l_.length r):=by
 obtain ⟨z1,z2,z3,z4,z5,z6,z7⟩:=h1;unfold Jt;refine wi (fun c1=>?_) (fun c1=>?_)
 ·refine av ?_;exact dW om
 ·refine bF (fun (g1:Int)=>0≤g1∧(∀j:Nat,(j:Int)<g1→aaF b_.bQ.length (x_.bY.getD j dn))) (fun (g1:Int)=>(x_.bY.length - g1).toNat) ?_ ?_
  ·intro aj g1 dQ bS;obtain ⟨dG,bE⟩:=dQ;unfold Qk;refine wi (fun c2=>?_) (fun c2=>?_)
   ·refine wn ?_;refine wi (fun c3=>?_) (fun c3=>?_)
    ·refine av ?_;(exact aL om (dW ⟨g1.toNat,om,fun ⟨_,_,_,_,_⟩=>by omega⟩))
    ·refine wn ?_;refine bS _ ?_ ?_
     ·(refine ⟨ob,dR bE dG ⟨om,om,om,om,om⟩⟩)
     ·exact ob
   ·refine bF (fun (g2:Int)=>0≤g2∧(∀j:Nat,(j:Int)<g2→agu b_.bB.length (x_.fD.getD j dI))) (fun (g2:Int)=>(x_.fD.length - g2).toNat) ?_ ?_
    ·intro dK g2 lZ oq;obtain ⟨oH,ji⟩:=lZ;unfold Nb;refine wi (fun c4=>?_) (fun c4=>?_)
     ·refine wn ?_;refine wi (fun c5=>?_) (fun c5=>?_)
      ·refine av ?_;(exact aL om (aL (gQ bE om) (dW ⟨g2.toNat,om,fun ⟨_,_,_,_,_,_,_⟩=>by omega⟩)))
      ·refine wn ?_;refine oq _ ?_ ?_
       ·(refine ⟨ob,dR ji oH ⟨om,om,om,om,om,om,om⟩⟩)
       ·exact ob
     ·refine bF (fun (g3:Int)=>0≤g3∧(∀j:Nat,(j:Int)<g3→N7 (x_.ak.getD j ByteArray.empty))) (fun (g3:Int)=>(x_.ak.length - g3).toNat) ?_ ?_
      ·intro jB g3 aaI ZE;obtain ⟨W9,qg⟩:=aaI;unfold Na;refine wi (fun c6=>?_) (fun c6=>?_)
       ·refine wn ?_;refine aH (Gn) fun v3 hv3=>?_;refine bV (fun c7=>?_) (fun c7=>?_)
        ·have WW:=c7;have c7:=nr c7;refine av ?_;(exact aL om (aL (gQ bE om) (aL (gQ ji om) (dW ⟨g3.toNat,om,fun h=>by simp [hv3.2 h] at WW⟩))))
        ·have WW:=c7;have c7:=nr c7;refine wn ?_;refine ZE _ ?_ ?_
         ·(refine ⟨ob,dR qg W9 (hv3.1 (by simpa using WW))⟩)
         ·exact ob
       ·refine bF (fun (g4:Int)=>0≤g4∧(∀j:Nat,(j:Int)<g4→0≤x_.bg.getD j 0∧x_.bg.getD j 0<b_.bg.length)) (fun (g4:Int)=>(x_.bg.length - g4).toNat) ?_ ?_
        ·intro jm g4 Iq EB;obtain ⟨FH,lY⟩:=Iq;unfold M9;refine wi (fun c8=>?_) (fun c8=>?_)
         ·refine wn ?_;refine wi (fun c9=>?_) (fun c9=>?_)
          ·refine av ?_;(exact aL om (aL (gQ bE om) (aL (gQ ji om) (aL (gQ qg om) (dW ⟨g4.toNat,om,om⟩)))))
          ·refine wn ?_;refine EB _ ?_ ?_
           ·(refine ⟨ob,dR lY FH om⟩)
           ·exact ob
         ·refine wi (fun c10=>?_) (fun c10=>?_)
          ·refine av ?_;(exact aL om (aL (gQ bE om) (aL (gQ ji om) (aL (gQ qg om) (aL (gQ lY om) (dW om))))))
          ·refine bF (fun (g5:Int)=>0≤g5∧(∀j:Nat,(j:Int)<g5→0≤x_.bT.getD j 0∧x_.bT.getD j 0<(l_.length:Int))) (fun (g5:Int)=>(x_.bT.length - g5).toNat) ?_ ?_
           ·intro j5 g5 Tx Rx;obtain ⟨Qy,FE⟩:=Tx;unfold M8;refine wi (fun c11=>?_) (fun c11=>?_)
            ·refine wn ?_;refine wi (fun c12=>?_) (fun c12=>?_)
             ·refine av ?_;(exact aL om (aL (gQ bE om) (aL (gQ ji om) (aL (gQ qg om) (aL (gQ lY om) (aL om (dW ⟨g5.toNat,om,om⟩)))))))
             ·refine wn ?_;refine Rx _ ?_ ?_
              ·(refine ⟨ob,dR FE Qy om⟩)
              ·exact ob
            ·refine bF (fun (g6:Int)=>1≤g6∧(∀j:Nat,(j:Int)<g6→1≤j→x_.bT.getD (j - 1) 0<x_.bT.getD j 0)) (fun (g6:Int)=>(x_.bT.length - g6).toNat) ?_ ?_
             ·intro jE g6 JO Gi;obtain ⟨FD,rH⟩:=JO;unfold M7;refine wi (fun c13=>?_) (fun c13=>?_)
              ·refine wm ?_;refine wn ?_;refine wi (fun c14=>?_) (fun c14=>?_)
               ·refine av ?_;(exact aL om (aL (gQ bE om) (aL (gQ ji om) (aL (gQ qg om) (aL (gQ lY om) (aL om (aL (gQ FE om) (dW ⟨g6.toNat,om,om,by rw [show g6.toNat - 1=(g6 - 1).toNat by omega]; omega⟩))))))))
               ·refine wn ?_;refine Gi _ ?_ ?_
                ·(refine ⟨ob,fun j h1 h2=>?_⟩; by_cases q:(j:Int)<g6; (exact rH j q h2); (have e:j=g6.toNat:=by omega); subst e; rw [show g6.toNat - 1=(g6 - 1).toNat by omega]; omega)
                ·exact ob
              ·refine av ?_;(exact aL om (aL (gQ bE om) (aL (gQ ji om) (aL (gQ qg om) (aL (gQ lY om) (aL om (aL (gQ FE om) (aL (Gm rH om) (rfl)))))))))
             ·(refine ⟨ob,fun j h1 h2=>by omega⟩)
           ·(refine ⟨ob,fun j hj=>by (try dsimp only at hj); omega⟩)
        ·(refine ⟨ob,fun j hj=>by (try dsimp only at hj); omega⟩)
      ·(refine ⟨ob,fun j hj=>by (try dsimp only at hj); omega⟩)
    ·(refine ⟨ob,fun j hj=>by (try dsimp only at hj); omega⟩)
  ·(refine ⟨ob,fun j hj=>by (try dsimp only at hj); omega⟩)
theorem QE {b_:aR} {l_:(List aK)} (h1:Gg b_) (h2:∀g∈b_.aQ.aD,g.bO.length≤2000000∧g.ak.length≤2000000) (h3:Rw l_):W (Dv b_ l_) (fun r=>nY b_ l_ r):=by
 obtain ⟨w1,w2⟩:=h3;unfold Dv;refine aH (ZN h1 h2) fun v1 hv1=>?_;refine wi (fun c1=>?_) (fun c1=>?_)
 ·refine av ?_;exact Gj hv1 c1
 ·refine wi (fun c2=>?_) (fun c2=>?_)
  ·refine av ?_;exact kF (c1 ▸ hv1) (dW c2)
  ·refine bF (fun (g1:Int)=>0≤g1∧(∀j:Nat,(j:Int)<g1→NdE b_ (l_.getD j bq) l_.length 0)) (fun (g1:Int)=>(l_.length - g1).toNat) ?_ ?_
   ·intro aj g1 dQ bS;obtain ⟨dG,bE⟩:=dQ;unfold Qi;refine wi (fun c3=>?_) (fun c3=>?_)
    ·have hw:=w2 _ (getD_in (i:=g1.toNat) bq om);refine wn ?_;refine aH (aaV ob ob ob ob ob) fun v4 hv4=>?_;refine wi (fun c4=>?_) (fun c4=>?_)
     ·refine av ?_;exact kF (c1 ▸ hv1) (aL om (Gl (i:=g1.toNat) om (fun k hk=>bE k om) hv4 c4))
     ·refine wn ?_;refine bS _ ?_ ?_
      ·(refine ⟨ob,dR bE dG (by rw [c4] at hv4; exact hv4)⟩)
      ·exact ob
    ·refine av ?_;exact kF (c1 ▸ hv1) (aL om (JR fun k hk=>bE k om))
   ·(refine ⟨ob,fun j hj=>by (try dsimp only at hj); omega⟩)
theorem zH {b_:aR} {l_:(List aK)} (h1:Gg b_) (h2:∀g∈b_.aQ.aD,g.bO.length≤2000000∧g.ak.length≤2000000) (h3:Rw l_):W (uR b_ l_) (fun r=>nY b_ l_ r):=by
 obtain ⟨w1,w2⟩:=h3;unfold uR;refine aH (ZO h1 h2) fun v1 hv1=>?_;refine wi (fun c1=>?_) (fun c1=>?_)
 ·refine av ?_;exact Gj hv1 c1
 ·refine wi (fun c2=>?_) (fun c2=>?_)
  ·refine av ?_;exact kF (c1 ▸ hv1) (dW c2)
  ·refine bF (fun (g1:Int)=>0≤g1∧(∀j:Nat,(j:Int)<g1→NdE b_ (l_.getD j bq) l_.length 0)) (fun (g1:Int)=>(l_.length - g1).toNat) ?_ ?_
   ·intro aj g1 dQ bS;obtain ⟨dG,bE⟩:=dQ;unfold Ql;refine wi (fun c3=>?_) (fun c3=>?_)
    ·have hw:=w2 _ (getD_in (i:=g1.toNat) bq om);refine wn ?_;refine aH (aaW ob ob ob ob) fun v4 hv4=>?_;refine wi (fun c4=>?_) (fun c4=>?_)
     ·refine av ?_;exact kF (c1 ▸ hv1) (aL om (Gl (i:=g1.toNat) om (fun k hk=>bE k om) hv4 c4))
     ·refine wn ?_;refine bS _ ?_ ?_
      ·(refine ⟨ob,dR bE dG (by rw [c4] at hv4; exact hv4)⟩)
      ·exact ob
    ·refine av ?_;exact kF (c1 ▸ hv1) (aL om (JR fun k hk=>bE k om))
   ·(refine ⟨ob,fun j hj=>by (try dsimp only at hj); omega⟩)
theorem Oc {s_:gW} (h1:aaG s_):W (qB s_) (fun r=>(r=true↔EG s_.dA s_.aP∧alf s_.bD s_.dA s_.aV)):=by
 obtain ⟨⟨s1,s2,s3,s4,s5,s6,s7⟩,v_,n1,n2,⟨n3,n4⟩,m1,⟨z1,z2,z3,z4,z5,z6⟩⟩:=h1;have hch:∀i,i<s_.bD.bQ.length→(s_.bD.bQ.getD i aJ).aM.length≤2000000:=s2;unfold qB;refine aH (Ry ob ob) fun v1 hv1=>?_;refine bV (fun c1=>?_) (fun c1=>?_)
 ·have fU:=c1;have c1:=nr c1;refine av ?_;(constructor; (intro e; cases e); (rintro ⟨a,⟨b1,b2,b3,b4,b5⟩,_⟩; rw [hv1.2 a] at fU; simp only [Bool.not_true,Bool.false_or,Bool.or_eq_true,bne_iff_ne] at fU; omega))
 ·have fU:=c1;have c1:=nr c1;have hm:=hv1.1 (by simp only [Bool.or_eq_false_iff] at fU; simpa using fU.1.1.1.1.1);have hl:(s_.aV.dD.length:Int)=s_.bD.bQ.length:=(by simp only [Bool.or_eq_false_iff] at fU; simpa using fU.1.1.1.1.2);refine bF (fun (g1:Int)=>0≤g1∧(∀j:Nat,(j:Int)<g1→0≤s_.aV.dD.getD j 0∧s_.aV.dD.getD j 0<(s_.bD.bQ.getD j aJ).aM.length)) (fun (g1:Int)=>(s_.bD.bQ.length - g1).toNat) ?_ ?_
  ·intro aj g1 dQ bS;obtain ⟨dG,bE⟩:=dQ;unfold zU;refine wi (fun c2=>?_) (fun c2=>?_)
   ·have hq:=hch g1.toNat om;refine wm ?_;refine wn ?_;refine aH (pF) fun v4 hv4=>?_;subst v4;refine wi (fun c3=>?_) (fun c3=>?_)
    ·refine av ?_;(constructor; (intro e; cases e); (rintro ⟨_,_,a,_⟩; have:=a g1.toNat om; omega))
    ·refine wn ?_;refine bS _ ?_ ?_
     ·(refine ⟨ob,dR bE dG om⟩)
     ·exact ob
   ·refine bF (fun (g2:Int)=>0≤g2∧(∀j:Nat,(j:Int)<g2 → -1≤(s_.aV.dZ.getD j bH).iE∧(s_.aV.dZ.getD j bH).iE<s_.dA.length)) (fun (g2:Int)=>(s_.aV.dZ.length - g2).toNat) ?_ ?_
    ·intro dK g2 lZ oq;obtain ⟨oH,ji⟩:=lZ;unfold xX;refine wi (fun c4=>?_) (fun c4=>?_)
     ·refine wm ?_;refine aH (pF) fun v7 hv7=>?_;subst v7;refine wi (fun c5=>?_) (fun c5=>?_)
      ·refine av ?_;(constructor; (intro e; cases e); (rintro ⟨_,_,_,a⟩; have:=a g2.toNat om; omega))
      ·refine wn ?_;refine oq _ ?_ ?_
       ·(refine ⟨ob,dR ji oH om⟩)
       ·exact ob
     ·refine av ?_;(constructor; (intro _; exact ⟨hm,⟨om,om,om,om,om⟩,fun i hi=>bE i om,fun i hi=>ji i om⟩); (intro _; rfl))
    ·(refine ⟨ob,fun j hj=>by (try dsimp only at hj); omega⟩)
  ·(refine ⟨ob,fun j hj=>by (try dsimp only at hj); omega⟩)
theorem XE {b_:aR} {l_:(List aK)} {g_:bL} (h1:Gg b_) (h2:l_.length≤2000000) (h3:Xu g_):W (Cz b_ l_ g_) (fun r=>r=true↔alf b_ l_ g_):=by
 obtain ⟨s1,s2,s3,s4,s5,s6,s7⟩:=h1;obtain ⟨z1,z2,z3,z4,z5,z6⟩:=h3;unfold Cz;refine wi (fun c1=>?_) (fun c1=>?_)
 ·refine av ?_;(constructor; (intro e; cases e); (rintro ⟨⟨b1,b2,b3,b4,b5⟩,_⟩; omega))
 ·refine bF (fun (g1:Int)=>0≤g1∧(∀j:Nat,(j:Int)<g1→0≤g_.dD.getD j 0∧g_.dD.getD j 0<(b_.bQ.getD j aJ).aM.length)) (fun (g1:Int)=>(g_.dD.length - g1).toNat) ?_ ?_
  ·intro aj g1 dQ bS;obtain ⟨dG,bE⟩:=dQ;unfold KU;refine wi (fun c2=>?_) (fun c2=>?_)
   ·refine wm ?_;refine wn ?_;refine wi (fun c3=>?_) (fun c3=>?_)
    ·refine av ?_;(constructor; (intro e; cases e); (rintro ⟨_,a,_⟩; have:=a g1.toNat om; omega))
    ·refine wn ?_;refine bS _ ?_ ?_
     ·(refine ⟨ob,dR bE dG om⟩)
     ·exact ob
   ·refine bF (fun (g2:Int)=>0≤g2∧(∀j:Nat,(j:Int)<g2 → -1≤(g_.dZ.getD j bH).iE∧(g_.dZ.getD j bH).iE<l_.length)) (fun (g2:Int)=>(g_.dZ.length - g2).toNat) ?_ ?_
    ·intro dK g2 lZ oq;obtain ⟨oH,ji⟩:=lZ;unfold KT;refine wi (fun c4=>?_) (fun c4=>?_)
     ·refine wm ?_;refine wi (fun c5=>?_) (fun c5=>?_)
      ·refine av ?_;(constructor; (intro e; cases e); (rintro ⟨_,_,a⟩; have:=a g2.toNat om; omega))
      ·refine wn ?_;refine oq _ ?_ ?_
       ·(refine ⟨ob,dR ji oH om⟩)
       ·exact ob
     ·refine av ?_;(constructor; (intro _; exact ⟨⟨om,om,om,om,om⟩,fun i hi=>bE i om,fun i hi=>ji i om⟩); (intro _; rfl))
    ·(refine ⟨ob,fun j hj=>by (try dsimp only at hj); omega⟩)
  ·(refine ⟨ob,fun j hj=>by (try dsimp only at hj); omega⟩)
theorem amU {l:List aI} {s:List Int} (hf:aay l) (hs:kD l s=true) {x:bK} (h0:0≤x.eU) (h1:x.eU<l.length):ZG (Qu l s) x=Rn (gD l s) x:=by
 obtain ⟨e1,e2,_,_⟩:=O8 hf hs x.eU.toNat om;unfold ZG Rn;rw [e1,e2,Bool.not_not]
theorem amV {l:List aI} {s:List Int} (hf:aay l) (hs:kD l s=true):aiI l (Qu l s)=ownB l (gD l s):=by
 unfold aiI ownB;have:∀i∈List.range l.length,(!ak7 (Qu l s).1 (Qu l s).2 l i)=(!acJ ((gD l s).getD i dV) (l.getD i aJ)):=fun i hi=>by
  obtain ⟨e1,e2,_,_⟩:=O8 hf hs i (by simpa using hi);unfold ak7 acJ;rw [e1,e2]
 rw [Bool.eq_iff_iff,List.all_eq_true,List.all_eq_true];exact ⟨fun h i hi=>by rw [← this i hi]; exact h i hi,fun h i hi=>by rw [this i hi]; exact h i hi⟩
theorem any_congr {α:Type} {l:List α} {p q:α→Bool} (h:∀x∈l,p x=q x):l.any p=l.any q:=by
 rw [Bool.eq_iff_iff,List.any_eq_true,List.any_eq_true];exact ⟨fun ⟨x,h1,h2⟩=>⟨x,h1,by rw [← h x h1]; exact h2⟩,fun ⟨x,h1,h2⟩=>⟨x,h1,by rw [h x h1]; exact h2⟩⟩
theorem JW {l:List aI} {s:List Int} {m:List bK} (h1:kY l m=true) (h2:kD l s=true):fq l s m=NY l s m:=by
 obtain ⟨hck,hml,hmb⟩:=xg h1;have hf:=uz hck;unfold fq NY;rw [h1,h2,amV hf h2,any_congr fun x hx=>amU hf h2 (NH (Il h1 x hx)).1.1 (NH (Il h1 x hx)).1.2,Bool.and_comm (!_)];rfl
theorem Vz {l_:(List aI)} {s_:(List Int)} (h1:l_.length≤2000000) (h2:s_.length≤2000000) (h3:aer l_):W (zy l_ s_) (fun r=>r=((eF l_==0)&&kD l_ s_)):=by
 unfold zy;refine aH (zF ob) fun v1 hv1=>?_;subst v1;refine bV (fun c1=>?_) (fun c1=>?_)
 ·have fU:=c1;have c1:=nr c1;refine av ?_;(rcases Bool.or_eq_true_iff.1 fU with c | c; (rw [show (eF l_==0)=false by simpa using c]; rfl); (unfold kD; rw [show ((s_.length:Int)==(l_.length:Int))=false by simpa using c]; simp))
 ·have fU:=c1;have c1:=nr c1;have he:((s_.length:Int)==(l_.length:Int))=true:=(by have:=(Bool.or_eq_false_iff.1 fU).2; simpa using this);have hc0:(eF l_==0)=true:=(by have:=(Bool.or_eq_false_iff.1 fU).1; simpa using this);refine bF (fun (g1:Int)=>0≤g1∧g1≤l_.length∧(∀j:Nat,(j:Int)<g1→dJ (s_.getD j 0) 0 ((l_.getD j aJ).aM.length - 1)=true)) (fun (g1:Int)=>(l_.length - g1).toNat) ?_ ?_
  ·intro aj g1 dQ bS;obtain ⟨dG,bE,bG⟩:=dQ;unfold Ia;refine wi (fun c2=>?_) (fun c2=>?_)
   ·have hch:=h3 g1.toNat om;refine wm ?_;refine wn ?_;refine wi (fun c3=>?_) (fun c3=>?_)
    ·refine av ?_;(unfold kD; rw [he,w9 (i:=g1.toNat) om (by unfold dJ; rw [Bool.and_eq_false_iff,decide_eq_false_iff_not,decide_eq_false_iff_not]; omega)]; simp)
    ·refine wn ?_;refine bS _ ?_ ?_
     ·(refine ⟨ob,ob,dR bG dG (by unfold dJ; rw [Bool.and_eq_true,decide_eq_true_eq,decide_eq_true_eq]; omega)⟩)
     ·exact ob
   ·refine av ?_;(unfold kD; rw [he,hc0,zA fun j hj=>bG j om]; rfl)
  ·(refine ⟨ob,ob,fun j hj=>by omega⟩)
theorem Ej {l_:(List aI)} {s_:(List Int)} {m_:(List bK)} (h1:l_.length≤2000000) (h2:s_.length≤2000000) (h3:m_.length≤2000000) (h4:aer l_):W (Ae l_ s_ m_) (fun r=>r=fq l_ s_ m_):=by
 unfold Ae;refine aH (Vz ob ob ob) fun v1 hv1=>?_;subst v1;refine aH (gX fun hc=>mG (NU ob ob)) fun v2 hv2=>?_;subst v2;refine bV (fun c1=>?_) (fun c1=>?_)
 ·have fU:=c1;have c1:=nr c1;refine av ?_;(unfold fq; rcases Bool.or_eq_true_iff.1 fU with c | c; (simp only [Bool.not_eq_true',Bool.and_eq_false_iff,beq_eq_false_iff_ne] at c; rcases c with c | c; (rw [show kY l_ m_=false by (unfold kY; rw [show (eF l_==0)=false by simpa using c]; rfl)]; rfl); (rw [c,Bool.and_false]; rfl)); (rw [show kY l_ m_=false by simpa using c]; rfl))
 ·have fU:=c1;have c1:=nr c1;have hss:kD l_ s_=true:=(by have:=(Bool.or_eq_false_iff.1 fU).1; simp only [Bool.not_eq_false',Bool.and_eq_true] at this; exact this.2);have hlm:kY l_ m_=true:=(by have:=(Bool.or_eq_false_iff.1 fU).2; simpa using this);obtain ⟨hck,hml,hmb⟩:=xg hlm;have hst:=O7 l_ s_ l_.length;refine aH (NW (O5 (uz hck) hss) (akH (uz hck) hss)) fun v3 hv3=>?_;subst v3;have hs1:(Qu l_ s_).1.length=l_.length:=hst.1;have hs2:(Qu l_ s_).2.length=l_.length:=hst.2;refine bF (fun (g1:Int)=>0≤g1∧g1≤m_.length∧(m_.drop g1.toNat).any (ZG (Qu l_ s_))=m_.any (ZG (Qu l_ s_))) (fun (g1:Int)=>(m_.length - g1).toNat) ?_ ?_
  ·intro aj g1 dQ bS;obtain ⟨dG,bE,bG⟩:=dQ;unfold Nn;refine wi (fun c2=>?_) (fun c2=>?_)
   ·have hlt:g1.toNat<m_.length:=om;have hx:=(NH (Il hlm _ (getD_in (i:=g1.toNat) dn hlt))).1;rw [drop_cons dn hlt,List.any_cons] at bG;refine wm ?_;refine wn ?_;refine aH (gX fun hc=>mG (Ef)) fun v6 hv6=>?_;subst v6;refine bV (fun c3=>?_) (fun c3=>?_)
    ·have jI:=c3;have c3:=nr c3;refine av ?_;(rw [JW hlm hss]; unfold NY; rw [← bG,show ZG (Qu l_ s_) (m_.getD g1.toNat dn)=true from jI]; rfl)
    ·have jI:=c3;have c3:=nr c3;refine wn ?_;refine bS _ ?_ ?_
     ·(refine ⟨ob,ob,?_⟩; rw [← bG,show ZG (Qu l_ s_) (m_.getD g1.toNat dn)=false from jI,show (g1+1).toNat=g1.toNat+1 by omega]; rfl)
     ·exact ob
   ·refine aH (WY ob ob ob) fun v7 hv7=>?_;subst v7;refine av ?_;(rw [JW hlm hss]; unfold NY; rw [← bG,show g1.toNat=m_.length by omega,List.drop_length]; rfl)
  ·(refine ⟨ob,ob,rfl⟩)
theorem Eh.v {p:bn} (h:Eh p 0):agz p:=by
 obtain ⟨h1,h2⟩:=tT (by decide) h;obtain ⟨h3,h4⟩:=tT (by decide) h2;have h5:=ald h4;have hg:∀i:Nat,(i:Int)<p.aD.length→GpV p.bO (p.aD.getD i aG)∧∀k:Nat,k<i→(p.aD.getD k aG).vU.toList≠(p.aD.getD i aG).vU.toList:=fun i hi=>by
  obtain ⟨a1,a2⟩:=tT (by decide) (h5 i om);obtain ⟨b1,b2⟩:=tT (by decide) a2;obtain ⟨c1,c2⟩:=tT (by decide) b2;obtain ⟨d1,d2⟩:=tT (by decide) c2;obtain ⟨e1,e2⟩:=tT (by decide) d2;obtain ⟨f1,f2⟩:=tT (by decide) e2;obtain ⟨k1,k2⟩:=tT (by decide) f2;obtain ⟨l1,_⟩:=tT (by decide) k2;refine ⟨⟨⟨om,om,jG 0 fun j hj=>?_⟩,Classical.not_not.1 a1,fun k hk hl=>?_,fun j hj=>?_,fun k j hj hk e=>l1 ⟨k,j,hj,hk,e⟩⟩,fun k hk e=>b1 ⟨k,hk,e⟩⟩
  ·exact Classical.byContradiction fun q=>e1 ⟨j,om,q⟩
  ·exact Classical.byContradiction fun q=>f1 ⟨k,hk,hl,om⟩
  ·exact Classical.byContradiction fun q=>k1 ⟨j,hj,q⟩
 exact ⟨⟨om,om,jG aG fun i hi=>(hg i om).1.ok⟩,fun i hi=>(hg i hi).1,fun i k hk hi=>(hg i hi).2 k hk⟩
def ao3 (p:bn) (l:List nE) (i:Nat):Prop:=Qx p (l.getD i fV)∧(∀k:Nat,k<i→(l.getD k fV).dF≠(l.getD i fV).dF)∧
 ∀k:Nat,k<i→∀a b:Nat,(a:Int)<(p.aD.getD (l.getD k fV).dF.toNat aG).bO.length→(b:Int)<(p.aD.getD (l.getD i fV).dF.toNat aG).bO.length→(p.aD.getD (l.getD k fV).dF.toNat aG).bO.getD a 0≠(p.aD.getD (l.getD i fV).dF.toNat aG).bO.getD b 0
def Rz (p:bn) (l:List nE):Prop:=∀i:Nat,(i:Int)<l.length→ao3 p l i
theorem ZP {p_:bn} {l_:(List nE)} (h1:∀g∈p_.aD,g.bO.length≤2000000∧g.ak.length≤2000000) (h2:l_.length≤2000000):W (Fa p_ l_) (fun r=>(r.2=0↔Eh p_ 0∧Rz p_ l_)):=by
 unfold Fa;refine bF (fun (g1:(Int×(Nat→Int)×(Nat→Int)))=>0≤g1.1∧(∀x:Nat,(x:Int)<g1.1→g1.2.2 x = -1)) (fun (g1:(Int×(Nat→Int)×(Nat→Int)))=>(64 - g1.1).toNat) ?_ ?_
 ·intro aj g1 dQ bS;obtain ⟨dG,bE⟩:=dQ;unfold MU;refine wi (fun c1=>?_) (fun c1=>?_)
  ·refine wm ?_;refine bS _ ?_ ?_
   ·(refine ⟨ob,fun x hx=>?_⟩; dsimp only at hx ⊢; by_cases q:x=g1.1.toNat; (rw [q,QV]); (rw [upd_ne q]; exact bE x om))
   ·exact ob
  ·refine aH (QD h1) fun v1 hv1=>?_;refine wi (fun c2=>?_) (fun c2=>?_)
   ·refine av ?_;(refine ⟨fun e=>by (try dsimp only at e); omega,fun ⟨a,_⟩=>absurd (Eh.fun _ _ hv1 a) c2⟩)
   ·have hpa:Eh p_ 0:=(by rw [c2] at hv1; exact hv1);have hpv:=hpa.v;obtain ⟨⟨p1,p2,p3⟩,gr,nm⟩:=id hpv;refine wn ?_;refine bF (fun (g2:(Int×(Nat→Int)×(List Bool)))=>0≤g2.1∧g2.2.2.length=p_.aD.length∧(∀x:Nat,x<64→(0≤g2.2.1 x↔∃j:Nat,(j:Int)<g2.1∧∃k:Nat,(k:Int)<(p_.aD.getD (l_.getD j fV).dF.toNat aG).bO.length∧(p_.aD.getD (l_.getD j fV).dF.toNat aG).bO.getD k 0=x))∧(∀x:Nat,g2.2.2.getD x false=true↔∃j:Nat,(j:Int)<g2.1∧(l_.getD j fV).dF=x)∧(∀i:Nat,(i:Int)<g2.1→ao3 p_ l_ i)) (fun (g2:(Int×(Nat→Int)×(List Bool)))=>(l_.length - g2.1).toNat) ?_ ?_
    ·intro dK g2 lZ oq;obtain ⟨oH,ji,oI,TG,anD⟩:=lZ;unfold KA;refine wi (fun c3=>?_) (fun c3=>?_)
     ·refine wm ?_;refine wi (fun c4=>?_) (fun c4=>?_)
      ·refine av ?_;(refine ⟨fun e=>by (try dsimp only at e); omega,fun ⟨_,h⟩=>?_⟩; obtain ⟨⟨u1,u2,u3,u4⟩,_⟩:=h g2.1.toNat om; omega)
      ·have hu:Qx p_ (l_.getD g2.1.toNat fV):=⟨om,om,om,om⟩;obtain ⟨u1,u2,u3,u4⟩:=id hu;refine wn ?_;refine bV (fun c5=>?_) (fun c5=>?_)
       ·have CV:=c5;have c5:=nr c5;refine av ?_;(refine ⟨fun e=>by (try dsimp only at e); omega,fun ⟨_,h⟩=>?_⟩; obtain ⟨_,hd,_⟩:=h g2.1.toNat om; obtain ⟨j,e3,e4⟩:=(TG _).1 CV; exact absurd e4 (fun e4=>hd j om om))
       ·have CV:=c5;have c5:=nr c5;refine wm ?_;refine bF (fun (g5:(Int×(Nat→Int)×(List Bool)))=>0≤g5.1∧g5.1≤(p_.aD.getD (l_.getD g2.1.toNat fV).dF.toNat aG).bO.length∧g5.2.2.length=p_.aD.length∧(∀x:Nat,x<64→(0≤g5.2.1 x↔(∃j:Nat,(j:Int)<g2.1∧∃k:Nat,(k:Int)<(p_.aD.getD (l_.getD j fV).dF.toNat aG).bO.length∧(p_.aD.getD (l_.getD j fV).dF.toNat aG).bO.getD k 0=x)∨∃k:Nat,(k:Int)<g5.1∧(p_.aD.getD (l_.getD g2.1.toNat fV).dF.toNat aG).bO.getD k 0=x))∧(∀x:Nat,g5.2.2.getD x false=true↔∃j:Nat,(j:Int)<g2.1+1∧(l_.getD j fV).dF=x)∧(∀b:Nat,(b:Int)<g5.1→∀j:Nat,(j:Int)<g2.1→∀a:Nat,(a:Int)<(p_.aD.getD (l_.getD j fV).dF.toNat aG).bO.length→(p_.aD.getD (l_.getD j fV).dF.toNat aG).bO.getD a 0≠(p_.aD.getD (l_.getD g2.1.toNat fV).dF.toNat aG).bO.getD b 0)) (fun (g5:(Int×(Nat→Int)×(List Bool)))=>((p_.aD.getD (l_.getD g2.1.toNat fV).dF.toNat aG).bO.length - g5.1).toNat) ?_ ?_
        ·intro j5 g5 Tx Rx;obtain ⟨Qy,FE,TA,ahr,anE,anF⟩:=Tx;unfold Kz;refine wi (fun c6=>?_) (fun c6=>?_)
         ·have hmg:=getD_in (l:=p_.aD) (i:=(l_.getD g2.1.toNat fV).dF.toNat) aG om;have hgl:=(h1 _ hmg).1;have hpn:=(p3 _ hmg).pn _ (getD_in (i:=g5.1.toNat) 0 om);refine wm ?_;refine wi (fun c7=>?_) (fun c7=>?_)
          ·refine av ?_;(refine ⟨fun e=>by (try dsimp only at e); omega,fun ⟨_,h⟩=>?_⟩; obtain ⟨_,_,hd⟩:=h g2.1.toNat om; exfalso; rcases (ahr _ om).1 c7 with ⟨j,e3,k,e5,e6⟩ | ⟨k,e5,e6⟩; (exact hd j om k g5.1.toNat e5 om (by rw [e6]; omega)); (have:=TK hpv u1 u2 k g5.1.toNat om om; omega))
          ·refine wm ?_;refine Rx _ ?_ ?_
           ·(refine ⟨ob,ob,ob,fun x hx=>?_,anE,fun b hb j hj a ha=>?_⟩; (dsimp only; by_cases q:x=((p_.aD.getD (l_.getD g2.1.toNat fV).dF.toNat aG).bO.getD g5.1.toNat 0).toNat; (rw [q,QV]; constructor; (intro _; exact .inr ⟨g5.1.toNat,om,om⟩); (intro _; omega)); (rw [upd_ne q,ahr x hx]; constructor; (rintro (h | ⟨k,e5,e6⟩); (exact .inl h); (exact .inr ⟨k,om,e6⟩)); (rintro (h | ⟨k,e5,e6⟩); (exact .inl h); (refine .inr ⟨k,?_,e6⟩; by_cases e:(k:Int)<g5.1; (exact e); exfalso; apply q; rw [show g5.1.toNat=k by omega]; omega)))); (by_cases q:(b:Int)<g5.1; (exact anF b q j hj a ha); (have e:b=g5.1.toNat:=by (try dsimp only at hb); omega); subst e; intro e7; have e8:=(ahr ((p_.aD.getD (l_.getD g2.1.toNat fV).dF.toNat aG).bO.getD g5.1.toNat 0).toNat om).2 (.inl ⟨j,hj,a,ha,by rw [e7]; omega⟩); omega))
           ·exact ob
         ·refine wn ?_;refine oq _ ?_ ?_
          ·(refine ⟨ob,TA,fun x hx=>?_,fun x=>anE x,dR anD oH ⟨hu,fun k hk e=>?_,fun k hk a b ha hb=>anF b om k om a ha⟩⟩; (dsimp only; rw [ahr x hx]; constructor; (rintro (⟨j,e3,e⟩ | ⟨k,e5,e6⟩); (exact ⟨j,om,e⟩); (exact ⟨g2.1.toNat,om,k,om,e6⟩)); (rintro ⟨j,e3,k,e5,e6⟩; by_cases q:(j:Int)<g2.1; (exact .inl ⟨j,q,k,e5,e6⟩); (have e:j=g2.1.toNat:=by omega); subst e; exact .inr ⟨k,om,e6⟩)); (rw [(TG _).2 ⟨k,om,om⟩] at c5; cases c5))
          ·exact ob
        ·(refine ⟨ob,ob,ob,fun x hx=>⟨fun h=>.inl ((oI x hx).1 h),?_⟩,fun x=>?_,fun b hb=>?_⟩; (rintro (h | ⟨k,e5,_⟩); (exact (oI x hx).2 h); (exfalso; (try dsimp only at e5); omega)); (dsimp only; by_cases q:x=(l_.getD g2.1.toNat fV).dF.toNat; (rw [q,xH om]; exact ⟨fun _=>⟨g2.1.toNat,om,om⟩,fun _=>rfl⟩); (rw [uE q,TG]; constructor; (rintro ⟨j,e3,e4⟩; exact ⟨j,om,e4⟩); (rintro ⟨j,e3,e4⟩; refine ⟨j,?_,e4⟩; by_cases e:(j:Int)<g2.1; (exact e); exfalso; apply q; rw [show g2.1.toNat=j by omega]; omega))); (exfalso; (try dsimp only at hb); omega))
     ·refine av ?_;(refine ⟨fun _=>⟨hpa,fun i hi=>anD i om⟩,fun _=>rfl⟩)
    ·(refine ⟨ob,by simp,fun x hx=>⟨fun h=>?_,fun ⟨j,e,_⟩=>?_⟩,fun x=>⟨fun hx=>?_,fun ⟨j,e,_⟩=>?_⟩,fun j hj=>?_⟩; (exfalso; have:=bE x om; (try dsimp only at h); omega); (exfalso; (try dsimp only at e); omega); (exfalso; dsimp only at hx; rw [List.getD_eq_getElem?_getD,List.getElem?_replicate] at hx; split at hx<;>simp at hx); (exfalso; (try dsimp only at e); omega); (exfalso; (try dsimp only at hj); omega))
 ·(refine ⟨ob,fun j hj=>by (try dsimp only at hj); omega⟩)
structure NdV (b:aR) (k:Int) (n:aK):Prop where
 ok:aoZ b n
 fw:∀j:Nat,(j:Int)<n.ak.length→N7 (n.ak.getD j ByteArray.empty)
 pr:∀x∈n.bT,0≤x∧x<k
 ps:∀k:Nat,1≤k→(k:Int)<n.bT.length→n.bT.getD (k - 1) 0<n.bT.getD k 0
def as7 (l:List Int):Prop:=∀k j:Nat,j<k→(k:Int)<l.length→l.getD j 0≠l.getD k 0
def nmU (p:bn) (u:nE):ByteArray:=((p.aD.getD u.dF.toNat aG).ak.getD u.gV.toNat ByteArray.empty)
def PD (p:bn) (us:List aS) (m:Int) (f:ByteArray):Nat:=us.countP fun u=>(u.iE==m)&&decide (nmU p u.mI=f)
def cntF (l:List ByteArray) (f:ByteArray):Nat:=l.countP fun x=>decide (x=f)
theorem Pf {p:bn} {us:List aS} {u:aS} {m:Int} {f:ByteArray}:PD p (us++[u]) m f=PD p us m f+(if u.iE=m∧nmU p u.mI=f then 1 else 0):=by
 unfold PD;rw [List.countP_append,List.countP_singleton];congr 1;simp only [Bool.and_eq_true,beq_iff_eq,decide_eq_true_eq]
theorem Ph {l:List ByteArray} {x f:ByteArray}:cntF (l++[x]) f=cntF l f+(if x=f then 1 else 0):=by
 unfold cntF;rw [List.countP_append,List.countP_singleton];congr 1;simp only [decide_eq_true_eq]
theorem aiN {l:List ByteArray} {f:ByteArray} (k:Nat):cntF (l.take k) f≤cntF l f:=by
 unfold cntF;conv=>rhs; rw [← List.take_append_drop k l]
 rw [List.countP_append]; omega
theorem agC {l:List aI} {s:List Int} (h1:eF l=0) (h2:kD l s=true):(uU l s).2=0:=by
 unfold uU;rw [h1,h2]; rfl
def aqr (r:bI) (x:bK):Prop:=r.jW≠0∧r.jW≤x.fK*r.jq∧x.Low*r.jq≤r.jW
structure av7 (s:gW):Prop where
 sc:aaG s
 sh:agv s
 bv:BdV s.bD
 dst:as7 s.aP
 st:∀i:Nat,(i:Int)<s.bD.bQ.length→0≤s.aV.dD.getD i 0∧s.aV.dD.getD i 0<(s.bD.bQ.getD i aJ).aM.length
 us:∀u∈s.aV.dZ,-1≤u.iE∧u.iE<s.dA.length
 sb:kD s.bD.bQ s.aV.dD=true
 mt:fq s.bD.bQ s.aV.dD []=true
 lm:∀m∈s.aP,∀x∈(s.dA.getD m.toNat bq).bY,aqr ((gD s.bD.bQ s.aV.dD).getD x.eU.toNat dV) x
 dr:Sp.fq s.bD.bB s.aV.eZ (s.aP.flatMap fun m=>(s.dA.getD m.toNat bq).fD)=true
 pn:UsV s.bD.aQ (s.aV.dZ.map aS.mI)
 fn:∀m∈s.aP,∀f,cntF (s.dA.getD m.toNat bq).ak f≤PD s.bD.aQ s.aV.dZ m f
 rs:agA s.bD.bg s.aV.eu
 rl:∀m∈s.aP,∀x∈(s.dA.getD m.toNat bq).bg,s.aV.eu.getD x.toNat false=true
 dm:ak9 s.bD.cB s.aV.fA
 dl:∀m∈s.aP,0≤(s.dA.getD m.toNat bq).fP→s.aV.fA.getD (s.dA.getD m.toNat bq).fP.toNat false=true
theorem abJ {r:bI} (hv:pz r=true) (h:ni r=false):r.jW≠0:=by
 intro e;obtain ⟨_,_,h3,_,h5⟩:=l9 hv;rw [e] at h5;unfold jv at h5;rw [show (0:Int).toNat=0 from rfl,Nat.gcd_zero_left] at h5;have:r.jq=1:=by omega
 unfold ni at h;rw [e,this] at h;cases h
theorem agD {r:bI} {lo hi:Int} (h:nO r lo hi=true):lo*r.jq≤r.jW∧r.jW≤hi*r.jq:=by
 unfold nO at h;simp only [Bool.and_eq_true,Bool.or_eq_true,decide_eq_true_eq,beq_iff_eq] at h;obtain ⟨hv,h1,h2⟩:=h;obtain ⟨n0,_,d1,_,_⟩:=l9 hv;have e:=Int.mul_tdiv_add_tmod r.jW r.jq;have m0:=Int.tmod_nonneg r.jq n0;have m1:=Int.tmod_lt_of_pos r.jW (show 0<r.jq by omega);have e2:r.jq*r.jW.tdiv r.jq=r.jW.tdiv r.jq*r.jq:=Int.mul_comm _ _;have l1:lo*r.jq≤r.jW.tdiv r.jq*r.jq:=Int.mul_le_mul_of_nonneg_right h1 om;refine ⟨om,?_⟩;rcases h2 with h2 | ⟨h2,h3⟩
 ·have l2:(r.jW.tdiv r.jq+1)*r.jq≤hi*r.jq:=Int.mul_le_mul_of_nonneg_right h2 om;rw [Int.add_mul,Int.one_mul] at l2;omega
 ·rw [← h2]; omega
theorem sF {α β:Type} {f:α→β} {l:List α} {k:Nat} {d:α} {e:β} (h:k<l.length):(l.map f).getD k e=f (l.getD k d):=by
 rw [List.getD_eq_getElem?_getD,List.getElem?_map,List.getD_eq_getElem?_getD,List.getElem?_eq_getElem h]; rfl
theorem ahs {α:Type} {l:List α} {j:Nat} {v d:α} (hj:j<l.length):(l.set j v).getD j d=v:=by
 rw [List.getD_eq_getElem?_getD,List.getElem?_set_self hj]; rfl
theorem aht {α:Type} {l:List α} {i j:Nat} {v d:α} (h:i≠j):(l.set j v).getD i d=l.getD i d:=by
 rw [List.getD_eq_getElem?_getD,List.getElem?_set_ne (Ne.symm h),← List.getD_eq_getElem?_getD]
theorem amW {r:bI} (h:r.jW≠0):ni r=false:=by
 unfold ni;rw [show (r.jW==0)=false by simpa using h]; rfl
theorem agE {r:bI} {lo hi:Int} (hv:pz r=true) (h1:lo*r.jq≤r.jW) (h2:r.jW≤hi*r.jq):nO r lo hi=true:=by
 unfold nO;obtain ⟨n0,_,d1,_,_⟩:=l9 hv;have e:=Int.mul_tdiv_add_tmod r.jW r.jq;have m0:=Int.tmod_nonneg r.jq n0;have m1:=Int.tmod_lt_of_pos r.jW (show 0<r.jq by omega);have e2:r.jq*r.jW.tdiv r.jq=r.jW.tdiv r.jq*r.jq:=Int.mul_comm _ _;simp only [Bool.and_eq_true,Bool.or_eq_true,decide_eq_true_eq,beq_iff_eq];have q1:lo≤r.jW.tdiv r.jq:=by
  refine Int.not_lt.1 fun h=>?_;have:(r.jW.tdiv r.jq+1)*r.jq≤lo*r.jq:=Int.mul_le_mul_of_nonneg_right h om;rw [Int.add_mul,Int.one_mul] at this;omega
 have q2:r.jW.tdiv r.jq≤hi:=by
  refine Int.not_lt.1 fun h=>?_;have:(hi+1)*r.jq≤r.jW.tdiv r.jq*r.jq:=Int.mul_le_mul_of_nonneg_right h om;rw [Int.add_mul,Int.one_mul] at this;omega
 refine ⟨hv,q1,?_⟩;by_cases q:r.jW.tdiv r.jq<hi
 ·exact .inl q
 ·have:r.jW.tdiv r.jq=hi:=by omega
  refine .inr ⟨this,?_⟩;rw [this] at e e2;omega
theorem VA {l:List aI} {s:List Int} (h:fq l s []=true):eF l=0∧kD l s=true∧ownB l (gD l s)=true:=by
 unfold fq at h;simp only [Bool.and_eq_true] at h;exact ⟨(xg h.1.1).1,h.1.2,h.2.1⟩
def alg (r:bI) (x:bK) (bt:Bool):Prop:=r.jW≠0∧r.jW≤x.fK*r.jq∧(bt=false→x.Low*r.jq≤r.jW)
theorem abK {l:List aI} {s:List Int} {k lo hi:Int} (h:fq l s []=true) (k0:0≤k) (k1:k<l.length) (h0:0≤lo) (h1:lo≤hi) (h2:hi≤4000000000):
  fq l s [⟨k,lo,hi⟩]=true↔((gD l s).getD k.toNat dV).jW≠0∧((gD l s).getD k.toNat dV).jW≤hi*((gD l s).getD k.toNat dV).jq∧lo*((gD l s).getD k.toNat dV).jq≤((gD l s).getD k.toNat dV).jW:=by
 obtain ⟨c1,c2,c3⟩:=VA h;have hv:=(O8 (uz c1) c2 k.toNat om).2.2.1;have hb:Lv (l.length:Int) ⟨k,lo,hi⟩=false:=by
  unfold Lv dJ;simp only [Bool.or_eq_false_iff,Bool.not_eq_false',Bool.and_eq_true,decide_eq_true_eq];omega
 have hl:kY l [⟨k,lo,hi⟩]=true:=by
  unfold kY;rw [c1,show List.any [(⟨k,lo,hi⟩:bK)] (Lv l.length)=false by rw [List.any_cons,hb]; rfl]; rfl
 unfold fq;rw [hl,c2,c3];simp only [Bool.true_and,List.any_cons,List.any_nil,Bool.or_false,Bool.not_eq_true'];unfold Rn;dsimp only;constructor
 ·intro e;rw [Bool.or_eq_false_iff,Bool.not_eq_false'] at e;obtain ⟨w1,w2⟩:=agD e.2;exact ⟨abJ hv e.1,w2,w1⟩
 ·rintro ⟨a1,a2,a3⟩;rw [amW a1,agE hv a3 a2]; rfl
def alh (b:aR) (g:bL) (n:aK) (bt:Bool):Prop:=∀j:Nat,(j:Int)<n.bY.length→alg ((gD b.bQ g.dD).getD (n.bY.getD j dn).eU.toNat dV) (n.bY.getD j dn) bt
def ali (b:aR) (g:bL) (n:aK) (d:Int):Prop:=∀f:ByteArray,cntF n.ak f≤PD b.aQ g.dZ d f
def amX (g:bL) (n:aK):Prop:=∀j:Nat,(j:Int)<n.bg.length→g.eu.getD (n.bg.getD j 0).toNat false=true
def amY (g:bL) (n:aK):Prop:=0≤n.fP→g.fA.getD n.fP.toNat false=true
def drM (l:List aK) (ms:List Int):List aW:=ms.flatMap fun m=>(l.getD m.toNat bq).fD
theorem kL {b:Bool} {P:Prop} (h:b=true↔P) (c:b=false):¬P:=fun p=>by rw [h.2 p] at c; cases c
theorem ZQ {p_:bn} {l_:(List nE)} (h1:∀g∈p_.aD,g.bO.length≤2000000∧g.ak.length≤2000000) (h2:l_.length≤2000000):W (Fb p_ l_) (fun r=>(r.2=0↔Eh p_ 0∧Rz p_ l_)):=by
 unfold Fb;refine aH (ZP ob ob) fun v1 hv1=>?_;refine wi (fun c1=>?_) (fun c1=>?_)
 ·refine av ?_;(exact ⟨fun e=>absurd e c1,fun h=>absurd (hv1.2 h) c1⟩)
 ·obtain ⟨p1,_,_⟩:=(hv1.1 c1).1.v.ok;unfold Dx;refine wn ?_;refine aH (LA (by simp only [List.length_map,List.length_range]; omega) om) fun v2 hv2=>?_;subst v2;refine av ?_;(exact ⟨fun _=>hv1.1 c1,fun _=>rfl⟩)
theorem XF {p_:bn} {l_:(List nE)} (h1:∀g∈p_.aD,g.bO.length≤2000000∧g.ak.length≤2000000) (h2:l_.length≤2000000):W (CF p_ l_) (fun r=>(r.2=0↔Eh p_ 0∧Rz p_ l_)):=by
 unfold CF;refine aH (N8 h1) fun v1 hv1=>?_;refine wi (fun c1=>?_) (fun c1=>?_)
 ·refine av ?_;(refine ⟨fun e=>by (try dsimp only at e); omega,fun ⟨a,_⟩=>absurd (Eh.fun _ _ hv1 a) c1⟩)
 ·have hpa:Eh p_ 0:=(by rw [c1] at hv1; exact hv1);have hpv:=hpa.v;obtain ⟨⟨p1,p2,p3⟩,gr,nm⟩:=id hpv;refine wn ?_;refine bF (fun (g1:(Int×(List Int)))=>0≤g1.1∧g1.2.length=p_.bO.toNat∧(∀x:Nat,(x:Int)<g1.1→g1.2.getD x 0 = -1)) (fun (g1:(Int×(List Int)))=>(p_.bO - g1.1).toNat) ?_ ?_
  ·intro aj g1 dQ bS;obtain ⟨dG,bE,bG⟩:=dQ;unfold KX;refine wi (fun c2=>?_) (fun c2=>?_)
   ·refine wm ?_;refine bS _ ?_ ?_
    ·(refine ⟨ob,by simp only [List.length_set]; exact bE,fun x hx=>?_⟩; dsimp only at hx ⊢; by_cases q:x=g1.1.toNat; (rw [q,ahs om]); (rw [aht q]; exact bG x om))
    ·exact ob
   ·refine bF (fun (g2:(Int×(List Int)))=>0≤g2.1∧g2.2.length=p_.bO.toNat∧(∀x:Nat,(x:Int)<p_.bO→(g2.2.getD x 0 ≠ -1↔∃j:Nat,(j:Int)<g2.1∧∃k:Nat,(k:Int)<(p_.aD.getD (l_.getD j fV).dF.toNat aG).bO.length∧(p_.aD.getD (l_.getD j fV).dF.toNat aG).bO.getD k 0=x))∧(∀i:Nat,(i:Int)<g2.1→ao3 p_ l_ i)) (fun (g2:(Int×(List Int)))=>(l_.length - g2.1).toNat) ?_ ?_
    ·intro dK g2 lZ oq;obtain ⟨oH,ji,oI,TG⟩:=lZ;unfold KW;refine wi (fun c3=>?_) (fun c3=>?_)
     ·refine wm ?_;refine wm ?_;refine wi (fun c4=>?_) (fun c4=>?_)
      ·refine av ?_;(refine ⟨fun e=>by (try dsimp only at e); omega,fun ⟨_,h⟩=>?_⟩; obtain ⟨⟨u1,u2,u3,u4⟩,_⟩:=h g2.1.toNat om; omega)
      ·have hu:Qx p_ (l_.getD g2.1.toNat fV):=⟨om,om,om,om⟩;obtain ⟨u1,u2,u3,u4⟩:=id hu;refine bF (fun (g7:Int)=>0≤g7∧(∀k:Nat,(k:Int)<g7→(l_.getD k fV).dF≠(l_.getD g2.1.toNat fV).dF)) (fun (g7:Int)=>(g2.1 - g7).toNat) ?_ ?_
       ·intro mW g7 Xv Tz;obtain ⟨ZL,BO⟩:=Xv;unfold Ic;refine wi (fun c5=>?_) (fun c5=>?_)
        ·refine wn ?_;refine wi (fun c6=>?_) (fun c6=>?_)
         ·refine av ?_;(refine ⟨fun e=>by (try dsimp only at e); omega,fun ⟨_,h⟩=>?_⟩; obtain ⟨_,hd,_⟩:=h g2.1.toNat om; exact absurd c6 (hd g7.toNat om))
         ·refine wn ?_;refine Tz _ ?_ ?_
          ·(refine ⟨ob,dR BO ZL c6⟩)
          ·exact ob
        ·refine wn ?_;refine bF (fun (g8:(Int×(List Int)))=>0≤g8.1∧g8.1≤(p_.aD.getD (l_.getD g2.1.toNat fV).dF.toNat aG).bO.length∧g8.2.length=p_.bO.toNat∧(∀x:Nat,(x:Int)<p_.bO→(g8.2.getD x 0 ≠ -1↔(∃j:Nat,(j:Int)<g2.1∧∃k:Nat,(k:Int)<(p_.aD.getD (l_.getD j fV).dF.toNat aG).bO.length∧(p_.aD.getD (l_.getD j fV).dF.toNat aG).bO.getD k 0=x)∨∃k:Nat,(k:Int)<g8.1∧(p_.aD.getD (l_.getD g2.1.toNat fV).dF.toNat aG).bO.getD k 0=x))∧(∀b:Nat,(b:Int)<g8.1→∀j:Nat,(j:Int)<g2.1→∀a:Nat,(a:Int)<(p_.aD.getD (l_.getD j fV).dF.toNat aG).bO.length→(p_.aD.getD (l_.getD j fV).dF.toNat aG).bO.getD a 0≠(p_.aD.getD (l_.getD g2.1.toNat fV).dF.toNat aG).bO.getD b 0)) (fun (g8:(Int×(List Int)))=>((p_.aD.getD (l_.getD g2.1.toNat fV).dF.toNat aG).bO.length - g8.1).toNat) ?_ ?_
         ·intro WO g8 amN akY;obtain ⟨anB,alc,anH,ahu,anI⟩:=amN;unfold Ib;refine wi (fun c7=>?_) (fun c7=>?_)
          ·have hmg:=getD_in (l:=p_.aD) (i:=(l_.getD g2.1.toNat fV).dF.toNat) aG om;have hgl:=(h1 _ hmg).1;have hpn:=(p3 _ hmg).pn _ (getD_in (i:=g8.1.toNat) 0 om);refine wm ?_;refine wi (fun c8=>?_) (fun c8=>?_)
           ·refine av ?_;(refine ⟨fun e=>by (try dsimp only at e); omega,fun ⟨_,h⟩=>?_⟩; obtain ⟨_,_,hd⟩:=h g2.1.toNat om; exfalso; rcases (ahu ((p_.aD.getD (l_.getD g2.1.toNat fV).dF.toNat aG).bO.getD g8.1.toNat 0).toNat om).1 c8 with ⟨j,e3,k,e5,e6⟩ | ⟨k,e5,e6⟩; (exact hd j om k g8.1.toNat e5 om (by rw [e6]; omega)); (have:=TK hpv u1 u2 k g8.1.toNat om om; omega))
           ·refine wm ?_;refine akY _ ?_ ?_
            ·(refine ⟨ob,ob,by simp only [List.length_set]; exact anH,fun x hx=>?_,fun b hb j hj a ha=>?_⟩; (dsimp only; by_cases q:x=((p_.aD.getD (l_.getD g2.1.toNat fV).dF.toNat aG).bO.getD g8.1.toNat 0).toNat; (rw [q,ahs om]; constructor; (intro _; exact .inr ⟨g8.1.toNat,om,om⟩); (intro _; omega)); (rw [aht q,ahu x hx]; constructor; (rintro (h | ⟨k,e5,e6⟩); (exact .inl h); (exact .inr ⟨k,om,e6⟩)); (rintro (h | ⟨k,e5,e6⟩); (exact .inl h); (refine .inr ⟨k,?_,e6⟩; by_cases e:(k:Int)<g8.1; (exact e); exfalso; apply q; rw [show g8.1.toNat=k by omega]; omega)))); (by_cases q:(b:Int)<g8.1; (exact anI b q j hj a ha); (have e:b=g8.1.toNat:=by (try dsimp only at hb); omega); subst e; intro e7; have e8:=(ahu ((p_.aD.getD (l_.getD g2.1.toNat fV).dF.toNat aG).bO.getD g8.1.toNat 0).toNat om).2 (.inl ⟨j,hj,a,ha,by rw [e7]; omega⟩); omega))
            ·exact ob
          ·refine wn ?_;refine oq _ ?_ ?_
           ·(refine ⟨ob,anH,fun x hx=>?_,dR TG oH ⟨hu,fun k hk e=>BO k om e,fun k hk a b ha hb=>anI b om k om a ha⟩⟩; dsimp only; rw [ahu x hx]; constructor; (rintro (⟨j,e3,e⟩ | ⟨k,e5,e6⟩); (exact ⟨j,om,e⟩); (exact ⟨g2.1.toNat,om,k,om,e6⟩)); (rintro ⟨j,e3,k,e5,e6⟩; by_cases q:(j:Int)<g2.1; (exact .inl ⟨j,q,k,e5,e6⟩); (have e:j=g2.1.toNat:=by omega); subst e; exact .inr ⟨k,om,e6⟩))
           ·exact ob
         ·(refine ⟨ob,ob,ob,fun x hx=>⟨fun h=>.inl ((oI x hx).1 h),?_⟩,fun b hb=>?_⟩; (rintro (h | ⟨k,e5,_⟩); (exact (oI x hx).2 h); (exfalso; (try dsimp only at e5); omega)); (exfalso; (try dsimp only at hb); omega))
       ·(refine ⟨ob,fun j hj=>by (try dsimp only at hj); omega⟩)
     ·refine av ?_;(refine ⟨fun _=>⟨hpa,fun i hi=>TG i om⟩,fun _=>rfl⟩)
    ·(refine ⟨ob,om,fun x hx=>⟨fun h=>?_,fun ⟨j,e,_⟩=>?_⟩,fun j hj=>?_⟩; (exact absurd (bG x om) h); (exfalso; (try dsimp only at e); omega); (exfalso; (try dsimp only at hj); omega))
  ·(refine ⟨ob,by simp,fun x hx=>by dsimp only at hx; omega⟩)
theorem aaX {l_:(List aS)} (h1:l_.length≤2000000):W (JA l_) (fun r=>r=l_.map aS.mI):=by
 unfold JA;refine bF (fun (g1:(Int×(List nE)))=>0≤g1.1∧g1.1≤l_.length∧g1.2=(l_.take g1.1.toNat).map aS.mI) (fun (g1:(Int×(List nE)))=>(l_.length - g1.1).toNat) ?_ ?_
 ·intro aj g1 dQ bS;obtain ⟨dG,bE,bG⟩:=dQ;unfold Qq;have hgl:g1.2.length=g1.1.toNat:=(by rw [bG,List.length_map,List.length_take]; omega);refine wi (fun c1=>?_) (fun c1=>?_)
  ·refine wm ?_;refine wn ?_;refine bS _ ?_ ?_
   ·(refine ⟨ob,ob,?_⟩; dsimp only; rw [show (g1.1+1).toNat=g1.1.toNat+1 by omega,iC bH om,List.map_append,bG]; rfl)
   ·exact ob
  ·refine av ?_;(rw [bG,show g1.1.toNat=l_.length by omega,List.take_length])
 ·(refine ⟨ob,ob,rfl⟩)
def fnG (l:List ByteArray) (j:Nat):ByteArray:=l.getD j ByteArray.empty
theorem alj {l:List ByteArray} {f:ByteArray} (h:0<cntF l f):∃j:Nat,(j:Int)<l.length∧fnG l j=f:=by
 unfold cntF at h;obtain ⟨x,hx,e⟩:=List.countP_pos_iff.1 h;obtain ⟨j,hj,rfl⟩:=List.mem_iff_getElem.1 hx;exact ⟨j,om,by unfold fnG; rw [List.getD_eq_getElem?_getD,List.getElem?_eq_getElem hj]; simpa using e⟩
theorem ac4 {l:List Int} {p:Int→Bool}:l.any p=false↔∀j:Nat,(j:Int)<l.length→p (l.getD j 0)=false:=by
 rw [List.any_eq_false];constructor
 ·intro h j hj;have:=h _ (getD_in (i:=j) 0 om);simpa using this
 ·intro h;have:∀x∈l,p x=false:=jG 0 fun j hj=>h j om;intro x hx;rw [this x hx]; decide
theorem LB {s_:gW} (h1:aaG s_):W (oV s_) (fun r=>r=fq s_.bD.bQ s_.aV.dD []):=by
 obtain ⟨⟨s1,s2,s3,s4,s5,s6,s7⟩,vl_,n1,n2,⟨n3,n4⟩,m1,⟨z1,z2,z3,z4,z5,z6⟩⟩:=h1;unfold oV;refine aH (aaD ob ob ob ob) fun v1 hv1=>?_;subst v1;refine av ?_;rfl
theorem LC {s_:gW} (h1:aaG s_) (h2:agv s_) (h3:fq s_.bD.bQ s_.aV.dD []=true):W (oW s_) (fun r=>r=true↔∀i:Nat,(i:Int)<s_.aP.length→alh s_.bD s_.aV (s_.dA.getD (s_.aP.getD i 0).toNat bq) s_.jM):=by
 obtain ⟨⟨s1,s2,s3,s4,s5,s6,s7⟩,vl_,n1,n2,⟨n3,n4⟩,m1,⟨z1,z2,z3,z4,z5,z6⟩⟩:=h1;obtain ⟨y1,y2,y3,y4,y5,y6⟩:=h2;obtain ⟨k1,k2,k3⟩:=VA h3;unfold oW;refine aH (aaE ob ob ob) fun v1 hv1=>?_;subst v1;refine bV (fun c1=>?_) (fun c1=>?_)
 ·have fU:=c1;have c1:=nr c1;refine av ?_;(exact absurd (agC k1 k2) c1)
 ·have fU:=c1;have c1:=nr c1;obtain ⟨r1,r2,r3⟩:=akW (by simpa using fU);have hrl:(uU s_.bD.bQ s_.aV.dD).1.length=s_.bD.bQ.length:=(by rw [r3]; exact rE ..);refine bF (fun (g1:Int)=>0≤g1∧(∀i:Nat,(i:Int)<g1→alh s_.bD s_.aV (s_.dA.getD (s_.aP.getD i 0).toNat bq) s_.jM)) (fun (g1:Int)=>(s_.aP.length - g1).toNat) ?_ ?_
  ·intro aj g1 dQ bS;obtain ⟨dG,bE⟩:=dQ;unfold xZ;refine wi (fun c2=>?_) (fun c2=>?_)
   ·have hmem:=getD_in (l:=s_.aP) (i:=g1.toNat) 0 om;have hmi:=y1 _ hmem;have hnd:=getD_in (l:=s_.dA) (i:=(s_.aP.getD g1.toNat 0).toNat) bq om;have hno:=n2 _ hnd;have hns:=n4 _ hnd;refine wm ?_;refine bF (fun (g4:Int)=>0≤g4∧(∀j:Nat,(j:Int)<g4→alg ((gD s_.bD.bQ s_.aV.dD).getD ((s_.dA.getD (s_.aP.getD g1.toNat 0).toNat bq).bY.getD j dn).eU.toNat dV) ((s_.dA.getD (s_.aP.getD g1.toNat 0).toNat bq).bY.getD j dn) s_.jM)) (fun (g4:Int)=>((s_.dA.getD (s_.aP.getD g1.toNat 0).toNat bq).bY.length - g4).toNat) ?_ ?_
    ·intro jm g4 Iq EB;obtain ⟨FH,lY⟩:=Iq;unfold xY;refine wi (fun c3=>?_) (fun c3=>?_)
     ·obtain ⟨x1,x2,x3,x4,x5⟩:=hno.lm _ (getD_in (i:=g4.toNat) dn om);have hll:=hno.ll;have hv:=akX r1 r2 (((s_.dA.getD ((s_.aP.getD g1.toNat 0).toNat) bq).bY.getD g4.toNat dn).eU.toNat) om;rw [← r3] at hv;have q1:=Vl (show 0≤_ by exact Int.le_trans (by decide) hv.1) hv.2 (Int.le_trans x3 x4) x5;have q2:=Vl (show 0≤_ by exact Int.le_trans (by decide) hv.1) hv.2 x3 (Int.le_trans x4 x5);refine wm ?_;refine wm ?_;refine wi (fun c4=>?_) (fun c4=>?_)
      ·rw [r3] at c4;refine av ?_;(constructor; (intro e; cases e); (intro h; exfalso; obtain ⟨l1,l2,l3⟩:=h g1.toNat om g4.toNat om; rcases c4 with (c4 | c4) | c4; (exact l1 c4); (exact Int.not_lt.2 l2 c4); (exact Int.not_lt.2 (l3 (by simpa using c4.1)) c4.2)))
      ·rw [r3] at c4;refine wn ?_;refine EB _ ?_ ?_
       ·(refine ⟨ob,dR lY FH ⟨c4.1.1,c4.1.2,fun e=>c4.2.resolve_left (by rw [e]; decide)⟩⟩)
       ·exact ob
     ·have hll:=hno.ll;refine wn ?_;refine bS _ ?_ ?_
      ·(refine ⟨ob,dR bE dG (fun j hj=>lY j om)⟩)
      ·exact ob
    ·(refine ⟨ob,fun j hj=>by (try dsimp only at hj); omega⟩)
   ·refine av ?_;(constructor; (intro _; exact fun i hi=>bE i om); (intro _; rfl))
  ·(refine ⟨ob,fun j hj=>by (try dsimp only at hj); omega⟩)
theorem Ir {s_:gW} (h1:aaG s_) (h2:agv s_):W (mY s_) (fun r=>r=Sp.fq s_.bD.bB s_.aV.eZ (drM s_.dA s_.aP)):=by
 obtain ⟨⟨s1,s2,s3,s4,s5,s6,s7⟩,vl_,n1,n2,⟨n3,n4⟩,m1,⟨z1,z2,z3,z4,z5,z6⟩⟩:=h1;obtain ⟨y1,y2,y3,y4,y5,y6⟩:=h2;unfold mY;refine bF (fun (g1:(Int×(List aW)))=>0≤g1.1∧g1.1≤s_.aP.length∧(g1.2.length:Int)≤32*g1.1∧g1.2=drM s_.dA (s_.aP.take g1.1.toNat)) (fun (g1:(Int×(List aW)))=>(s_.aP.length - g1.1).toNat) ?_ ?_
 ·intro aj g1 dQ bS;obtain ⟨dG,bE,bG,kC⟩:=dQ;unfold vv;refine wi (fun c1=>?_) (fun c1=>?_)
  ·have hmem:=getD_in (l:=s_.aP) (i:=g1.1.toNat) 0 om;have hmi:=y1 _ hmem;have hnd:=getD_in (l:=s_.dA) (i:=(s_.aP.getD g1.1.toNat 0).toNat) bq om;have hno:=n2 _ hnd;have hns:=n4 _ hnd;have hdl:=hno.dl;refine wm ?_;refine wm ?_;refine bS _ ?_ ?_
   ·(refine ⟨ob,ob,ob,?_⟩; dsimp only; unfold drM at *; rw [show (g1.1+1).toNat=g1.1.toNat+1 by omega,iC 0 om,List.flatMap_append,kC]; simp only [List.flatMap_cons,List.flatMap_nil,List.append_nil])
   ·exact ob
  ·refine aH (aeM ob ob) fun v1 hv1=>?_;subst v1;refine aH (Sp.NT ob ob ob) fun v2 hv2=>?_;subst v2;refine av ?_;(rw [kC,show g1.1.toNat=s_.aP.length by omega,List.take_length])
 ·(refine ⟨ob,ob,ob,rfl⟩)
theorem PE {s_:gW} (h1:aaG s_) (h2:∀g∈s_.bD.aQ.aD,g.bO.length≤2000000∧g.ak.length≤2000000):W (rR s_) (fun r=>(r=true↔Eh s_.bD.aQ 0∧Rz s_.bD.aQ (s_.aV.dZ.map aS.mI))):=by
 obtain ⟨⟨s1,s2,s3,s4,s5,s6,s7⟩,vl_,n1,n2,⟨n3,n4⟩,m1,⟨z1,z2,z3,z4,z5,z6⟩⟩:=h1;unfold rR;refine bF (fun (g1:(Int×(List nE)))=>0≤g1.1∧g1.1≤s_.aV.dZ.length∧g1.2=(s_.aV.dZ.take g1.1.toNat).map aS.mI) (fun (g1:(Int×(List nE)))=>(s_.aV.dZ.length - g1.1).toNat) ?_ ?_
 ·intro aj g1 dQ bS;obtain ⟨dG,bE,bG⟩:=dQ;unfold BF;have hgl:g1.2.length=g1.1.toNat:=(by rw [bG,List.length_map,List.length_take]; omega);refine wi (fun c1=>?_) (fun c1=>?_)
  ·refine wm ?_;refine wn ?_;refine bS _ ?_ ?_
   ·(refine ⟨ob,ob,?_⟩; dsimp only; rw [show (g1.1+1).toNat=g1.1.toNat+1 by omega,iC bH om,List.map_append,bG]; rfl)
   ·exact ob
  ·refine aH (ZQ h2 ob) fun v1 hv1=>?_;refine av ?_;(rw [bG,show g1.1.toNat=s_.aV.dZ.length by omega,List.take_length] at hv1; rw [← hv1]; simp)
 ·(refine ⟨ob,ob,rfl⟩)
theorem Gq {s_:gW} (h1:aaG s_) (h2:agv s_) (h3:∀u∈s_.aV.dZ,Qx s_.bD.aQ u.mI):W (mD s_) (fun r=>r=true↔∀i:Nat,(i:Int)<s_.aP.length→ali s_.bD s_.aV (s_.dA.getD (s_.aP.getD i 0).toNat bq) (s_.aP.getD i 0)):=by
 obtain ⟨⟨s1,s2,s3,s4,s5,s6,s7⟩,vl_,n1,n2,⟨n3,n4⟩,m1,⟨z1,z2,z3,z4,z5,z6⟩⟩:=h1;obtain ⟨y1,y2,y3,y4,y5,y6⟩:=h2;unfold mD;refine bF (fun (g1:Int)=>0≤g1∧(∀i:Nat,(i:Int)<g1→ali s_.bD s_.aV (s_.dA.getD (s_.aP.getD i 0).toNat bq) (s_.aP.getD i 0))) (fun (g1:Int)=>(s_.aP.length - g1).toNat) ?_ ?_
 ·intro aj g1 dQ bS;obtain ⟨dG,bE⟩:=dQ;unfold tN;refine wi (fun c1=>?_) (fun c1=>?_)
  ·have hmem:=getD_in (l:=s_.aP) (i:=g1.toNat) 0 om;have hmi:=y1 _ hmem;have hnd:=getD_in (l:=s_.dA) (i:=(s_.aP.getD g1.toNat 0).toNat) bq om;have hno:=n2 _ hnd;have hns:=n4 _ hnd;have hfl:=hno.fl;refine wn ?_;refine bF (fun (g6:(Int×(qo→Option Int)))=>0≤g6.1∧g6.1≤s_.aV.dZ.length∧(∀k,0≤BS g6.2 k∧BS g6.2 k≤g6.1)∧(∀f,BS g6.2 (.s f)=(PD s_.bD.aQ (s_.aV.dZ.take g6.1.toNat) (s_.aP.getD g1.toNat 0) f:Int))) (fun (g6:(Int×(qo→Option Int)))=>(s_.aV.dZ.length - g6.1).toNat) ?_ ?_
   ·intro jE g6 JO Gi;obtain ⟨FD,rH,Lb,Xa⟩:=JO;unfold tL;refine wi (fun c2=>?_) (fun c2=>?_)
    ·obtain ⟨u1,u2,u3,u4⟩:=h3 _ (getD_in (i:=g6.1.toNat) bH om);have hmk:=Lb (.s (((s_.bD.aQ.aD.getD ((((s_.aV.dZ.getD g6.1.toNat bH).mI).dF).toNat) aG).ak).getD ((((s_.aV.dZ.getD g6.1.toNat bH).mI).gV).toNat) ByteArray.empty));refine wn ?_;refine bV (fun c3=>?_) (fun c3=>?_)
     ·have jI:=c3;have c3:=nr c3;refine wm ?_;refine wm ?_;refine Gi _ ?_ ?_
      ·(refine ⟨ob,ob,fun k=>?_,fun f=>?_⟩; (dsimp only; rw [yU]; have:=Lb k; split<;>omega); dsimp only; rw [yU,Xa,Xa,show (g6.1+1).toNat=g6.1.toNat+1 by omega,iC bH om,Pf]; by_cases q:f=nmU s_.bD.aQ (s_.aV.dZ.getD g6.1.toNat bH).mI; (subst q; refine (if_pos rfl).trans ?_; rw [if_pos ⟨by simpa using jI,rfl⟩]; show ((PD _ _ _ (nmU _ _):Nat):Int)+1=_; omega); (refine (if_neg (fun e=>q (qo.s.inj e))).trans ?_; rw [if_neg (fun e=>q e.2.symm)]; rfl))
      ·exact ob
     ·have jI:=c3;have c3:=nr c3;refine wn ?_;refine Gi _ ?_ ?_
      ·(refine ⟨ob,ob,fun k=>?_,fun f=>?_⟩; (have:=Lb k; dsimp only; omega); dsimp only; rw [Xa,show (g6.1+1).toNat=g6.1.toNat+1 by omega,iC bH om,Pf,if_neg (fun e=>absurd e.1 (by simpa using jI))]; rfl)
      ·exact ob
    ·refine wn ?_;refine bF (fun (g7:(Int×(qo→Option Int)))=>0≤g7.1∧(∀k,0≤BS g7.2 k∧BS g7.2 k≤2000000)∧(∀f,BS g7.2 (.s f)=(PD s_.bD.aQ s_.aV.dZ (s_.aP.getD g1.toNat 0) f:Int) - (cntF ((s_.dA.getD (s_.aP.getD g1.toNat 0).toNat bq).ak.take g7.1.toNat) f:Int))) (fun (g7:(Int×(qo→Option Int)))=>((s_.dA.getD (s_.aP.getD g1.toNat 0).toNat bq).ak.length - g7.1).toNat) ?_ ?_
     ·intro mW g7 Xv Tz;obtain ⟨ZL,BO,ahv⟩:=Xv;unfold sS;refine wi (fun c4=>?_) (fun c4=>?_)
      ·have hmk:=BO (.s (((s_.dA.getD ((s_.aP.getD g1.toNat 0).toNat) bq).ak).getD g7.1.toNat ByteArray.empty));have hlt:g7.1.toNat<(s_.dA.getD (s_.aP.getD g1.toNat 0).toNat bq).ak.length:=om;have hts:=iC ByteArray.empty hlt;have hcs:cntF ((s_.dA.getD (s_.aP.getD g1.toNat 0).toNat bq).ak.take (g7.1.toNat+1)) ((s_.dA.getD (s_.aP.getD g1.toNat 0).toNat bq).ak.getD g7.1.toNat ByteArray.empty)=cntF ((s_.dA.getD (s_.aP.getD g1.toNat 0).toNat bq).ak.take g7.1.toNat) ((s_.dA.getD (s_.aP.getD g1.toNat 0).toNat bq).ak.getD g7.1.toNat ByteArray.empty)+1:=(by rw [hts,Ph,if_pos rfl]);have hct:=aiN (l:=(s_.dA.getD (s_.aP.getD g1.toNat 0).toNat bq).ak) (f:=(s_.dA.getD (s_.aP.getD g1.toNat 0).toNat bq).ak.getD g7.1.toNat ByteArray.empty) (g7.1.toNat+1);have hq:=ahv ((s_.dA.getD (s_.aP.getD g1.toNat 0).toNat bq).ak.getD g7.1.toNat ByteArray.empty);refine wm ?_;refine wi (fun c5=>?_) (fun c5=>?_)
       ·refine av ?_;(constructor; (intro e; cases e); (intro h; exfalso; rw [yU,if_pos rfl] at c5; have hff:=h g1.toNat om ((s_.dA.getD (s_.aP.getD g1.toNat 0).toNat bq).ak.getD g7.1.toNat ByteArray.empty); omega))
       ·rw [yU,if_pos rfl] at c5;refine wn ?_;refine Tz _ ?_ ?_
        ·(refine ⟨ob,fun k=>?_,fun f=>?_⟩; (dsimp only; rw [yU]; have:=BO k; split<;>omega); dsimp only; rw [yU,show (g7.1+1).toNat=g7.1.toNat+1 by omega]; by_cases q:f=(s_.dA.getD (s_.aP.getD g1.toNat 0).toNat bq).ak.getD g7.1.toNat ByteArray.empty; (subst q; rw [if_pos rfl,hcs]; omega); (rw [if_neg (fun e=>q (qo.s.inj e)),hts,Ph,if_neg (fun e=>q e.symm),ahv f]; rfl))
        ·exact ob
      ·refine wn ?_;refine bS _ ?_ ?_
       ·(refine ⟨ob,dR bE dG (fun f=>?_)⟩; have e1:=ahv f; have e2:=BO (.s f); rw [List.take_of_length_le om] at e1; omega)
       ·exact ob
     ·(refine ⟨ob,fun k=>by have:=Lb k; dsimp only; omega,fun f=>?_⟩; dsimp only; rw [Xa f,show g6.1.toNat=s_.aV.dZ.length by omega,List.take_length]; show _=_ - ((0:Nat):Int); omega)
   ·(refine ⟨ob,ob,fun k=>⟨Int.le_refl _,Int.le_refl _⟩,fun f=>rfl⟩)
  ·refine av ?_;(constructor; (intro _; exact fun i hi=>bE i om); (intro _; rfl))
 ·(refine ⟨ob,fun j hj=>by (try dsimp only at hj); omega⟩)
theorem LD {s_:gW} (h1:aaG s_) (h2:agv s_):W (oZ s_) (fun r=>(r=true↔(RsA s_.bD.bg 0∧ale s_.bD.bg s_.aV.eu)∧∀i:Nat,(i:Int)<s_.aP.length→amX s_.aV (s_.dA.getD (s_.aP.getD i 0).toNat bq))):=by
 obtain ⟨⟨s1,s2,s3,s4,s5,s6,s7⟩,vl_,n1,n2,⟨n3,n4⟩,m1,⟨z1,z2,z3,z4,z5,z6⟩⟩:=h1;obtain ⟨y1,y2,y3,y4,y5,y6⟩:=h2;unfold oZ;refine aH (XA ob) fun v1 hv1=>?_;refine bV (fun c1=>?_) (fun c1=>?_)
 ·have fU:=c1;have c1:=nr c1;refine av ?_;(constructor; (intro e; cases e); (intro h; exact absurd (hv1.2 h.1) (by simpa using fU)))
 ·have fU:=c1;have c1:=nr c1;refine bF (fun (g1:Int)=>0≤g1∧(∀i:Nat,(i:Int)<g1→amX s_.aV (s_.dA.getD (s_.aP.getD i 0).toNat bq))) (fun (g1:Int)=>(s_.aP.length - g1).toNat) ?_ ?_
  ·intro aj g1 dQ bS;obtain ⟨dG,bE⟩:=dQ;unfold x9;refine wi (fun c2=>?_) (fun c2=>?_)
   ·have hmem:=getD_in (l:=s_.aP) (i:=g1.toNat) 0 om;have hmi:=y1 _ hmem;have hnd:=getD_in (l:=s_.dA) (i:=(s_.aP.getD g1.toNat 0).toNat) bq om;have hno:=n2 _ hnd;have hns:=n4 _ hnd;refine wm ?_;refine aH (Bf om (fun x hx=>(by have:=hno.rs x hx; omega))) fun v4 hv4=>?_;subst v4;refine bV (fun c3=>?_) (fun c3=>?_)
    ·have jI:=c3;have c3:=nr c3;refine av ?_;(constructor; (intro e; cases e); (intro h; exfalso; have:=ac4.2 (fun j hj=>by have:=h.2 g1.toNat om j hj; rw [this]; rfl) |>.symm.trans jI; cases this))
    ·have jI:=c3;have c3:=nr c3;refine wn ?_;refine bS _ ?_ ?_
     ·(refine ⟨ob,dR bE dG (fun j hj=>?_)⟩; have:=ac4.1 jI j hj; simpa using this)
     ·exact ob
   ·refine av ?_;(constructor; (intro _; exact ⟨hv1.1 (by simpa using fU),fun i hi=>bE i om⟩); (intro _; rfl))
  ·(refine ⟨ob,fun j hj=>by (try dsimp only at hj); omega⟩)
theorem JX {s_:gW} (h1:aaG s_) (h2:agv s_):W (nN s_) (fun r=>(r=true↔(DmA s_.bD.cB 0∧RgP s_.bD.cB s_.aV.fA)∧∀i:Nat,(i:Int)<s_.aP.length→amY s_.aV (s_.dA.getD (s_.aP.getD i 0).toNat bq))):=by
 obtain ⟨⟨s1,s2,s3,s4,s5,s6,s7⟩,vl_,n1,n2,⟨n3,n4⟩,m1,⟨z1,z2,z3,z4,z5,z6⟩⟩:=h1;obtain ⟨y1,y2,y3,y4,y5,y6⟩:=h2;unfold nN;refine aH (XD) fun v1 hv1=>?_;refine bV (fun c1=>?_) (fun c1=>?_)
 ·have fU:=c1;have c1:=nr c1;refine av ?_;(constructor; (intro e; cases e); (intro h; exact absurd (hv1.2 h.1) (by simpa using fU)))
 ·have fU:=c1;have c1:=nr c1;refine aH (Bg om (fun x hx=>(by have q:=y1 x hx; have:=(n2 _ (getD_in (i:=x.toNat) bq om)).dm; omega))) fun v2 hv2=>?_;subst v2;refine av ?_;(rw [Bool.not_eq_true',ac4]; constructor; (intro h; refine ⟨hv1.1 (by simpa using fU),fun i hi=>?_⟩; have:=h i hi; intro h0; simp only [Bool.and_eq_false_iff,decide_eq_false_iff_not,Bool.not_eq_false'] at this; exact this.resolve_left (fun q=>q h0)); (intro h j hj; have:=h.2 j hj; unfold amY at this; simp only [Bool.and_eq_false_iff,decide_eq_false_iff_not,Bool.not_eq_false']; by_cases q:0≤(s_.dA.getD (s_.aP.getD j 0).toNat bq).fP; (exact .inr (this q)); exact .inl q))
theorem ZR {l:List aI} {s:List Int} {x:bK} (h:fq l s []=true) (hx:aaF l.length x):fq l s [⟨x.eU,0,x.fK⟩]=true↔alg ((gD l s).getD x.eU.toNat dV) x true:=by
 obtain ⟨x1,x2,x3,x4,x5⟩:=hx;rw [abK h x1 x2 (Int.le_refl 0) om x5,Int.zero_mul];obtain ⟨c1,c2,_⟩:=VA h;have hv:=(l9 (O8 (uz c1) c2 x.eU.toNat om).2.2.1).1;exact ⟨fun ⟨a,b,_⟩=>⟨a,b,nofun⟩,fun ⟨a,b,_⟩=>⟨a,b,hv⟩⟩
theorem RA {l:List aI} {s:List Int} {x:bK} (h:fq l s []=true) (hx:aaF l.length x):fq l s [⟨x.eU,x.Low,x.fK⟩]=true↔alg ((gD l s).getD x.eU.toNat dV) x false:=by
 obtain ⟨x1,x2,x3,x4,x5⟩:=hx;rw [abK h x1 x2 x3 x4 x5];exact ⟨fun ⟨a,b,c⟩=>⟨a,b,fun _=>c⟩,fun ⟨a,b,c⟩=>⟨a,b,c rfl⟩⟩
theorem Od {A B:Int→Prop} (h:Thn A B 0):A 0∧B 0:=by
 rcases h with h | h
 ·exact absurd rfl h.2
 ·exact h
theorem zI {b:aR} {l:List aK} (h:nY b l 0):anA b∧l.length≤12∧∀n∈l,aoZ b n:=by
 obtain ⟨h1,h2⟩:=Od h;obtain ⟨b1,h3⟩:=Od h1;obtain ⟨b2,h4⟩:=Od h3;obtain ⟨b3,h5⟩:=Od h4;obtain ⟨b4,b5⟩:=Od h5;obtain ⟨c1,c2⟩:=tT (by decide) h2;refine ⟨⟨b1.symm,b2.symm,b3.v.ok,b4.ok,b5.ok⟩,om,jG bq fun i hi=>?_⟩;obtain ⟨d1,d2⟩:=tT (by decide) (ald c2 i hi);obtain ⟨e1,e2⟩:=tT (by decide) d2;obtain ⟨f1,f2⟩:=tT (by decide) e2;obtain ⟨g1,g2⟩:=tT (by decide) f2;obtain ⟨k1,k2⟩:=tT (by decide) g2;obtain ⟨m1,m2⟩:=tT (by decide) k2;refine ⟨om,om,om,jG dn fun j hj=>?_,jG dI fun j hj=>?_,jG 0 fun j hj=>?_,Classical.not_not.1 m1⟩
 ·exact Classical.byContradiction fun q=>e1 ⟨j,om,q⟩
 ·exact Classical.byContradiction fun q=>f1 ⟨j,om,q⟩
 ·exact Classical.byContradiction fun q=>k1 ⟨j,om,q⟩
def aqt (b:aR) (l:List aK) (ms:List Int) (g:bL) (bt:Bool):Prop:=∀i:Nat,(i:Int)<ms.length→alh b g (l.getD (ms.getD i 0).toNat bq) bt
def amZ (b:aR) (l:List aK) (ms:List Int) (g:bL):Prop:=∀i:Nat,(i:Int)<ms.length→ali b g (l.getD (ms.getD i 0).toNat bq) (ms.getD i 0)
def aqu (b:aR) (l:List aK) (ms:List Int) (g:bL):Prop:=(RsA b.bg 0∧ale b.bg g.eu)∧∀i:Nat,(i:Int)<ms.length→amX g (l.getD (ms.getD i 0).toNat bq)
def as8 (b:aR) (l:List aK) (ms:List Int) (g:bL):Prop:=(DmA b.cB 0∧RgP b.cB g.fA)∧∀i:Nat,(i:Int)<ms.length→amY g (l.getD (ms.getD i 0).toNat bq)
def alk (b:aR) (l:List aK) (ms:List Int) (g:bL) (bt:Bool):Int→Prop:=
 JQ (¬(EG l ms∧alf b l g)) 1<|
 JQ (fq b.bQ g.dD []=false) 2<|
 JQ (¬aqt b l ms g bt) 3<|
 JQ (Sp.fq b.bB g.eZ (drM l ms)=false) 4<|
 JQ (¬(Eh b.aQ 0∧Rz b.aQ (g.dZ.map aS.mI))) 5<|
 JQ (¬amZ b l ms g) 6<|
 JQ (¬aqu b l ms g) 7<|
 JQ (¬as8 b l ms g) 8<|
 fun r=>r=0
theorem alk.fun {b:aR} {l:List aK} {ms:List Int} {g:bL} {bt:Bool}:ED (alk b l ms g bt):=.IX (.IX (.IX (.IX (.IX (.IX (.IX (.IX .zero)))))))
def aeY (b:aR) (l:List aK) (ms:List Int) (g:bL) (bt:Bool):Int→Prop:=JQ (¬nY b l 0) 1 (alk b l ms g bt)
theorem aeY.fun {b:aR} {l:List aK} {ms:List Int} {g:bL} {bt:Bool}:ED (aeY b l ms g bt):=.IX alk.fun
theorem aqv {s:gW} (h:EG s.dA s.aP∧alf s.bD s.dA s.aV):agv s:=by
 obtain ⟨h1,⟨h2,h3,h4,h5,h6⟩,_,_⟩:=h;exact ⟨jG 0 fun j hj=>(h1 j om).1,om,om,om,om,om⟩
theorem TL {p:bn} {us:List aS} (h:Rz p (us.map aS.mI)):∀u∈us,Qx p u.mI:=by
 refine jG bH fun i hi=>?_;have:=(h i (by rw [List.length_map]; omega)).1;rw [sF (d:=bH) hi] at this;exact this
theorem LG {s_:gW} (h1:aaG s_) (h2:∀g∈s_.bD.aQ.aD,g.bO.length≤2000000∧g.ak.length≤2000000):W (o8 s_) (fun r=>alk s_.bD s_.dA s_.aP s_.aV s_.jM r):=by
 unfold o8;refine wn ?_;refine aH (Oc h1) fun v1 hv1=>?_;refine wi (fun c1=>?_) (fun c1=>?_)
 ·refine wn ?_;refine av ?_;(exact dW (kL hv1 c1))
 ·have q1:=hv1.1 c1;have hsh:=aqv q1;refine wm ?_;refine aH (LB h1) fun v2 hv2=>?_;subst v2;refine wi (fun c2=>?_) (fun c2=>?_)
  ·refine wn ?_;refine av ?_;(exact aL (fun h=>h q1) (dW c2))
  ·refine wm ?_;refine aH (LC h1 hsh c2) fun v3 hv3=>?_;refine wi (fun c3=>?_) (fun c3=>?_)
   ·refine wn ?_;refine av ?_;(exact aL (fun h=>h q1) (aL (by rw [c2]; decide) (dW (kL hv3 c3))))
   ·have q3:=hv3.1 c3;refine wm ?_;refine aH (Ir h1 hsh) fun v4 hv4=>?_;subst v4;refine wi (fun c4=>?_) (fun c4=>?_)
    ·refine wn ?_;refine av ?_;(exact aL (fun h=>h q1) (aL (by rw [c2]; decide) (aL (fun h=>h q3) (dW c4))))
    ·refine wm ?_;refine aH (PE h1 h2) fun v5 hv5=>?_;refine wi (fun c5=>?_) (fun c5=>?_)
     ·refine wn ?_;refine av ?_;(exact aL (fun h=>h q1) (aL (by rw [c2]; decide) (aL (fun h=>h q3) (aL (by rw [c4]; decide) (dW (kL hv5 c5))))))
     ·have q5:=hv5.1 c5;refine wm ?_;refine aH (Gq h1 hsh (TL q5.2)) fun v6 hv6=>?_;refine wi (fun c6=>?_) (fun c6=>?_)
      ·refine wn ?_;refine av ?_;(exact aL (fun h=>h q1) (aL (by rw [c2]; decide) (aL (fun h=>h q3) (aL (by rw [c4]; decide) (aL (fun h=>h q5) (dW (kL hv6 c6)))))))
      ·have q6:=hv6.1 c6;refine wm ?_;refine aH (LD h1 hsh) fun v7 hv7=>?_;refine wi (fun c7=>?_) (fun c7=>?_)
       ·refine wn ?_;refine av ?_;(exact aL (fun h=>h q1) (aL (by rw [c2]; decide) (aL (fun h=>h q3) (aL (by rw [c4]; decide) (aL (fun h=>h q5) (aL (fun h=>h q6) (dW (kL hv7 c7))))))))
       ·have q7:=hv7.1 c7;refine wm ?_;refine aH (JX h1 hsh) fun v8 CU=>?_;refine wi (fun c8=>?_) (fun c8=>?_)
        ·refine wn ?_;refine av ?_;(exact aL (fun h=>h q1) (aL (by rw [c2]; decide) (aL (fun h=>h q3) (aL (by rw [c4]; decide) (aL (fun h=>h q5) (aL (fun h=>h q6) (aL (fun h=>h q7) (dW (kL CU c8)))))))))
        ·refine wn ?_;refine av ?_;(exact aL (fun h=>h q1) (aL (by rw [c2]; decide) (aL (fun h=>h q3) (aL (by rw [c4]; decide) (aL (fun h=>h q5) (aL (fun h=>h q6) (aL (fun h=>h q7) (aL (fun h=>h (CU.1 c8)) rfl))))))))
theorem XG {b_:aR} {l_:(List aK)} {ah:(List Int)} {g_:bL} {gN:Bool} (h1:Gg b_) (h2:∀g∈b_.aQ.aD,g.bO.length≤2000000∧g.ak.length≤2000000) (h3:Rw l_) (h4:ah.length≤10000) (h5:Xu g_):W (Cx b_ l_ ah g_ gN) (fun r=>aeY b_ l_ ah g_ gN r):=by
 unfold Cx;refine aH (QE h1 h2 h3) fun v1 hv1=>?_;refine wi (fun c1=>?_) (fun c1=>?_)
 ·refine av ?_;exact dW (fun h=>c1 (nY.fun _ _ hv1 h))
 ·have hn0:nY b_ l_ 0:=(by rw [c1] at hv1; exact hv1);obtain ⟨nk1,nk2,nk3⟩:=zI hn0;refine aH (LG ⟨h1,nk1,nk2,nk3,h3,h4,h5⟩ h2) fun v2 hv2=>?_;refine av ?_;exact aL (fun h=>h hn0) hv2
theorem XH {b_:aR} {g_:bL} {x_:aK} {gN:Bool} (h1:b_.bQ.length≤2000000) (h2:g_.dD.length≤2000000) (h3:aer b_.bQ) (h4:fq b_.bQ g_.dD []=true) (h5:∀x∈x_.bY,aaF b_.bQ.length x) (h6:x_.bY.length≤2000000):W (CB b_ g_ x_ gN) (fun r=>r=true↔alh b_ g_ x_ gN):=by
 unfold CB;refine bF (fun (g1:Int)=>0≤g1∧(∀j:Nat,(j:Int)<g1→alg ((gD b_.bQ g_.dD).getD (x_.bY.getD j dn).eU.toNat dV) (x_.bY.getD j dn) gN)) (fun (g1:Int)=>(x_.bY.length - g1).toNat) ?_ ?_
 ·intro aj g1 dQ bS;obtain ⟨dG,bE⟩:=dQ;unfold KV;refine wi (fun c1=>?_) (fun c1=>?_)
  ·have hx:=h5 _ (getD_in (i:=g1.toNat) dn om);refine wn ?_;refine wi (fun c2=>?_) (fun c2=>?_)
   ·subst c2;unfold qb;refine aH (Ej ob ob ob ob) fun v3 hv3=>?_;subst v3;refine wi (fun c3=>?_) (fun c3=>?_)
    ·refine av ?_;(constructor; (intro e; cases e); (intro h; exfalso; rw [(ZR h4 hx).2 (h g1.toNat om)] at c3; cases c3))
    ·refine wn ?_;refine bS _ ?_ ?_
     ·(refine ⟨ob,dR bE dG ((ZR h4 hx).1 c3)⟩)
     ·exact ob
   ·subst c2;unfold qb;refine aH (Ej ob ob ob ob) fun v3 hv3=>?_;subst v3;refine wi (fun c4=>?_) (fun c4=>?_)
    ·refine av ?_;(constructor; (intro e; cases e); (intro h; exfalso; rw [(RA h4 hx).2 (h g1.toNat om)] at c4; cases c4))
    ·refine wn ?_;refine bS _ ?_ ?_
     ·(refine ⟨ob,dR bE dG ((RA h4 hx).1 c4)⟩)
     ·exact ob
  ·refine av ?_;(constructor; (intro _; exact fun j hj=>bE j om); (intro _; rfl))
 ·(refine ⟨ob,fun j hj=>by (try dsimp only at hj); omega⟩)
theorem RB {b_:aR} {g_:bL} {x_:aK} {bN:Int} (h1:g_.dZ.length≤2000000) (h2:x_.ak.length≤2000000) (h3:∀u∈g_.dZ,Qx b_.aQ u.mI):W (uq b_ g_ x_ bN) (fun r=>r=true↔ali b_ g_ x_ bN):=by
 unfold uq;refine bF (fun (g1:Int)=>0≤g1∧(∀j:Nat,(j:Int)<g1→cntF x_.ak (fnG x_.ak j)≤PD b_.aQ g_.dZ bN (fnG x_.ak j))) (fun (g1:Int)=>(x_.ak.length - g1).toNat) ?_ ?_
 ·intro aj g1 dQ bS;obtain ⟨dG,bE⟩:=dQ;unfold D8;refine wi (fun c1=>?_) (fun c1=>?_)
  ·refine wn ?_;refine bF (fun (g6:(Int×Int))=>0≤g6.2∧g6.2≤x_.ak.length∧(0≤g6.1∧g6.1≤g6.2)∧g6.1=(cntF (x_.ak.take g6.2.toNat) (x_.ak.getD g1.toNat ByteArray.empty):Int)) (fun (g6:(Int×Int))=>(x_.ak.length - g6.2).toNat) ?_ ?_
   ·intro jE g6 JO Gi;obtain ⟨FD,rH,Lb,Xa⟩:=JO;unfold D7;refine wi (fun c2=>?_) (fun c2=>?_)
    ·refine wn ?_;refine bV (fun c3=>?_) (fun c3=>?_)
     ·have jI:=c3;have c3:=nr c3;refine wm ?_;refine Gi _ ?_ ?_
      ·(refine ⟨ob,ob,ob,?_⟩; dsimp only; rw [Xa,show (g6.2+1).toNat=g6.2.toNat+1 by omega,iC ByteArray.empty om,Ph,if_pos (Vy (by simpa using jI))]; rfl)
      ·exact ob
     ·have jI:=c3;have c3:=nr c3;refine wn ?_;refine Gi _ ?_ ?_
      ·(refine ⟨ob,ob,ob,?_⟩; dsimp only; rw [Xa,show (g6.2+1).toNat=g6.2.toNat+1 by omega,iC ByteArray.empty om,Ph,if_neg (fun e=>by rw [e] at jI; simp at jI)]; rfl)
      ·exact ob
    ·refine bF (fun (g7:(Int×Int))=>0≤g7.2∧g7.2≤g_.dZ.length∧(0≤g7.1∧g7.1≤g7.2)∧g7.1=(PD b_.aQ (g_.dZ.take g7.2.toNat) bN (x_.ak.getD g1.toNat ByteArray.empty):Int)) (fun (g7:(Int×Int))=>(g_.dZ.length - g7.2).toNat) ?_ ?_
     ·intro mW g7 Xv Tz;obtain ⟨ZL,BO,ahv,alm⟩:=Xv;unfold BL;refine wi (fun c4=>?_) (fun c4=>?_)
      ·obtain ⟨u1,u2,u3,u4⟩:=h3 _ (getD_in (i:=g7.2.toNat) bH om);refine wm ?_;refine wn ?_;refine bV (fun c5=>?_) (fun c5=>?_)
       ·have CV:=c5;have c5:=nr c5;refine wm ?_;refine Tz _ ?_ ?_
        ·(refine ⟨ob,ob,ob,?_⟩; dsimp only; rw [alm,show (g7.2+1).toNat=g7.2.toNat+1 by omega,iC bH om,Pf,if_pos (by simp only [Bool.and_eq_true,beq_iff_eq] at CV; exact ⟨CV.1,Vy CV.2⟩)]; rfl)
        ·exact ob
       ·have CV:=c5;have c5:=nr c5;refine wn ?_;refine Tz _ ?_ ?_
        ·(refine ⟨ob,ob,ob,?_⟩; dsimp only; rw [alm,show (g7.2+1).toNat=g7.2.toNat+1 by omega,iC bH om,Pf,if_neg (fun e=>by have e2:=e.2; unfold nmU at e2; rw [e.1,e2] at CV; simp at CV)]; rfl)
        ·exact ob
      ·rw [List.take_of_length_le om] at Xa alm;refine wi (fun c6=>?_) (fun c6=>?_)
       ·refine av ?_;(constructor; (intro e; cases e); (intro h; exfalso; have:=h (x_.ak.getD g1.toNat ByteArray.empty); omega))
       ·refine wn ?_;refine bS _ ?_ ?_
        ·(refine ⟨ob,dR bE dG (by unfold fnG; omega)⟩)
        ·exact ob
     ·(refine ⟨ob,ob,ob,rfl⟩)
   ·(refine ⟨ob,ob,ob,rfl⟩)
  ·refine av ?_;(constructor; (intro _ f; rcases Nat.eq_zero_or_pos (cntF x_.ak f) with e | e; (omega); (obtain ⟨j,h4,rfl⟩:=alj e; exact bE j om)); (intro _; rfl))
 ·(refine ⟨ob,fun j hj=>by (try dsimp only at hj); omega⟩)
end Go.Proofs.YtccjmcmolnbiiaaGreatDoor
namespace Go.Proofs.YtccjmcmolnbiiaaGreatDoor.Sp
open Go.Ab
set_option maxRecDepth 100000
theorem ZT {l_:(List ay)} {r_:cO} (h1:l_.length≤2000000) (h2:r_.dP.length≤2000000):W (Fw l_ r_) (fun r=>r=uV l_ r_):=by
 unfold Fw;refine aH (Sp.zC ob) fun v1 hv1=>?_;subst v1;refine bV (fun c1=>?_) (fun c1=>?_)
 ·have fU:=c1;have c1:=nr c1;refine av ?_;(unfold uV; rw [fU]; rfl)
 ·have fU:=c1;have c1:=nr c1;have hck:eF l_=0∧r_.On.length=l_.length∧r_.dP.length=l_.length:=(by have:=fU; simp only [Bool.or_eq_false_iff,bne_eq_false_iff_eq] at this; omega);obtain ⟨b1,b2,b3⟩:=JF hck.1;refine bF (fun (g1:Int)=>0≤g1∧g1≤l_.length∧rlN (l_.drop g1.toNat) (r_.dP.drop g1.toNat)=rlN l_ r_.dP) (fun (g1:Int)=>(l_.length - g1).toNat) ?_ ?_
  ·intro aj g1 dQ bS;obtain ⟨dG,bE,bG⟩:=dQ;unfold Np;obtain ⟨i,rfl⟩:=Int.eq_ofNat_of_zero_le dG;refine wi (fun c2=>?_) (fun c2=>?_)
   ·have hlt:i<l_.length:=om;have hb:=b2 i hlt;rw [show ((i:Int).toNat)=i from rfl,drop_cons au hlt,drop_cons 0 (show i<r_.dP.length by omega),rlN] at bG;simp only [Int.toNat_natCast] at *;refine wm ?_;refine wn ?_;refine aH (Sp.pG) fun v4 hv4=>?_;subst v4;refine bV (fun c3=>?_) (fun c3=>?_)
    ·have jI:=c3;have c3:=nr c3;refine av ?_;(unfold uV; rw [fU,← bG]; rw [show dJ (r_.dP.getD i 0) 0 _=false by simpa using jI]; rfl)
    ·have jI:=c3;have c3:=nr c3;refine wn ?_;refine bS _ ?_ ?_
     ·(refine ⟨ob,ob,?_⟩; rw [← bG,show dJ (r_.dP.getD i 0) 0 _=true by simpa using jI,show ((i:Int)+1).toNat=i+1 by omega]; rfl)
     ·exact ob
   ·refine av ?_;have e:i=l_.length:=om;unfold uV; rw [fU,← bG,show (i:Int).toNat=i from rfl,e,List.drop_length]; cases List.drop l_.length r_.dP<;>rfl
  ·(refine ⟨ob,ob,rfl⟩)
end Go.Proofs.YtccjmcmolnbiiaaGreatDoor.Sp
namespace Go.Proofs.YtccjmcmolnbiiaaGreatDoor
open Go.Ab
set_option maxRecDepth 100000
theorem ZU {l_:(List ay)} {r_:cO} {d_:(List aW)} (h1:l_.length≤2000000) (h2:d_.length≤2000000) (h3:r_.dP.length≤2000000):W (Fx l_ r_ d_) (fun r=>r=Sp.fq l_ r_ d_):=by
 unfold Fx;refine aH (Sp.Qz ob ob) fun v1 hv1=>?_;subst v1;refine aH (gX fun hc=>mG (Sp.ZT ob ob)) fun v2 hv2=>?_;subst v2;refine aH (gX fun hc=>mG (Sp.QA (Sp.rG (by simp only [Bool.and_eq_true] at hc; exact hc.1)) (Sp.Db.1 (by simp only [Bool.and_eq_true] at hc; exact hc.2)).2)) fun v3 hv3=>?_;subst v3;refine av ?_;(unfold Sp.fq; cases Sp.ig l_ d_<;>cases Sp.uV l_ r_<;>rfl)
theorem XI {b_:aR} {l_:(List aK)} {ah:(List Int)} {g_:bL} {gN:Bool} (h1:Gg b_) (h2:∀g∈b_.aQ.aD,g.bO.length≤2000000∧g.ak.length≤2000000) (h3:Rw l_) (h4:ah.length≤10000) (h5:Xu g_):W (CJ b_ l_ ah g_ gN) (fun r=>aeY b_ l_ ah g_ gN r):=by
 obtain ⟨n3,n4⟩:=id h3;obtain ⟨s1,s2,s3,s4,s5,s6,s7⟩:=id h1;obtain ⟨z1,z2,z3,z4,z5,z6⟩:=id h5;unfold CJ;refine aH (zH h1 h2 h3) fun v1 hv1=>?_;refine aH (qy fun hc=>sD n3 om) fun v2 hv2=>?_;refine aH (qy fun hc=>XE h1 n3 h5) fun v3 hv3=>?_;refine bV (fun c1=>?_) (fun c1=>?_)
 ·have fU:=c1;have c1:=nr c1;refine av ?_;(by_cases q:nY b_ l_ 0; (refine aL (fun h=>h q) (dW (fun h=>?_)); have e:=nY.fun _ _ hv1 q; have a2:=(hv2 (by rw [e]; rfl)).2 h.1; have a3:=(hv3 (by rw [e,a2]; rfl)).2 h.2; rw [e,a2,a3] at fU; cases fU); exact dW q)
 ·have fU:=c1;have c1:=nr c1;have e1:v1=0∧v2=true∧v3=true:=(by simp only [Bool.or_eq_false_iff,bne_eq_false_iff_eq,Bool.not_eq_false'] at fU; exact ⟨fU.1.1,fU.1.2,fU.2⟩);have hn0:nY b_ l_ 0:=(by rw [e1.1] at hv1; exact hv1);have q1:EG l_ ah∧alf b_ l_ g_:=⟨(hv2 (by rw [e1.1]; rfl)).1 e1.2.1,(hv3 (by rw [e1.1,e1.2.1]; rfl)).1 e1.2.2⟩;have nok:=zI hn0;have hsl:=q1.2.1;refine aH (Ej s1 z1 (by decide) s2) fun v4 hv4=>?_;subst v4;refine wi (fun c2=>?_) (fun c2=>?_)
  ·refine av ?_;(exact aL (fun h=>h hn0) (aL (fun h=>h q1) (dW c2)))
  ·refine bF (fun (g1:(Int×(List aW)))=>0≤g1.1∧g1.1≤ah.length∧(g1.2.length:Int)≤32*g1.1∧g1.2=drM l_ (ah.take g1.1.toNat)∧(∀i:Nat,(i:Int)<g1.1→alh b_ g_ (l_.getD (ah.getD i 0).toNat bq) gN)) (fun (g1:(Int×(List aW)))=>(ah.length - g1.1).toNat) ?_ ?_
   ·intro aj g1 dQ bS;obtain ⟨dG,bE,bG,kC,Ec⟩:=dQ;unfold K3;refine wi (fun c3=>?_) (fun c3=>?_)
    ·have hmi:=(q1.1 g1.1.toNat om).1;have hnd:=getD_in (l:=l_) (i:=(ah.getD g1.1.toNat 0).toNat) bq om;have hno:=nok.2.2 _ hnd;have hns:=n4 _ hnd;obtain ⟨o1,o2,o3,o4,o5,o6,o7⟩:=id hno;refine bC (by first | omega | (unfold aF; omega) | (intro h0; have:=of_decide_eq_true h0; omega) | (unfold big; omega)) ?_;refine bC (by first | omega | (unfold aF; omega) | (intro h0; have:=of_decide_eq_true h0; omega) | (unfold big; omega)) ?_;refine aH (XH s1 z1 s2 c2 o4 om) fun v7 hv7=>?_;refine wi (fun c4=>?_) (fun c4=>?_)
     ·refine av ?_;(exact aL (fun h=>h hn0) (aL (fun h=>h q1) (aL (by rw [c2]; decide) (dW (fun h=>kL hv7 c4 (h g1.1.toNat om))))))
     ·refine bC (by first | omega | (unfold aF; omega) | (intro h0; have:=of_decide_eq_true h0; omega) | (unfold big; omega)) ?_;refine bC (by first | omega | (unfold aF; omega) | (intro h0; have:=of_decide_eq_true h0; omega) | (unfold big; omega)) ?_;refine bC (by first | omega | (unfold aF; omega) | (intro h0; have:=of_decide_eq_true h0; omega) | (unfold big; omega)) ?_;refine bS _ ?_ ?_
      ·(refine ⟨om,om,by (simp only [List.length_append]; omega),?_,dR Ec dG (hv7.1 c4)⟩; dsimp only; unfold drM at *; rw [show (g1.1+1).toNat=g1.1.toNat+1 by omega,iC 0 om,List.flatMap_append,kC]; simp only [List.flatMap_cons,List.flatMap_nil,List.append_nil])
      ·omega
    ·have q3:aqt b_ l_ ah g_ gN:=fun i hi=>Ec i om;have hdr:g1.2=drM l_ ah:=(by rw [kC,show g1.1.toNat=ah.length by omega,List.take_length]);have as9:(drM l_ ah).length≤2000000:=(by rw [← hdr]; omega);rw [hdr];refine aH (ZU s3 as9 z3) fun v8 CU=>?_;subst v8;refine wi (fun c5=>?_) (fun c5=>?_)
     ·refine av ?_;(exact aL (fun h=>h hn0) (aL (fun h=>h q1) (aL (by rw [c2]; decide) (aL (fun h=>h q3) (dW c5)))))
     ·refine aH (aaX z4) fun v9 hv9=>?_;subst v9;refine aH (XF h2 (by rw [List.length_map]; exact z4)) fun v10 EC=>?_;refine wi (fun c6=>?_) (fun c6=>?_)
      ·refine av ?_;(exact aL (fun h=>h hn0) (aL (fun h=>h q1) (aL (by rw [c2]; decide) (aL (fun h=>h q3) (aL (by rw [c5]; decide) (dW (fun h=>c6 (EC.2 h))))))))
      ·have q5:=EC.1 c6;have hown:=TL q5.2;refine bF (fun (g2:Int)=>0≤g2∧(∀i:Nat,(i:Int)<g2→ali b_ g_ (l_.getD (ah.getD i 0).toNat bq) (ah.getD i 0))) (fun (g2:Int)=>(ah.length - g2).toNat) ?_ ?_
       ·intro dK g2 lZ oq;obtain ⟨oH,ji⟩:=lZ;unfold Ii;refine wi (fun c7=>?_) (fun c7=>?_)
        ·have hmi:=(q1.1 g2.toNat om).1;have hnd:=getD_in (l:=l_) (i:=(ah.getD g2.toNat 0).toNat) bq om;have hno:=nok.2.2 _ hnd;have hns:=n4 _ hnd;obtain ⟨o1,o2,o3,o4,o5,o6,o7⟩:=id hno;refine bC (by first | omega | (unfold aF; omega) | (intro h0; have:=of_decide_eq_true h0; omega) | (unfold big; omega)) ?_;refine bC (by first | omega | (unfold aF; omega) | (intro h0; have:=of_decide_eq_true h0; omega) | (unfold big; omega)) ?_;refine aH (RB z4 om hown) fun v13 aek=>?_;refine wi (fun c8=>?_) (fun c8=>?_)
         ·refine av ?_;(exact aL (fun h=>h hn0) (aL (fun h=>h q1) (aL (by rw [c2]; decide) (aL (fun h=>h q3) (aL (by rw [c5]; decide) (aL (fun h=>h q5) (dW (fun h=>kL aek c8 (h g2.toNat om)))))))))
         ·refine bC (by first | omega | (unfold aF; omega) | (intro h0; have:=of_decide_eq_true h0; omega) | (unfold big; omega)) ?_;refine oq _ ?_ ?_
          ·(refine ⟨om,dR ji oH (aek.1 c8)⟩)
          ·omega
        ·have q6:amZ b_ l_ ah g_:=fun i hi=>ji i om;refine aH (XB s6) fun v14 aax=>?_;refine wi (fun c9=>?_) (fun c9=>?_)
         ·refine av ?_;(exact aL (fun h=>h hn0) (aL (fun h=>h q1) (aL (by rw [c2]; decide) (aL (fun h=>h q3) (aL (by rw [c5]; decide) (aL (fun h=>h q5) (aL (fun h=>h q6) (dW (fun h=>kL aax c9 h.1)))))))))
         ·have q7a:=aax.1 c9;refine bF (fun (g3:Int)=>0≤g3∧(∀i:Nat,(i:Int)<g3→amX g_ (l_.getD (ah.getD i 0).toNat bq))) (fun (g3:Int)=>(ah.length - g3).toNat) ?_ ?_
          ·intro jB g3 aaI ZE;obtain ⟨W9,qg⟩:=aaI;unfold Ih;refine wi (fun c10=>?_) (fun c10=>?_)
           ·have hmi:=(q1.1 g3.toNat om).1;have hnd:=getD_in (l:=l_) (i:=(ah.getD g3.toNat 0).toNat) bq om;have hno:=nok.2.2 _ hnd;have hns:=n4 _ hnd;obtain ⟨o1,o2,o3,o4,o5,o6,o7⟩:=id hno;refine bC (by first | omega | (unfold aF; omega) | (intro h0; have:=of_decide_eq_true h0; omega) | (unfold big; omega)) ?_;refine bC (by first | omega | (unfold aF; omega) | (intro h0; have:=of_decide_eq_true h0; omega) | (unfold big; omega)) ?_;refine bF (fun (g6:Int)=>0≤g6∧(∀j:Nat,(j:Int)<g6→g_.eu.getD ((l_.getD (ah.getD g3.toNat 0).toNat bq).bg.getD j 0).toNat false=true)) (fun (g6:Int)=>((l_.getD (ah.getD g3.toNat 0).toNat bq).bg.length - g6).toNat) ?_ ?_
            ·intro jE g6 JO Gi;obtain ⟨FD,rH⟩:=JO;unfold Ie;refine wi (fun c11=>?_) (fun c11=>?_)
             ·have hx:=o6 _ (getD_in (i:=g6.toNat) 0 om);refine bC (by first | omega | (unfold aF; omega) | (intro h0; have:=of_decide_eq_true h0; omega) | (unfold big; omega)) ?_;refine bC (by first | omega | (unfold aF; omega) | (intro h0; have:=of_decide_eq_true h0; omega) | (unfold big; omega)) ?_;refine wi (fun c12=>?_) (fun c12=>?_)
              ·refine av ?_;(exact aL (fun h=>h hn0) (aL (fun h=>h q1) (aL (by rw [c2]; decide) (aL (fun h=>h q3) (aL (by rw [c5]; decide) (aL (fun h=>h q5) (aL (fun h=>h q6) (dW (fun h=>by have:=h.2 g3.toNat om g6.toNat om; rw [this] at c12; cases c12)))))))))
              ·refine bC (by first | omega | (unfold aF; omega) | (intro h0; have:=of_decide_eq_true h0; omega) | (unfold big; omega)) ?_;refine Gi _ ?_ ?_
               ·(refine ⟨om,dR rH FD c12⟩)
               ·omega
             ·refine bC (by first | omega | (unfold aF; omega) | (intro h0; have:=of_decide_eq_true h0; omega) | (unfold big; omega)) ?_;refine ZE _ ?_ ?_
              ·(refine ⟨om,dR qg W9 (fun j hj=>rH j om)⟩)
              ·omega
            ·(refine ⟨om,fun j hj=>by (try dsimp only at hj); omega⟩)
           ·have q7:aqu b_ l_ ah g_:=⟨q7a,fun i hi=>qg i om⟩;refine aH (ZM) fun v15 Pt=>?_;refine wi (fun c13=>?_) (fun c13=>?_)
            ·refine av ?_;(exact aL (fun h=>h hn0) (aL (fun h=>h q1) (aL (by rw [c2]; decide) (aL (fun h=>h q3) (aL (by rw [c5]; decide) (aL (fun h=>h q5) (aL (fun h=>h q6) (aL (fun h=>h q7) (dW (fun h=>kL Pt c13 h.1))))))))))
            ·have q8a:=Pt.1 c13;refine bF (fun (g7:Int)=>0≤g7∧(∀i:Nat,(i:Int)<g7→amY g_ (l_.getD (ah.getD i 0).toNat bq))) (fun (g7:Int)=>(ah.length - g7).toNat) ?_ ?_
             ·intro mW g7 Xv Tz;obtain ⟨ZL,BO⟩:=Xv;unfold Ig;refine wi (fun c14=>?_) (fun c14=>?_)
              ·have hmi:=(q1.1 g7.toNat om).1;have hnd:=getD_in (l:=l_) (i:=(ah.getD g7.toNat 0).toNat) bq om;have hno:=nok.2.2 _ hnd;have hns:=n4 _ hnd;obtain ⟨o1,o2,o3,o4,o5,o6,o7⟩:=id hno;refine bC (by first | omega | (unfold aF; omega) | (intro h0; have:=of_decide_eq_true h0; omega) | (unfold big; omega)) ?_;refine bC (by first | omega | (unfold aF; omega) | (intro h0; have:=of_decide_eq_true h0; omega) | (unfold big; omega)) ?_;refine bC (by first | omega | (unfold aF; omega) | (intro h0; have:=of_decide_eq_true h0; omega) | (unfold big; omega)) ?_;refine bV (fun c15=>?_) (fun c15=>?_)
               ·have ao4:=c15;have c15:=nr c15;refine av ?_;(exact aL (fun h=>h hn0) (aL (fun h=>h q1) (aL (by rw [c2]; decide) (aL (fun h=>h q3) (aL (by rw [c5]; decide) (aL (fun h=>h q5) (aL (fun h=>h q6) (aL (fun h=>h q7) (dW (fun h=>by have:=h.2 g7.toNat om c15.1; rw [this] at c15; cases c15.2))))))))))
               ·have ao4:=c15;have c15:=nr c15;refine bC (by first | omega | (unfold aF; omega) | (intro h0; have:=of_decide_eq_true h0; omega) | (unfold big; omega)) ?_;refine Tz _ ?_ ?_
                ·(refine ⟨om,dR BO ZL (fun h0=>?_)⟩; simp only [Bool.and_eq_false_iff,decide_eq_false_iff_not,Bool.not_eq_false'] at ao4; exact ao4.resolve_left (fun q=>q h0))
                ·omega
              ·refine av ?_;(exact aL (fun h=>h hn0) (aL (fun h=>h q1) (aL (by rw [c2]; decide) (aL (fun h=>h q3) (aL (by rw [c5]; decide) (aL (fun h=>h q5) (aL (fun h=>h q6) (aL (fun h=>h q7) (aL (fun h=>h ⟨q8a,fun i hi=>BO i om⟩) rfl)))))))))
             ·(refine ⟨om,fun j hj=>by (try dsimp only at hj); omega⟩)
          ·(refine ⟨om,fun j hj=>by (try dsimp only at hj); omega⟩)
       ·(refine ⟨om,fun j hj=>by (try dsimp only at hj); omega⟩)
   ·(refine ⟨om,by (dsimp only; omega),by (simp only [List.length_nil]; omega),rfl,fun i hi=>by (try dsimp only at hi); omega⟩)
end Go.Proofs.YtccjmcmolnbiiaaGreatDoor

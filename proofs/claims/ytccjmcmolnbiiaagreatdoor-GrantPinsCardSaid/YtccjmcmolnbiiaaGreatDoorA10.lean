/-
  Proved: the law bringuplaw33.GrantPins returns true at every input and leaves its arguments as they were; the card ties the package variable clock.off to the program's text. No condition beyond the card's own.
-/
import Derived.Test.YtccjmcmolnbiiaaGreatDoorA9
import Derived.Test.YtccjmcmolnbiiaaGreatDoorA7
set_option linter.unusedVariables false
set_option linter.unusedSimpArgs false
namespace Go.Proofs.YtccjmcmolnbiiaaGreatDoor
open Go.Ab
set_option maxRecDepth 100000
theorem QE {b_:bf} {l_:List aL} {ah:List Int} {g_:bM} {aR:Int} (h1:yh b_) (h2:Vw b_.aP) (h3:Jd l_) (h4:ah.length≤10000) (h5:K6 g_):W (xW b_ l_ ah g_ aR) (fun r=>r=0→Fw b_ l_ 0∧(oM b_.aP 0∧Oh b_.aP (g_.bX.map aS.jE))∧0≤aR∧aR<l_.length):=by
 unfold xW;refine aF (uO h1 h2 h3) fun v1 hv1=>?_;refine bF (fun c1=>?_) (fun c1=>?_)
 ·have c1:=nr c1;exact au fun e=>absurd e c1
 have c1:=nr c1;rw [c1] at hv1;have hl:=(IX hv1).2.1;refine aF (nW om om) fun v2 _=>?_;refine bF (fun c2=>au nofun) (fun c2=>?_);refine aF (P:=fun v=>v=true→oM b_.aP 0∧Oh b_.aP (g_.bX.map aS.jE)) ?_ fun v3 hv3=>?_
 ·unfold GY;refine aF (Ol h1 h2 h3 h4 h5) fun v hv=>au fun e=>?_;have e:v=0:=by simpa using e
  rw [e] at hv;exact Vy hv
 refine bF (fun c3=>au nofun) (fun c3=>?_);have c3:=nr c3;refine bF (fun c4=>au nofun) (fun c4=>?_);have c4:=nr c4;exact au fun _=>⟨hv1,hv3 c3,c4.1,c4.2⟩
theorem Ry {b_:bf} {l_:List aS} (h1:∀u∈l_,JL b_.aP u.jE) (h2:l_.length≤2000000):W (Az b_ l_) (fun r=>r.1.length=l_.length∧r.2.length=l_.length):=by
 unfold Az;refine bq (fun g1:Int×List ByteArray×List Int=>0≤g1.1∧g1.1≤l_.length∧(g1.2.1.length:Int)=g1.1∧(g1.2.2.length:Int)=g1.1) (fun g1=>(l_.length - g1.1).toNat) ?_ ⟨ob,ob,rfl,rfl⟩;intro aj g1 ⟨a1,a2,a3,a4⟩ ih1;unfold GZ;refine wi (fun c=>?_) (fun c=>?_)
 ·obtain ⟨u1,u2,u3,u4⟩:=h1 _ (getD_in (i:=g1.1.toNat) bA om);refine wn ?_;refine aM om ?_;refine aM om ?_;refine aM (by unfold big; omega) ?_;refine aM (by unfold big; omega) ?_;refine wn ?_;exact ih1 _ ⟨ob,ob,by dsimp only; rw [List.length_append,List.length_singleton]; omega,by dsimp only; rw [List.length_append,List.length_singleton]; omega⟩ ob
 ·exact au ⟨by dsimp only; omega,by dsimp only; omega⟩
theorem L9 {b_:bf} {l_:List aL} {g_:bM} {aR:Int} {dz:List Int} (h1:yh b_) (h2:Vw b_.aP) (h2':b_.aP.av.length≤2000000) (h3:Jd l_) (h4:dz.length≤9999) (h5:K6 g_) (h6:g_.bX.length≤100000):W (pJ b_ l_ g_ aR dz) (fun r=>r.2.2=0→K6 r.1∧r.1.bX.length≤g_.bX.length+(l_.getD aR.toNat bB).ak.length∧∀u∈r.1.bX,u.fC∈dz∨u.fC=aR):=by
 unfold pJ;refine aF (QE h1 h2 h3 om h5) fun v1 hv1=>?_;refine bF (fun c1=>?_) (fun c1=>?_)
 ·have c1:=nr c1;exact au fun e=>absurd e c1
 have c1:=nr c1;obtain ⟨hn,⟨hpa,hown⟩,hd0,hd1⟩:=hv1 c1;obtain ⟨hb,hl12,hnd⟩:=IX hn;have aaf:=OL hown;refine aF (KF om) fun v2 _=>?_;refine bF (fun c2=>au nofun) (fun c2=>?_);refine aM (by unfold big; omega) ?_;refine aM (by unfold big; omega) ?_;refine aF (Iw om om) fun v11 ⟨hol,hom⟩=>?_;unfold qb;refine aF (Nr h1 h2 h3 (by dsimp only; rw [List.length_append,List.length_singleton]; omega) (by dsimp only; omega)) fun v4 ⟨hga,hgl,hgm⟩=>?_;refine bF (fun c3=>?_) (fun c3=>?_)
 ·have c3:=nr c3;exact au fun e=>absurd e c3
 dsimp only at hgl hgm;refine aF (Ry (fun u hu=>aaf u (hom u hu).1) (by dsimp only; omega)) fun v10 ⟨hn1,hn2⟩=>?_;dsimp only at hn1 hn2;have hdn:=hnd _ (getD_in (i:=aR.toNat) bB om);have hfl:=hdn.fl;unfold oK;refine aM ⟨hd0,hd1⟩ ?_;refine aM (by unfold big; dsimp only; omega) ?_;refine aF (PX h2 (by rw [List.length_append]; dsimp only; omega) h2') fun v6 hv6=>?_;refine bF (fun c4=>au nofun) (fun c4=>?_);have c4:=nr c4;obtain ⟨ha1,ha2⟩:=hv6 c4;rw [List.length_append] at ha1;dsimp only at ha1;refine aM ⟨hd0,hd1⟩ ?_;refine bq (fun g3:Int×List aS=>0≤g3.1∧g3.1≤(l_.getD aR.toNat bB).ak.length∧(g3.2.length:Int)≤g_.bX.length+g3.1∧∀u∈g3.2,u.fC∈dz∨u.fC=aR) (fun g3=>((l_.getD aR.toNat bB).ak.length - g3.1).toNat) ?_ ⟨ob,ob,by dsimp only; omega,fun u hu=>?_⟩
 ·intro iy g3 ⟨d1,d2,d3,d4⟩ ih3;unfold wR;refine wi (fun c5=>?_) (fun c5=>?_)
  ·have hx:=ha2 _ (getD_in (i:=((v10.2.length:Int)+g3.1).toNat) 0 om);refine aM om ?_;refine aM (by unfold InI64; dsimp only; omega) ?_;refine aM (by dsimp only; omega) ?_;refine aM hx ?_;have hff:=(h2 _ (getD_in (i:=(v6.1.getD ((v10.2.length:Int)+g3.1).toNat 0).toNat) ay om)).2;refine aF (Bg (by dsimp only; omega)) fun v9 _=>?_;refine aM (by unfold big; omega) ?_;refine aM (by unfold InI64; omega) ?_;refine ih3 _ ⟨by dsimp only; omega,by dsimp only; omega,by dsimp only; rw [List.length_append,List.length_singleton]; omega,fun u hu=>?_⟩ (by dsimp only; omega);rcases List.mem_append.1 hu with h | h
   ·exact d4 u h
   ·rw [List.mem_singleton] at h; rw [h]; exact .inr rfl
  ·exact au fun _=>⟨⟨hga.a,hga.b,hga.c,by dsimp only; omega,hga.d,hga.e⟩,by dsimp only; omega,d4⟩
 ·have:=(hgm u hu).2;rcases List.mem_append.1 this with h | h
  ·exact .inl h
  ·rw [List.mem_singleton] at h; exact .inr h
theorem Ma {b_:bf} (h1:yh b_) (h2:Vw b_.aP):W (y9 b_) (fun r=>K6 r.1∧r.1.bX=[]):=by
 unfold y9;refine aF (Rx h1 h2 ⟨by simp,nofun⟩ (by simp) (by simp)) fun v1 ⟨hga,hgl,_⟩=>?_;have:v1.2.2.2.2.2.2.2=[]:=List.length_eq_zero_iff.1 (by simpa using hgl);exact au ⟨⟨hga.a,hga.b,hga.c,by dsimp only; rw [this]; simp,hga.d,hga.e⟩,this⟩
theorem QF {p_:aX} {f_:ByteArray} (h1:Vw p_) (h2:oM p_ 0) (h3:p_.av.length≤24):W (x9 p_ f_) (fun r=>r=wG p_ f_ p_.av.length):=by
 unfold x9;refine aF (zq h1) fun v1 hv1=>?_;have e1:v1=0:=oM.fun _ _ hv1 h2;subst e1;refine bF (fun c1=>by cases c1) (fun c1=>?_);refine bq (fun g1:Int×List Int=>0≤g1.1∧g1.1≤p_.av.length∧g1.2=wG p_ f_ g1.1.toNat) (fun g1=>(p_.av.length - g1.1).toNat) ?_ ⟨ob,ob,rfl⟩;intro aj g1 ⟨a1,a2,a3⟩ ih1;have hl:=Iu p_ f_ g1.1.toNat;rw [← a3] at hl;unfold Fj;refine wi (fun c=>?_) (fun c=>?_)
 ·have hfl:=(h1 _ (getD_in (i:=g1.1.toNat) ay om)).2;have e:(g1.1+1).toNat=g1.1.toNat+1:=by omega
  refine wn ?_;refine aF (Bg om) fun v4 hv4=>?_;subst hv4;have hs:=RX p_ f_ g1.1.toNat;refine bF (fun c2=>?_) (fun c2=>?_)
  ·refine aM (by unfold big; omega) ?_;refine wn ?_;refine ih1 _ ⟨ob,ob,?_⟩ ob;dsimp only;rw [e,hs,← a3,if_pos c2];congr 2;omega
  ·refine wn ?_;refine ih1 _ ⟨ob,ob,?_⟩ ob;dsimp only;rw [e,hs,← a3,if_neg (by rw [c2]; exact Bool.false_ne_true),List.append_nil]
 ·exact au (by rw [a3]; congr 1; omega)
theorem Rz {dz:cu} (h1:0≤dz.At) (h2:dz.L.length≤600):W (AJ dz) (fun r=>Yw r.1∧r.2.1.length≤5∧Jd r.2.1∧r.2.2.1.length≤5∧K6 r.2.2.2.1∧r.2.2.2.1.bX.length≤1000∧∀u∈r.2.2.2.1.bX,u.fC∈r.2.2.1):=by
 unfold AJ;refine aF (K3 h1 h2) fun v1 ⟨b1,b2,b3⟩=>?_;refine aF (Jb b1 om om b2 b3) fun v2 hv2=>?_;obtain ⟨n1,n2,n3,n4⟩:=hv2;have hbs:=Zd b1;have hgs:Vw v1.1.aP:=fun g hg=>by have:=b1.gr g hg; omega
 have hgn:=b1.ngr;have hns:Jd v2.1:=⟨om,fun n hn=>by have:=n2 n hn; omega⟩;refine aF (Ma hbs hgs) fun v3 ⟨s1,s2⟩=>?_;refine bq (fun g1:(Int×(List Int)×Int×(List Int)×(List Bool)×(List Int)×(List aS)×(List Bool)×(List Bool)×(List Int))=>0≤g1.1∧g1.1≤v2.1.length∧0≤g1.2.2.1∧g1.2.1.length≤600∧K6 ⟨g1.2.2.2.1,⟨g1.2.2.2.2.1,g1.2.2.2.2.2.1⟩,g1.2.2.2.2.2.2.1,g1.2.2.2.2.2.2.2.1,g1.2.2.2.2.2.2.2.2.1⟩∧g1.2.2.2.2.2.2.1.length≤100*g1.1.toNat∧g1.2.2.2.2.2.2.2.2.2.length≤g1.1.toNat∧∀u∈g1.2.2.2.2.2.2.1,u.fC∈g1.2.2.2.2.2.2.2.2.2) (fun g1=>(v2.1.length - g1.1).toNat) ?_ ⟨ob,ob,n3,n4,s1,by dsimp only; rw [s2]; simp,by simp,by dsimp only; rw [s2]; exact nofun⟩;intro aj g1 ⟨a1,a2,a3,a4,a5,a6,a7,a8⟩ ih1;unfold G7;refine wi (fun c=>?_) (fun c=>?_)
 ·have hfx:=n2 _ (getD_in (i:=g1.1.toNat) bB om);have e:(g1.1+1).toNat=g1.1.toNat+1:=by omega
  refine aF (L9 hbs hgs om hns om a5 (by dsimp only; omega)) fun v8 BH=>?_;refine bF (fun c2=>?_) (fun c2=>?_)
  ·refine aF (bT om a3 a4) fun v9 SB=>?_;obtain ⟨_,_,_,q1,q2⟩:=SB;refine bF (fun c3=>?_) (fun c3=>?_)
   ·have c4:v8.2.2=0:=by
     simp only [Bool.and_eq_true,beq_iff_eq] at c3;exact c3.1.2
    obtain ⟨r1,r2,r3⟩:=BH c4;dsimp only at r2;refine aM (by unfold big; omega) ?_;refine wn ?_;refine ih1 _ ⟨ob,ob,q1,q2,r1,by dsimp only; rw [e]; omega,by dsimp only; rw [List.length_append,List.length_singleton,e]; omega,fun u hu=>?_⟩ ob;dsimp only at hu ⊢;rcases r3 u hu with h | h
    ·exact List.mem_append_left _ h
    ·rw [h]; exact List.mem_append_right _ (List.mem_singleton.2 rfl)
   ·refine wn ?_;exact ih1 _ ⟨ob,ob,q1,q2,a5,by dsimp only; rw [e]; omega,by dsimp only; rw [e]; omega,a8⟩ ob
  ·refine aM (by cases h:((v3.2==(0:Int))&&(v8.2.2==(0:Int))) with | false=>rfl | true=>rw [h] at c2; cases c2) ?_;refine wn ?_;exact ih1 _ ⟨ob,ob,a3,a4,a5,by dsimp only; rw [e]; omega,by dsimp only; rw [e]; omega,a8⟩ ob
 ·exact au ⟨b1,by dsimp only; omega,hns,by dsimp only; omega,a5,by dsimp only; omega,a8⟩
theorem OD:lU true:=M.WZ 100 _ _ (by decide +kernel)
theorem Ns:W (bnd lU fun v=>ret v) (fun r=>r=true):=aF (uR OD) fun _ h=>au h
theorem YS {ms:List Int} {us:List aS} (h:∀u∈us,u.fC∈ms):KE ms us=us:=by
 unfold KE;exact List.filter_eq_self.2 fun u hu=>by simpa using h u hu
theorem YT {p:aX} {us:List aS} {u:aS} {k f:Int} (hu:u∈us) {x:Int} (h1:x∈(p.av.getD u.jE.bU.toNat ay).bG) (h2:x∈(p.av.getD k.toNat ay).bG):¬Oh p (us.map aS.jE++[⟨k,f⟩]):=by
 intro h;obtain ⟨j,hj,ej⟩:=List.mem_iff_getElem.1 hu;obtain ⟨a,ha,ea⟩:=List.mem_iff_getElem.1 h1;obtain ⟨b,hb,eb⟩:=List.mem_iff_getElem.1 h2;have hl:(us.map aS.jE).length=us.length:=List.length_map ..;have h3:=(h us.length (by rw [List.length_append,hl,List.length_singleton]; omega)).2.2 j hj a b;have g1:(us.map aS.jE++[(⟨k,f⟩:jH)]).getD us.length eT=⟨k,f⟩:=by
  rw [IY,if_pos hl.symm]
 have g2:(us.map aS.jE++[(⟨k,f⟩:jH)]).getD j eT=u.jE:=by
  rw [IY,if_neg om,List.getD_eq_getElem?_getD,List.getElem?_map,List.getElem?_eq_getElem hj,ej];rfl
 rw [g1,g2] at h3;refine h3 (Int.ofNat_lt.2 (by first | exact ha | exact hb)) (Int.ofNat_lt.2 (by first | exact ha | exact hb)) ?_;have ya:(p.av.getD u.jE.bU.toNat ay).bG.getD a 0=x:=by
  rw [List.getD_eq_getElem?_getD,List.getElem?_eq_getElem ha,ea];rfl
 have yb:(p.av.getD k.toNat ay).bG.getD b 0=x:=by
  rw [List.getD_eq_getElem?_getD,List.getElem?_eq_getElem hb,eb];rfl
 first | exact ya.trans yb.symm | exact yb.trans ya.symm
theorem Mc {t_:List Int} {aR:Int} (h0:0≤aR) (h1:aR≤255):W (vW t_ aR) (fun r=>r=true):=by
 unfold vW;refine bF (fun _=>Ns) (fun c0=>?_);refine aF TJ fun v2 ⟨k1,k2⟩=>?_;refine aF (Rz (by dsimp only; omega) k2) fun v3 hv3=>?_;obtain ⟨w1,w2,w3,w4,w5,w6,w7⟩:=hv3;obtain ⟨b,l,m,g,s⟩:=v3;dsimp only at w1 w2 w3 w4 w5 w6 w7 ⊢;have hbs:=Zd w1;have hgs:Vw b.aP:=fun x hx=>by have:=w1.gr x hx; omega
 have hgn:=w1.ngr;refine aF (Ma hbs hgs) fun v4 _=>?_;refine bF (fun _=>Ns) (fun c1=>?_);rw [Bool.or_eq_false_iff] at c1;have c1:=c1.2;have c1:=nr c1;refine aM om ?_;have hw:IntKind.i64.wrap aR=aR:=wrap_i64 ⟨om,om⟩;rw [hw];have hd:aR.tmod (l.length:Int)=aR % (l.length:Int):=Int.tmod_eq_emod_of_nonneg h0;have hd0:0≤aR.tmod (l.length:Int):=by rw [hd]; exact Int.emod_nonneg _ om
 have hd1:aR.tmod (l.length:Int)<l.length:=by rw [hd]; exact Int.emod_lt_of_pos _ om
 generalize hD:aR.tmod (l.length:Int)=D at *;clear hd;refine aF (QC hbs hgs w3 om w5 om) fun v6 hv6=>?_;refine bF (fun _=>Ns) (fun c2=>?_);have c2:=nr c2;obtain ⟨new,e1,hna⟩:=hv6 c2;rw [YS w7] at e1 hna;have hul:v6.1.bX.length=g.bX.length+new.length:=by rw [e1,List.length_append]
 have hmn:(if (v6.1.bX.length:Int)<(g.bX.length:Int) then (v6.1.bX.length:Int) else (g.bX.length:Int))=(g.bX.length:Int):=if_neg om;rw [hmn];have hln:=hna.len;have hfm:=hna.bd;refine aM ⟨om,om⟩ ?_;refine aM ⟨hd0,hd1⟩ ?_;refine bF (fun c3=>?_) (fun c3=>?_)
 ·exfalso;have c3:=nr c3;exact c3 om
 have hdr:(v6.1.bX.drop (g.bX.length:Int).toNat).take (v6.1.bX.length - (g.bX.length:Int).toNat)=new:=by
  rw [List.take_of_length_le (by rw [List.length_drop]; omega),e1,show (g.bX.length:Int).toNat=g.bX.length by omega,List.drop_left]
 rw [hdr];have hok:=(oM.v hna.pa).ok;refine bq (fun g1:List aS×List aS×Int=>g1.1=new∧g1.2.1=new∧0≤g1.2.2) (fun g1=>(new.length - g1.2.2).toNat) ?_ ⟨rfl,rfl,ob⟩;rintro aj ⟨q1,q2,ix⟩ ⟨d1,d2,d3⟩ ih1;dsimp only at d1 d2 d3;subst q1 q2;unfold wT;dsimp only;rw [hmn,hw,hD];refine bF (fun c4=>?_) (fun c4=>?_)
 ·have c4:=nr c4;have hin:ix.toNat<new.length:=by omega
  obtain ⟨p1,p2,p3,p4⟩:=hna.at_ _ hin;refine aM om ?_;refine aM (fun _=>⟨p2,p3⟩) ?_;refine aM (fun _=>⟨hd0,hd1⟩) ?_;refine aM (fun _=>by omega) ?_;have hfl:=(hgs _ (getD_in (i:=(new.getD ix.toNat bA).jE.bU.toNat) ay om)).2;refine aF (qj fun _=>Bg om) fun v10 CZ=>?_;have hc:(((new.getD ix.toNat bA).fC != D)||(decide (((new.getD ix.toNat bA).jE).bU<(0:Int)))||(decide ((b.aP.av.length:Int)≤((new.getD ix.toNat bA).jE).bU)))=false:=by
   rw [p1,decide_eq_false om,decide_eq_false om];simp
  have hv:=CZ hc;rw [hc];refine bF (fun c5=>?_) (fun c5=>?_)
  ·exfalso;rw [Bool.false_or] at c5;have c5:=nr c5;exact c5 (p4.trans hv.symm)
  ·refine aM (by unfold InI64; omega) ?_;exact ih1 _ ⟨rfl,rfl,by dsimp only; omega⟩ (by dsimp only; omega)
 ·refine bF (fun _=>Ns) (fun c5=>?_);have c5:=nr c5;have hn1:new.length=1:=by omega
  refine aM ⟨hd0,hd1⟩ ?_;refine aM om ?_;refine aF (QF hgs hna.pa om) fun v12 Ja=>?_;have abb:=hna.lst om;have hlen:=Iu b.aP ((l.getD D.toNat bB).ak.getD 0 ByteArray.empty) b.aP.av.length;rw [← Ja] at abb hlen;have hmem:∀k∈v12,0≤k∧k<b.aP.av.length:=fun k hk=>by
   rw [Ja] at hk;have:=Ir hk;omega
  refine bq (fun g2:Int=>0≤g2) (fun g2=>(v12.length - g2).toNat) ?_ (Int.le_refl _);intro cO g2 f1 ih2;unfold wS;dsimp only;rw [hw,hD];refine bF (fun c6=>?_) (fun _=>Ns);have c6:=nr c6;have hkm:=getD_in (l:=v12) (i:=g2.toNat) 0 om;have hkb:=hmem _ hkm;refine aM om ?_;refine aM om ?_;refine bF (fun _=>Ns) (fun c7=>?_);have c7:=nr c7;refine aF (JW om) fun v20 abd=>?_;refine aM hkb ?_;refine aM ⟨hd0,hd1⟩ ?_;refine aM om ?_;have hfl:=(hgs _ (getD_in (i:=(v12.getD g2.toNat 0).toNat) ay om)).2;refine aF (Bg om) fun v21 _=>?_;have hvl:v20.length=g.bX.length:=by rw [abd,List.length_map]
  refine aM (by unfold big; omega) ?_;refine aF (Fx hgs (by rw [List.length_append,List.length_singleton]; omega)) fun v22 Z8=>?_;refine bF (fun c8=>?_) (fun c8=>?_)
  ·exfalso;have c8:=nr c8;obtain ⟨u,hu,x,x1,x2⟩:=abb _ hkm c7;have:=(Z8.1 c8).2;rw [abd] at this;exact YT hu x1 x2 this
  ·refine aM (by unfold InI64; omega) ?_;exact ih2 _ om om
end Go.Proofs.YtccjmcmolnbiiaaGreatDoor
namespace Go.Proofs.YtccjmcmolnbiiaaGreatDoor.grantPins
open Go.ChangeShapes Go.WideShapes Go.ChangeAt Go.RowKit
open Go.Ab
set_option maxRecDepth 100000
theorem spec (l:List Int) (a:Int) (h:0≤a∧a≤255):S 3 [aD l,.int .u8 a] [] (.bool true) []:=by
 obtain ⟨r,h1,h2⟩:=Mc (t_:=l) h.1 h.2;subst h2;exact Iq h1
theorem contract (H:Type) (enc:TypeId×Value→H) (W:World) (base:Nat) (args:Array Value) (ds gs:List (DataW H)) (before:List MemPlace)
  (hval:∀(j:Nat) t v,Tryz.f3.params[j]? = some t→args[j]? = some v→Value.okWide Tryz.prog W .any base t v)
  (hW:DataW.Whole enc Tryz.prog Tryz.f3.params.toList Rows.grantPinsSpec.vars false W args.toList ds gs before) (hL:laidMetH Tryz.prog Rows.grantPinsRow.laid W):
  Calls Tryz.prog 3 args W fun e W'=>∃v,e=.returned v∧Rows.grantPinsSpec.post enc Tryz.prog Tryz.f3 false true false false W args v W':=by
 have hW':=hW;obtain ⟨p,q,hA0,hV,rfl,hfz,hnd⟩:=hW;have hA:DataW.TrodAll enc Tryz.prog W 0 (fun _=>true) true Tryz.f3.params.toList args.toList ds p:=hA0;rw [Tryz.params3] at hA hval;obtain ⟨v0,v1,d0,d1,p0,p1,rfl,rfl,rfl,h0,h1⟩:=trodAll_two hA;obtain ⟨rfl,rfl⟩:=trodVars_none hV;have h0k:=h0;obtain ⟨l,hl,hr⟩:=open_intsV (hval 0 22 v0 rfl rfl) h0;have h1k:=h1;obtain ⟨n,rfl,rfl,rfl,hwf⟩:=open_int Tryz.underlying5 (hval 1 5 v1 rfl rfl) h1;have hn:0≤n∧n≤255:=by
  simp only [Lit.wf,Bool.and_eq_true,decide_eq_true_eq] at hwf;exact hwf
 clear hA0;simp only [List.append_nil] at hW';have hlt:∀x∈p0,x.block<W.heap.size:=fun x hx=>by simpa using hW'.lt x (by simpa using hx)
 refine (run_law (spec l n hn) hL rfl (fun j hj=>?_)).mono fun e W' ⟨he,hb⟩=>?_
 ·match j,hj with
  | 0,_=>exact hr
  | 1,_=>exact .int _ _
 subst he;refine ⟨_,rfl,[d0,.lit (.int .u8 n)],[],p0++[],[],p0++[],[],by simpa using hW',trodAll_mk1 (shut_bool Tryz.underlying4 _),?_,rfl,hb.frame _,fun h=>by cases h⟩;rw [Tryz.params3];exact trodAll_mk2 (Below.trod laidOut (by kernel_rfl) (of_decide_eq_true (by kernel_rfl)) h0k hb hlt) (shut_int Tryz.underlying5 hwf)
noncomputable def laidWorld (os:Os):World:=
 { World.holding Tryz.prog os ⟨#[],#[],[]⟩ with heap:=(World.holding Tryz.prog os ⟨#[],#[],[]⟩).heap.modify 0 fun
   | .cells _ t frozen=>.cells #[.int .i64 0,.int .i64 1] t frozen
   | o=>o }
theorem laid_met (os:Os):laidMet Tryz.prog Rows.grantPinsRow.laid ((laidWorld os).forCall (fun _ _=>0) ⟨#[],#[.slice none 0 0,.int .u8 0],[]⟩).memory:=
 laidMet_of_run' 8 (by kernel_rfl) (by kernel_rfl)
theorem reads (os:Os) {H:Type} (enc:TypeId×Value→H):∃places,DataW.whole enc Tryz.prog ((laidWorld os).forCall (fun _ _=>0) ⟨#[],#[.slice none 0 0,.int .u8 0],[]⟩).memory Tryz.f3.params.toList Rows.grantPinsSpec.vars false #[Value.slice none 0 0,.int .u8 0].toList 8=some ([.nil,.lit (.int .u8 0)],[],places):=
 ⟨[],by kernel_rfl⟩
theorem lifted (os:Os) (started:os.Started) (H:Type) (enc:TypeId×Value→H) (F:Stop.Interp):
  ReturnsInHanded {} Tryz.checked os 3 .any ((OpenSpec.ofChange Rows.grantPinsSpec).preRow enc Tryz.prog Tryz.f3 Rows.grantPinsRow.domain false Rows.grantPinsRow.laid) (((OpenSpec.ofChange Rows.grantPinsSpec).at F).post enc Tryz.prog Tryz.f3 false true false false):=by
 obtain ⟨places,hx⟩:=reads os enc;refine returnsInHanded_of_row (C:=Tryz.checked) (s:=OpenSpec.ofChange Rows.grantPinsSpec) own started (by kernel_rfl) Tryz.func3
  (witness_row_at (enc:=enc) (C:=Tryz.checked) false (laidWorld os) #[.slice none 0 0,.int .u8 0] rfl (by kernel_rfl) (by kernel_rfl) (by kernel_rfl)
    (OpenSpec.preRow_of_cond 8 hx (by kernel_rfl) (fun k hk=>by cases hk) (by kernel_rfl) (laid_met os))) ?_
 intro W base args ds gs before hval hW _ _ _ hL _ _;exact contract H enc W base args ds gs before hval hW hL
theorem said:Rows.GrantPinsSaid:=
 OpenClaim.holds_of_cond 3 Tryz.f3 rfl rfl rfl rfl rfl rfl rfl ⟨rfl,rfl,rfl,rfl,rfl⟩ rfl rfl rfl rfl rfl (by kernel_rfl) Tryz.func3 (by kernel_rfl)
  (of_decide_eq_true (by kernel_rfl)) (by unfold Func.isWrapper; first | (rw [if_pos (by decide +kernel)]; kernel_rfl) | (rw [if_neg (by decide +kernel)]; exact ⟨rfl,rfl⟩))
  (fun os started H enc _ F=>by rw [OpenClaim.pre_eq_preRow]; exact lifted os started H enc F)
theorem plain (f:FuncId) (fn:Func) (hf:Tryz.pinned.checked.prog.funcNamed "bringup/bringuplaw33.GrantPins" = some f) (hfn:Tryz.pinned.checked.prog.funcs[f]? = some fn):
  false=Tryz.pinned.checked.prog.looks []∧∀(j:Nat) t,fn.params[j]? = some t→Tryz.pinned.checked.prog.wantsStandIn t=false:=by
 obtain rfl:f=3:=Option.some.inj ((show Tryz.prog.funcNamed "bringup/bringuplaw33.GrantPins" = some 3 by kernel_rfl).symm.trans hf) |>.symm;obtain rfl:fn=Tryz.f3:=(Option.some.inj (Tryz.func3.symm.trans hfn)).symm;refine ⟨by kernel_rfl,fun j t ht=>?_⟩;rw [Tryz.params3] at ht;have ht:t∈#[22,5]:=Array.mem_of_getElem? ht;simp at ht;rcases ht with rfl | rfl
 ·exact (show Tryz.prog.wantsStandIn 22=false by kernel_rfl)
 ·exact (show Tryz.prog.wantsStandIn 5=false by kernel_rfl)
end Go.Proofs.YtccjmcmolnbiiaaGreatDoor.grantPins
namespace Go.Proofs.YtccjmcmolnbiiaaGreatDoor
open Go.Ab
set_option maxRecDepth 100000
theorem grantPins_card:Rows.GrantPinsCardSaid:=
 Claim7.holds_tied_plain_at .later [] _ _ _ _ grantPins.said (fun _ h=>by cases h) (by kernel_rfl) (fun _ h=>by cases h) grantPins_row_tie rfl ⟨rfl,rfl⟩ (by kernel_rfl) rfl grantPins.plain (by kernel_rfl)
end Go.Proofs.YtccjmcmolnbiiaaGreatDoor

/- An abstract machine over the model's code, that it is sound; models of the functions and their proofs. -/
import Derived.Test.YtfblhejmclcdmaaGreatDoorA7
import Derived.Test.YtfblhejmclcdmaaGreatDoorProg
import Derived.Test.YtfblhejmclcdmaaGreatDoorA4
import Derived.RangeFuncBox
import Derived.RangeFuncLeaves
import Derived.Shelf.Abstract
import Derived.WalkKit
import Derived.OwnWalkIn
import Derived.TacticsInMore
import Derived.LoopNIn
import Derived.LoopIn
import Derived.Test.YtfblhejmclcdmaaGreatDoorCards
import Derived.Test.YtfblhejmclcdmaaGreatDoorTie
import Derived.ProofKit
import Derived.OpenShut
import Derived.Carry
import Derived.LaidMore
import Derived.Deep.DeepHandedRow
set_option linter.unusedVariables false
set_option linter.unusedSimpArgs false


namespace Go.Proofs.YtfblhejmclcdmaaGreatDoor
open Go.Ab
set_option maxRecDepth 100000
theorem Z9 {l:List Int} (h:l.Nodup):Y8 l:=by
 intro k j hj hk e;have h1:=List.pairwise_iff_getElem.1 h j k (by omega) (by omega) hj;rw [List.getD_eq_getElem?_getD,List.getD_eq_getElem?_getD,List.getElem?_eq_getElem (by omega),List.getElem?_eq_getElem (by omega)] at e;exact h1 e
theorem TL {l:List Int} {x:Int} (h:l.Nodup) (hx:∀y∈l,y<x):(l++[x]).Nodup:=by
 rw [List.nodup_append];refine ⟨h,by simp,fun a ha b hb=>?_⟩;rw [List.mem_singleton] at hb;have:=hx a ha;omega
theorem aaM {b:bF} {k:Int} {x:aO} (h:M0 b k x):NdV b k x:=by
 refine ⟨⟨by have:=h.lm.1; omega,by have:=h.dw.1; omega,by have:=h.fw.1; omega,h.lm.2,h.dw.2,h.rs.2,h.dm⟩,fun j hj=>h.fw.2 _ (getD_in _ (by omega)),h.pr.2.1,fun k h1 h2=>h.pr.2.2 (k - 1) k (by omega) h2⟩
theorem Zb {n:Nat} {x:aI} (h:TA n x):Sp.Kk n x=false:=by
 obtain ⟨h1,h2,h3,h4,h5,h6,h7⟩:=h;unfold Sp.Kk Sp.withinF;simp only [Bool.or_eq_false_iff,Bool.not_eq_false',Bool.and_eq_true,decide_eq_true_eq];omega
theorem KZ {l:List aj} {d:List aI} (hc:Sp.bP l=0) (hn:d.length≤32) (hd:∀x∈d,TA l.length x):Sp.fA l d=true:=by
 unfold Sp.fA;rw [hc,decide_eq_true (by omega),List.any_eq_false.2 (fun x hx=>by rw [Zb (hd x hx)]; decide)];rfl
theorem VL {r:aP} (hv:validR r=true) (h:qE r=false):r.Num≠0:=by
 intro e;obtain ⟨_,_,h3,_,h5⟩:=kD hv;rw [e] at h5;unfold fP at h5;rw [show (0:Int).toNat=0 from rfl,Nat.gcd_zero_left] at h5;have:r.Den=1:=by omega
 unfold qE at h;rw [e,this] at h;cases h
theorem TM {r:aP} {lo hi:Int} (h:nN r lo hi=true):lo*r.Den≤r.Num∧r.Num≤hi*r.Den:=by
 unfold nN at h;simp only [Bool.and_eq_true,Bool.or_eq_true,decide_eq_true_eq,beq_iff_eq] at h;obtain ⟨hv,h1,h2⟩:=h;obtain ⟨n0,_,d1,_,_⟩:=kD hv;have e:=Int.mul_tdiv_add_tmod r.Num r.Den;have m0:=Int.tmod_nonneg r.Den n0;have m1:=Int.tmod_lt_of_pos r.Num (show 0<r.Den by omega);have e2:r.Den*r.Num.tdiv r.Den=r.Num.tdiv r.Den*r.Den:=Int.mul_comm _ _;have l1:lo*r.Den≤r.Num.tdiv r.Den*r.Den:=Int.mul_le_mul_of_nonneg_right h1 (by omega);refine ⟨by omega,?_⟩;rcases h2 with h2 | ⟨h2,h3⟩
 ·have l2:(r.Num.tdiv r.Den+1)*r.Den≤hi*r.Den:=Int.mul_le_mul_of_nonneg_right h2 (by omega);rw [Int.add_mul,Int.one_mul] at l2;omega
 ·rw [← h2]; omega
theorem TN {l:List av} {s:List Int} {m:List bn} (hc:bP l=0) (hs:settB l s=true) (hf:FH l s m=true):
  fq l s []=true∧∀x∈m,XC l.length x→Zv ((gZ l s).getD x.Clock.toNat bZ) x:=by
 have hfi:=G7 hc;unfold FH at hf;rw [Bool.and_eq_true] at hf;obtain ⟨h1,h2⟩:=hf;constructor
 ·unfold fq;have e1:oK l []=true:=by unfold oK; rw [hc]; rfl
  have e2:ownB l (gZ l s)=true:=by
   unfold ownB;refine rT fun i hi=>?_;unfold XM at h2;have:=G6 h2 hi;obtain ⟨q1,q2,_,_⟩:=PG hfi hs i hi;unfold ownY at this;unfold ownX;rw [← q2,← q1]; exact this
  rw [e1,hs,e2]; rfl
 ·intro x hx hl;obtain ⟨x1,x2,_,_,_⟩:=hl;have h3:fitX (KW l s) x=false:=by
   cases e:fitX (KW l s) x with
   | false=>rfl
   | true=>rw [List.any_eq_true.2 ⟨x,hx,e⟩] at h1; cases h1
  obtain ⟨q1,q2,q3,_⟩:=PG hfi hs x.Clock.toNat (by omega);unfold fitX at h3;simp only [Bool.or_eq_false_iff,Bool.not_eq_false'] at h3;rw [q1,q2] at h3;obtain ⟨w1,w2⟩:=TM h3.2;exact ⟨VL q3 (by simpa using h3.1),w2,w1⟩
def Zc (l:List aO) (m:List Int):List (Int×ByteArray):=m.flatMap fun i=>(l.getD i.toNat aY).Functions.map fun f=>(i,f)
theorem UC {l:List aO} {m:List Int}:(Zc l m).map Prod.fst=Za l m:=by
 unfold Zc Za;rw [List.map_flatMap];congr 1; funext i;rw [List.map_map,← List.map_const']; rfl
theorem P6 {l:List aO} {m:List Int}:(Zc l m).map Prod.snd=X7 l m:=by
 unfold Zc X7;rw [List.map_flatMap];congr 1; funext i;rw [List.map_map];show List.map (fun x=>x) _=_;rw [List.map_id']
theorem EC {α β:Type} {f:α→β} {l:List α} {k:Nat} {d:α} {e:β} (h:k<l.length):(l.map f).getD k e=f (l.getD k d):=by
 rw [List.getD_eq_getElem?_getD,List.getElem?_map,List.getD_eq_getElem?_getD,List.getElem?_eq_getElem h]; rfl
theorem Zd {b:bF} {l:List aO} {m:List Int} {g:bX} {z:List Int} (h1:z.length=(X7 l m).length) (h2:g.Uses.length=z.length) (h:∀k:Nat,(k:Int)<g.Uses.length→UdK b.bD z (X7 l m) (Za l m) (g.Uses.getD k bY) k):
  g.Uses.map (fun u=>(u.Device,Z5 b.bD u.Use))=Zc l m:=by
 have hl:(Zc l m).length=(X7 l m).length:=by rw [← P6,List.length_map]
 refine List.ext_getElem (by rw [List.length_map]; omega) fun k hk hk2=>?_;rw [List.length_map] at hk;obtain ⟨u1,_,_,_,u5⟩:=h k (by omega);rw [← UC,EC (d:=(0,ByteArray.empty)) hk2] at u1;rw [← P6,EC (d:=(0,ByteArray.empty)) hk2] at u5;rw [List.getElem_map];rw [List.getD_eq_getElem?_getD,List.getElem?_eq_getElem hk,List.getD_eq_getElem?_getD,List.getElem?_eq_getElem hk2] at u1 u5;exact Prod.ext u1 u5
theorem aac {l:List aO} {m:List Int} {i:Int} {f:ByteArray} (hi:i∈m):cntF (l.getD i.toNat aY).Functions f≤(Zc l m).countP fun q=>(q.1==i)&&decide (q.2=f):=by
 unfold Zc;induction m with
 | nil=>cases hi
 | cons j m ih=>
  rw [List.flatMap_cons,List.countP_append];rcases List.mem_cons.1 hi with e | e
  ·subst e;refine Nat.le_trans ?_ (Nat.le_add_right _ _);rw [List.countP_map];unfold cntF;refine Nat.le_of_eq (List.countP_congr fun x _=>?_);simp
  ·exact Nat.le_trans (ih e) (Nat.le_add_left _ _)
theorem aad {b:bF} {l:List aO} {m:List Int} {g:bX} (h:g.Uses.map (fun u=>(u.Device,Z5 b.bD u.Use))=Zc l m) {i:Int} (hi:i∈m) (f:ByteArray):cntF (l.getD i.toNat aY).Functions f≤RP b.bD g.Uses i f:=by
 refine Nat.le_trans (aac hi) (Nat.le_of_eq ?_);rw [← h,List.countP_map];rfl
theorem D6 {α:Type} {f:Int→List α} {m:List Int} {i:Int} {x:α} (hi:i∈m) (hx:x∈f i):x∈m.flatMap f:=List.mem_flatMap.2 ⟨i,hi,hx⟩
theorem Ze {l:List aO} {m:List Int} {k:Nat} (hk:k<(Za l m).length):(Za l m).getD k 0∈m:=by
 have:=getD_in (l:=Za l m) 0 hk;obtain ⟨i,hi,hx⟩:=List.mem_flatMap.1 this;rw [List.eq_of_mem_replicate hx]; exact hi
theorem serve {b:bF} {l:List aO} {m ms:List Int} {g:bX} (hb:Py b) (hv:Uz b) (hl:l.length≤5) (hn:∀x∈l,M0 b l.length x) (hm:∀x∈m,0≤x∧x<l.length) (hgs:RB g) (hg:Z8 b l m g)
  (hsub:∀x∈ms,x∈m) (hd:ms.Nodup) (hlen:ms.length≤5) (hdr:Sp.fq b.bC g.fC (Hz l ms)=true) (bt:Bool):Jf ⟨b,l,ms,g,bt⟩:=by
 obtain ⟨f1,f2⟩:=TN hv.cl hg.st hg.ft;obtain ⟨z,z1,z2,zf,zu⟩:=hg.fg;have hpr:=Zd (b:=b) z1 z2 zu;have hsl:=zi hg.st;have hlr:(Sp.kR b.bC (Hz l m)).2=0:=by rw [hg.dr]
 have hll:=Sp.Jg hlr;rw [hg.dr] at hll;have hol:(Za l m).length=(X7 l m).length:=by rw [← UC,← P6,List.length_map,List.length_map]
 have hnd:∀x∈m,M0 b l.length (l.getD x.toNat aY):=fun x hx=>hn _ (getD_in _ (by have:=hm x hx; omega));have hud:∀k:Nat,k<g.Uses.length→XB b.bD (g.Uses.getD k bY).Use:=fun k hk=>by
  obtain ⟨_,u2,u3,u4,_⟩:=zu k (by omega);have:=zf.ir _ (getD_in (l:=z) (i:=k) 0 (by omega));exact ⟨by omega,by omega,u3,u4⟩
 refine ⟨⟨MN hb,⟨hv.cl,hv.su,hv.pn.ok,hv.rs.ok,hv.dm⟩,by show l.length≤12; omega,fun n h=>(aaM (hn n h)).ok,⟨by show l.length≤1000000; omega,fun n h=>⟨by have:=(hn n h).rs.1; omega,by have:=(hn n h).pr.1; omega⟩⟩,by show ms.length≤10000; omega,hgs⟩,
  ⟨fun x hx=>hm x (hsub x hx),hsl.1,hll.1,hll.2,hg.rn,hg.pn⟩,hv,Z9 hd,fun i hi=>hsl.2 i (by dsimp only at hi; omega),?_,hg.st,f1,?_,hdr,?_,?_,hg.rc,?_,hg.pc,?_⟩
 ·refine jW bY fun k hk=>?_;obtain ⟨u1,_⟩:=zu k (by dsimp only at hk; omega);have:=hm _ (Ze (l:=l) (m:=m) (k:=k) (by dsimp only at hk; omega));dsimp only;omega
 ·intro i hi x hx;exact f2 x (D6 (hsub i hi) hx) ((hnd i (hsub i hi)).lm.2 x hx)
 ·refine ⟨?_,?_⟩
  ·intro u hu;obtain ⟨w,hw,rfl⟩:=List.mem_map.1 hu;obtain ⟨k,hk,rfl⟩:=List.mem_iff_getElem.1 hw;have:=hud k hk;rwa [List.getD_eq_getElem?_getD,List.getElem?_eq_getElem hk] at this
  ·intro k j hj hk;rw [List.length_map] at hk;dsimp only at hk ⊢;rw [EC (d:=bY) (by omega),EC (d:=bY) (by omega),(zu k (by omega)).2.1,(zu j (by omega)).2.1];exact zf.dj k j hj (by omega)
 ·exact fun i hi f=>aad hpr (hsub i hi) f
 ·intro i hi x hx;have h:∀y∈rsM l m,g.Released.getD y.toNat false=true:=jW 0 fun j hj=>hg.rl j (by omega);exact h x (D6 (hsub i hi) hx)
 ·intro i hi hx;have h:∀y∈usM l m,g.eU.getD y.toNat false=true:=jW 0 fun j hj=>hg.pl j (by omega);exact h _ (D6 (hsub i hi) (by rw [if_pos hx]; exact List.mem_singleton.2 rfl))
theorem K3 {b:bF} {l:List aO} {k:Int} (hn:∀x∈l,M0 b k x):∀(m:List Int),(∀x∈m,0≤x∧x<l.length)→(Hz l m).length≤m.length∧∀y∈Hz l m,TA b.bC.length y:=by
 intro m hm;induction m with
 | nil=>exact ⟨Nat.le_refl _,nofun⟩
 | cons i m ih=>
  obtain ⟨h1,h2⟩:=ih fun x hx=>hm x (List.mem_cons_of_mem _ hx);have hi:=hn _ (getD_in (l:=l) (i:=i.toNat) aY (by have:=hm i List.mem_cons_self; omega));unfold Hz at *;rw [List.flatMap_cons];refine ⟨by rw [List.length_append,List.length_cons]; have:=hi.dw.1; omega,fun y hy=>?_⟩;rcases List.mem_append.1 hy with hy | hy
  ·exact hi.dw.2 y hy
  ·exact h2 y hy
theorem OH {b:bF} {l:List aO} {m:List Int} {g:bX} (hv:Uz b) (hn:∀x∈l,M0 b l.length x) (hm:∀x∈m,0≤x∧x<l.length) (hml:m.length≤5) (hg:Z8 b l m g):Sp.fq b.bC g.fC (Hz l m)=true:=by
 obtain ⟨d1,d2⟩:=K3 hn m hm;rcases Sp.Tq (KZ hv.su (by omega) d2) with ⟨_,h⟩ | ⟨h,_⟩
 ·have:=h.ok;rw [hg.dr] at this; exact this
 ·rw [hg.dr] at h; exact absurd (Prod.mk.inj h).2 (by decide)
theorem TP {b:bF} {l:List aO} {a c:List Int} {x:Int} {r:bE} (hv:Uz b) (hn:∀y∈l,M0 b l.length y) (hm:∀y∈a++x::c,0≤y∧y<l.length) (hml:(a++x::c).length≤5) (h:Sp.fq b.bC r (Hz l (a++x::c))=true):Sp.fq b.bC r (Hz l (a++c))=true:=by
 have hsub:∀y∈a++c,y∈a++x::c:=fun y hy=>by
  rcases List.mem_append.1 hy with hy | hy
  ·exact List.mem_append_left _ hy
  ·exact List.mem_append_right _ (List.mem_cons_of_mem _ hy)
 obtain ⟨d1,d2⟩:=K3 hn _ hm;obtain ⟨e1,e2⟩:=K3 hn (a++c) fun y hy=>hm y (hsub y hy);obtain ⟨q1,q2⟩:=K3 hn [x] fun y hy=>by rw [List.mem_singleton] at hy; rw [hy]; exact hm x (List.mem_append_right _ List.mem_cons_self)
 rw [List.length_append,List.length_cons] at hml d1;rw [List.length_append] at e1;have hp:(Hz l (a++x::c)).Perm (Hz l (a++c)++Hz l [x]):=by
  unfold Hz;rw [List.flatMap_append,List.flatMap_append,List.flatMap_cons,List.flatMap_cons,List.flatMap_nil,List.append_nil,List.append_assoc];exact List.Perm.append_left _ List.perm_append_comm
 have h1:=Sp.Tv hp h (KZ hv.su (by omega) d2);exact Sp.Rw (KZ hv.su (by omega) e2) (KZ hv.su (by simp at q1; omega) q2) (by simp at q1; omega) h1
theorem TQ {b:bF} {l:List aO} {m:List Int} {g:bX} {i:Int} (hb:Py b) (hv:Uz b) (hl:l.length≤5) (hn:∀x∈l,M0 b l.length x) (hm:∀x∈m,0≤x∧x<l.length) (hgs:RB g) (hg:Z8 b l m g) (hd:m.Nodup) (hml:m.length≤5) (h0:0≤i) (h1:i<m.length) (bt:Bool):
  Jf ⟨b,l,m.take i.toNat++(m.drop (i+1).toNat).take (m.length - (i+1).toNat),g,bt⟩:=by
 have e0:(m.drop (i+1).toNat).take (m.length - (i+1).toNat)=m.drop (i+1).toNat:=List.take_of_length_le (by rw [List.length_drop]; omega);rw [e0];have hi:i.toNat<m.length:=by omega
 have e:m.take i.toNat++m[i.toNat]::m.drop (i+1).toNat=m:=by
  rw [show (i+1).toNat=i.toNat+1 by omega,← List.drop_eq_getElem_cons hi,List.take_append_drop]
 have hsl:(m.take i.toNat++m.drop (i+1).toNat).Sublist m:=by
  conv=>rhs; rw [← e]
  exact List.Sublist.append (List.Sublist.refl _) (List.sublist_cons_self _ _)
 have hmt:=OH hv hn hm hml hg;refine serve hb hv hl hn hm hgs hg (fun x hx=>hsl.subset hx) (hd.sublist hsl) (Nat.le_trans hsl.length_le hml) ?_ bt;rw [← e] at hmt hm hml;exact TP hv hn hm hml hmt
end Go.Proofs.YtfblhejmclcdmaaGreatDoor


namespace Go.Proofs.YtfblhejmclcdmaaGreatDoor
open Go.Ab
set_option maxRecDepth 100000
theorem MO {o0_:bq} (h1:0≤o0_.At) (h2:o0_.L.length≤600):W (xJ o0_) (fun r=>Py r.1∧r.2.1.length≤5∧(∀x∈r.2.1,M0 r.1 (r.2.1.length:Int) x)∧r.2.2.1.length≤5∧(∀x∈r.2.2.1,0≤x∧x<r.2.1.length)∧r.2.2.1.Nodup∧RB r.2.2.2.1∧r.2.2.2.1.Uses.length≤2000∧(Uz r.1→r.2.2.2.2.1=true→Z8 r.1 r.2.1 r.2.2.1 r.2.2.2.1)∧0≤r.2.2.2.2.2.At∧r.2.2.2.2.2.L.length≤600):=by
 unfold xJ;refine aC (GY ob ob) fun v1 hv1=>?_;obtain ⟨hv1_1,hv1_2,hv1_3⟩:=hv1;refine aC (D5 ob ob ob ob ob) fun v2 hv2=>?_;obtain ⟨hv2_1,hv2_2,hv2_3,hv2_4⟩:=hv2;have hnz:∀x∈v2.1,x.Limits.length≤100∧x.Draws.length≤100∧x.Functions.length≤100∧x.Resets.length≤100:=fun x hx=>by have q:=hv2_2 x hx; have q1:=q.lm.1; have q2:=q.dw.1; have q3:=q.fw.1; have q4:=q.rs.1; omega
 refine aC (zw hv1_1 (by omega) (by simp) nofun hnz) fun v3 hv3=>?_;obtain ⟨hv3_1,hv3_2,hv3_3⟩:=hv3;refine aW (fun (g1:(Int×(List Int)×Int×(List Int)×(List Bool)×(List Int)×(List aZ)×(List Bool)×(List Bool)×(List Int)))=>0≤g1.1∧g1.1≤v2.1.length∧0≤g1.2.2.1∧g1.2.1.length≤600∧RB (⟨g1.2.2.2.1,⟨g1.2.2.2.2.1,g1.2.2.2.2.2.1⟩,g1.2.2.2.2.2.2.1,g1.2.2.2.2.2.2.2.1,g1.2.2.2.2.2.2.2.2.1⟩:bX)∧(⟨g1.2.2.2.1,⟨g1.2.2.2.2.1,g1.2.2.2.2.2.1⟩,g1.2.2.2.2.2.2.1,g1.2.2.2.2.2.2.2.1,g1.2.2.2.2.2.2.2.2.1⟩:bX).Uses.length≤2000∧(g1.2.2.2.2.2.2.2.2.2.length:Int)≤g1.1∧(∀x∈g1.2.2.2.2.2.2.2.2.2,0≤x∧x<g1.1)∧g1.2.2.2.2.2.2.2.2.2.Nodup∧(Uz v1.1→v3.2=true→Z8 v1.1 v2.1 g1.2.2.2.2.2.2.2.2.2 (⟨g1.2.2.2.1,⟨g1.2.2.2.2.1,g1.2.2.2.2.2.1⟩,g1.2.2.2.2.2.2.1,g1.2.2.2.2.2.2.2.1,g1.2.2.2.2.2.2.2.2.1⟩:bX))) (fun (g1:(Int×(List Int)×Int×(List Int)×(List Bool)×(List Int)×(List aZ)×(List Bool)×(List Bool)×(List Int)))=>(v2.1.length - g1.1).toNat) ?_ ?_
 ·intro self1 g1 hig1 ihg1;obtain ⟨hg1_1,hg1_2,hg1_3,hg1_4,hg1_5,hg1_6,hg1_7,hg1_8,hg1_9,hg1_10⟩:=hig1;unfold Dy;refine aF (fun c1=>?_) (fun c1=>?_)
  ·have c1:=nr c1;have hmm:∀x∈g1.2.2.2.2.2.2.2.2.2++[g1.1],0≤x∧x<v2.1.length:=fun x hx=>by rcases List.mem_append.1 hx with h | h; have:=hg1_8 x h; omega; (rw [List.mem_singleton] at h; rw [h]; omega)
   refine wn ?_;refine wn ?_;refine aC (zw hv1_1 (by omega) (by simp only [List.length_append,List.length_singleton]; omega) hmm hnz) fun v8 hv8=>?_;obtain ⟨hv8_1,hv8_2,hv8_3⟩:=hv8;refine aF (fun c2=>?_) (fun c2=>?_)
   ·have c2:=nr c2;refine aC (aT ob ob ob) fun v9 hv9=>?_;obtain ⟨hv9_1,hv9_2,hv9_3,hv9_4,hv9_5⟩:=hv9;refine aF (fun c3=>?_) (fun c3=>?_)
    ·have c3:=nr c3;refine wn ?_;refine wn ?_;refine ihg1 _ ?_ ?_
     ·(refine ⟨by exact ob,by exact ob,by exact ob,by exact ob,hv8_1,hv8_2,by exact ob,fun x hx=>?_,TL hg1_9 (fun x hx=>(hg1_8 x hx).2),fun h _=>hv8_3 h c3.1.2⟩; dsimp only at hx ⊢; rcases List.mem_append.1 hx with h | h; (have:=hg1_8 x h; omega); (rw [List.mem_singleton] at h; omega))
     ·exact ob
    ·have c3:=nr c3;refine wn ?_;refine ihg1 _ ?_ ?_
     ·(refine ⟨by exact ob,by exact ob,by exact ob,by exact ob,hg1_5,hg1_6,by exact ob,(fun x hx=>by have:=hg1_8 x hx; dsimp only; omega),hg1_9,hg1_10⟩)
     ·exact ob
   ·have c2:=nr c2;refine wn ?_;refine wn ?_;refine ihg1 _ ?_ ?_
    ·(refine ⟨by exact ob,by exact ob,by exact ob,by exact ob,hg1_5,hg1_6,by exact ob,(fun x hx=>by have:=hg1_8 x hx; dsimp only; omega),hg1_9,hg1_10⟩)
    ·exact ob
  ·have c1:=nr c1;refine ak ?_;(refine ⟨hv1_1,by dsimp only; omega,hv2_2,by dsimp only; omega,fun x hx=>by have:=hg1_8 x hx; dsimp only; omega,hg1_9,hg1_5,hg1_6,hg1_10,hg1_3,hg1_4⟩)
 ·(refine ⟨by exact ob,by exact ob,by exact ob,by exact ob,hv3_1,hv3_2,by exact ob,nofun,List.nodup_nil,hv3_3⟩)
theorem Gi {t_:(List Int)} {gone_:Int} (h1:0≤gone_) (h2:gone_≤255):W (qW t_ gone_) (fun r=>r=true):=by
 unfold qW;refine aF (fun c1=>?_) (fun c1=>?_)
 ·have c1:=nr c1;refine aC (vB) fun v1 hv1=>?_;refine ak ?_;(exact hv1)
 ·have c1:=nr c1;refine aC (Q0) fun v2 hv2=>?_;obtain ⟨hv2_1,hv2_2⟩:=hv2;refine aC (MO ob ob) fun v3 hv3=>?_;obtain ⟨hv3_1,hv3_2,hv3_3,hv3_4,hv3_5,hv3_6,hv3_7,hv3_8,hv3_9,hv3_10,hv3_11⟩:=hv3;refine aC (CK fun hc=>MG (MN hv3_1) (fun g hg=>by have:=hv3_1.gr g hg; omega)) fun v4 hv4=>?_;refine aF (fun c2=>?_) (fun c2=>?_)
  ·have c2:=nr c2;refine aC (vB) fun v5 hv5=>?_;refine ak ?_;(exact hv5)
  ·have c2:=nr c2;obtain ⟨o1,o2⟩:=c2;have hbv:=hv4 (by rw [o1]; rfl) o2;have hgg:=hv3_9 hbv o1;have hmt:=OH hbv hv3_3 hv3_5 hv3_4 hgg;have hns:YV v3.2.1:=⟨by omega,fun n h=>⟨by have:=(hv3_3 n h).rs.1; omega,by have:=(hv3_3 n h).pr.1; omega⟩⟩;have hnv:∀n∈v3.2.1,NdV v3.1 v3.2.1.length n:=fun n h=>aaM (hv3_3 n h);have hsv:∀bt,Jf ⟨v3.1,v3.2.1,v3.2.2.1,v3.2.2.2.1,bt⟩:=serve hv3_1 hbv hv3_2 hv3_3 hv3_5 hv3_7 hgg (fun _ h=>h) hv3_6 hv3_4 hmt;refine aC (kL (MN hv3_1) hns hbv (by omega) hnv (hsv _)) fun v6 hv6=>?_;refine aF (fun c3=>?_) (fun c3=>?_)
   ·have c3:=nr c3;refine ak ?_;(exact absurd hv6 c3)
   ·have c3:=nr c3;refine aF (fun c4=>?_) (fun c4=>?_)
    ·have c4:=nr c4;refine aC (kL (MN hv3_1) hns hbv (by omega) hnv (hsv _)) fun v7 hv7=>?_;refine aC (CK fun hc=>vB) fun v8 hv8=>?_;refine ak ?_;(have q:=hv8 (by rw [hv7]; rfl); rw [hv7,q]; rfl)
    ·have c4:=nr c4;have he:IntKind.i64.wrap gone_=gone_:=wrap_i64 (by unfold InI64; omega);have hi0:0≤(IntKind.i64.wrap gone_).tmod (v3.2.2.1.length:Int):=(by rw [he]; exact Int.tmod_nonneg _ h1);have hi1:(IntKind.i64.wrap gone_).tmod (v3.2.2.1.length:Int)<(v3.2.2.1.length:Int):=(by rw [he]; exact (Ey gone_ _ (by omega)).2);have hls:=TQ hv3_1 hbv hv3_2 hv3_3 hv3_5 hv3_7 hgg hv3_6 hv3_4 hi0 hi1;refine wn ?_;refine wn ?_;refine wn ?_;refine wn ?_;refine wn ?_;refine wn ?_;refine aC (kL (MN hv3_1) hns hbv (by omega) hnv (hsv _)) fun v9 hv9=>?_;refine aC (CK fun hc=>kL (MN hv3_1) hns hbv (by omega) hnv (hls _)) fun v10 hv10=>?_;refine aC (CK fun hc=>kL (MN hv3_1) hns hbv (by omega) hnv (hls _)) fun v11 hv11=>?_;refine aC (CK fun hc=>vB) fun v12 hv12=>?_;refine ak ?_;(have q10:=hv10 (by rw [hv9]; rfl); have q11:=hv11 (by rw [hv9,q10]; rfl); have q12:=hv12 (by rw [hv9,q10,q11]; rfl); rw [hv9,q10,q11,q12]; rfl)
end Go.Proofs.YtfblhejmclcdmaaGreatDoor


namespace Go.Proofs.YtfblhejmclcdmaaGreatDoor
open Go.Ab
def cfg:qm where
 ty:=[(3,⟨1,false,8,[(.int .i64)],(.int .i64)⟩),
 (4,⟨1,false,1,[.bool],.bool⟩),
 (5,⟨1,false,1,[(.int .u8)],(.int .u8)⟩),
 (9,⟨1,false,16,[.str],.str⟩),
 (22,⟨1,false,24,[.slice],(.slice 3)⟩),
 (24,⟨1,false,8,[.ptr],(.pointer 77)⟩),
 (26,⟨1,false,24,[.slice],(.slice 139)⟩),
 (27,⟨1,false,24,[.slice],(.slice 143)⟩),
 (28,⟨1,false,24,[.slice],(.slice 118)⟩),
 (29,⟨2,true,32,[(.int .i64),.slice],(.struct [(0,3),(1,28)])⟩),
 (30,⟨2,true,32,[(.int .i64),.slice],(.struct [(0,3),(1,28)])⟩),
 (31,⟨1,false,24,[.slice],(.slice 120)⟩),
 (32,⟨1,false,24,[.slice],(.slice 147)⟩),
 (33,⟨6,true,128,[.slice,.slice,(.int .i64),.slice,.slice,.slice],(.struct [(0,26),(1,27),(2,30),(4,31),(5,32)])⟩),
 (34,⟨6,true,128,[.slice,.slice,(.int .i64),.slice,.slice,.slice],(.struct [(0,26),(1,27),(2,30),(4,31),(5,32)])⟩),
 (35,⟨1,false,24,[.slice],(.slice 70)⟩),
 (36,⟨1,false,24,[.slice],(.slice 4)⟩),
 (37,⟨2,true,48,[.slice,.slice],(.struct [(0,36),(1,22)])⟩),
 (38,⟨2,true,48,[.slice,.slice],(.struct [(0,36),(1,22)])⟩),
 (39,⟨1,false,24,[.slice],(.slice 74)⟩),
 (40,⟨6,true,144,[.slice,.slice,.slice,.slice,.slice,.slice],(.struct [(0,22),(1,38),(3,39),(4,36),(5,36)])⟩),
 (41,⟨6,true,144,[.slice,.slice,.slice,.slice,.slice,.slice],(.struct [(0,22),(1,38),(3,39),(4,36),(5,36)])⟩),
 (44,⟨1,false,8,[(.int .i64)],(.int .i64)⟩),
 (48,⟨1,false,24,[.slice],(.slice 51)⟩),
 (50,⟨3,true,24,[(.int .i64),(.int .i64),(.int .i64)],(.struct [(0,3),(1,3),(2,3)])⟩),
 (51,⟨3,true,24,[(.int .i64),(.int .i64),(.int .i64)],(.struct [(0,3),(1,3),(2,3)])⟩),
 (59,⟨3,true,72,[.slice,.slice,.slice],(.array 3 35)⟩),
 (62,⟨18,true,432,[.slice,.slice,.slice,.slice,.slice,.slice,.slice,.slice,.slice,.slice,.slice,.slice,.slice,.slice,.slice,.slice,.slice,.slice],(.array 3 41)⟩),
 (63,⟨3,true,72,[.slice,.slice,.slice],(.array 3 22)⟩),
 (64,⟨2,true,48,[.slice,.slice],(.array 2 48)⟩),
 (66,⟨1,false,24,[.slice],(.slice 9)⟩),
 (67,⟨1,false,24,[.slice],(.slice 101)⟩),
 (68,⟨1,false,24,[.slice],(.slice 103)⟩),
 (69,⟨6,true,128,[.slice,.slice,.slice,.slice,(.int .i64),.slice],(.struct [(0,67),(1,68),(2,66),(3,22),(4,3),(5,22)])⟩),
 (70,⟨6,true,128,[.slice,.slice,.slice,.slice,(.int .i64),.slice],(.struct [(0,67),(1,68),(2,66),(3,22),(4,3),(5,22)])⟩),
 (71,⟨2,true,16,[(.int .i64),(.int .i64)],(.struct [(0,3),(1,3)])⟩),
 (72,⟨2,true,16,[(.int .i64),(.int .i64)],(.struct [(0,3),(1,3)])⟩),
 (73,⟨3,true,24,[(.int .i64),(.int .i64),(.int .i64)],(.struct [(0,3),(1,72)])⟩),
 (74,⟨3,true,24,[(.int .i64),(.int .i64),(.int .i64)],(.struct [(0,3),(1,72)])⟩),
 (76,⟨2,true,32,[.slice,(.int .i64)],(.struct [(0,22),(1,3)])⟩),
 (77,⟨2,true,32,[.slice,(.int .i64)],(.struct [(0,22),(1,3)])⟩),
 (86,⟨15,true,328,[.slice,.slice,(.int .i64),.slice,.slice,.slice,.slice,.slice,.slice,.slice,.slice,.slice,.slice,.slice,.bool],(.struct [(0,34),(6,35),(7,22),(8,41),(14,4)])⟩),
 (87,⟨15,true,328,[.slice,.slice,(.int .i64),.slice,.slice,.slice,.slice,.slice,.slice,.slice,.slice,.slice,.slice,.slice,.bool],(.struct [(0,34),(6,35),(7,22),(8,41),(14,4)])⟩),
 (93,⟨1,false,8,[.ptr],(.pointer 41)⟩),
 (100,⟨3,true,24,[(.int .i64),(.int .i64),(.int .i64)],(.struct [(0,3),(1,3),(2,3)])⟩),
 (101,⟨3,true,24,[(.int .i64),(.int .i64),(.int .i64)],(.struct [(0,3),(1,3),(2,3)])⟩),
 (102,⟨4,true,32,[(.int .i64),(.int .i64),(.int .i64),(.int .i64)],(.struct [(0,3),(1,3),(2,3),(3,3)])⟩),
 (103,⟨4,true,32,[(.int .i64),(.int .i64),(.int .i64),(.int .i64)],(.struct [(0,3),(1,3),(2,3),(3,3)])⟩),
 (112,⟨1,false,24,[.slice],(.slice 72)⟩),
 (117,⟨3,true,64,[.str,.slice,.slice],(.struct [(0,9),(1,22),(2,66)])⟩),
 (118,⟨3,true,64,[.str,.slice,.slice],(.struct [(0,9),(1,22),(2,66)])⟩),
 (119,⟨1,true,24,[.slice],(.struct [(0,22)])⟩),
 (120,⟨1,true,24,[.slice],(.struct [(0,22)])⟩),
 (138,⟨5,true,72,[(.int .i64),.slice,.slice,(.int .i64),(.int .i64)],(.struct [(0,3),(1,22),(2,22),(3,3),(4,3)])⟩),
 (139,⟨5,true,72,[(.int .i64),.slice,.slice,(.int .i64),(.int .i64)],(.struct [(0,3),(1,22),(2,22),(3,3),(4,3)])⟩),
 (140,⟨1,false,8,[.other],.other⟩),
 (142,⟨5,true,56,[(.int .i64),.slice,(.int .i64),(.int .i64),.bool],(.struct [(0,3),(1,22),(2,3),(3,3),(4,4)])⟩),
 (143,⟨5,true,56,[(.int .i64),.slice,(.int .i64),(.int .i64),.bool],(.struct [(0,3),(1,22),(2,3),(3,3),(4,4)])⟩),
 (146,⟨2,true,16,[(.int .i64),.bool],(.struct [(0,3),(1,4)])⟩),
 (147,⟨2,true,16,[(.int .i64),.bool],(.struct [(0,3),(1,4)])⟩),
 (148,⟨1,false,8,[.other],.other⟩),
 (149,⟨1,false,24,[.slice],(.slice 148)⟩),
 (158,⟨1,false,8,[.other],.other⟩),
 (163,⟨1,false,8,[.other],.other⟩),
 (165,⟨1,false,8,[.other],(.map 9 4)⟩),
 (170,⟨1,false,24,[.slice],(.slice 175)⟩),
 (174,⟨2,true,16,[(.int .i64),(.int .i64)],(.struct [(0,3),(1,3)])⟩),
 (175,⟨2,true,16,[(.int .i64),(.int .i64)],(.struct [(0,3),(1,3)])⟩),
 (179,⟨1,false,24,[.slice],(.slice 22)⟩),
 (180,⟨1,false,24,[.slice],(.slice 5)⟩),
 (194,⟨1,false,8,[.other],(.map 9 3)⟩),
 (196,⟨1,false,8,[.other],.other⟩),
 (213,⟨1,false,8,[.other],.other⟩),
 (215,⟨1,false,8,[.other],.other⟩),
 (216,⟨64,true,512,[(.int .i64),(.int .i64),(.int .i64),(.int .i64),(.int .i64),(.int .i64),(.int .i64),(.int .i64),(.int .i64),(.int .i64),(.int .i64),(.int .i64),(.int .i64),(.int .i64),(.int .i64),(.int .i64),(.int .i64),(.int .i64),(.int .i64),(.int .i64),(.int .i64),(.int .i64),(.int .i64),(.int .i64),(.int .i64),(.int .i64),(.int .i64),(.int .i64),(.int .i64),(.int .i64),(.int .i64),(.int .i64),(.int .i64),(.int .i64),(.int .i64),(.int .i64),(.int .i64),(.int .i64),(.int .i64),(.int .i64),(.int .i64),(.int .i64),(.int .i64),(.int .i64),(.int .i64),(.int .i64),(.int .i64),(.int .i64),(.int .i64),(.int .i64),(.int .i64),(.int .i64),(.int .i64),(.int .i64),(.int .i64),(.int .i64),(.int .i64),(.int .i64),(.int .i64),(.int .i64),(.int .i64),(.int .i64),(.int .i64),(.int .i64)],(.array 64 3)⟩),
 (217,⟨64,true,512,[(.int .i64),(.int .i64),(.int .i64),(.int .i64),(.int .i64),(.int .i64),(.int .i64),(.int .i64),(.int .i64),(.int .i64),(.int .i64),(.int .i64),(.int .i64),(.int .i64),(.int .i64),(.int .i64),(.int .i64),(.int .i64),(.int .i64),(.int .i64),(.int .i64),(.int .i64),(.int .i64),(.int .i64),(.int .i64),(.int .i64),(.int .i64),(.int .i64),(.int .i64),(.int .i64),(.int .i64),(.int .i64),(.int .i64),(.int .i64),(.int .i64),(.int .i64),(.int .i64),(.int .i64),(.int .i64),(.int .i64),(.int .i64),(.int .i64),(.int .i64),(.int .i64),(.int .i64),(.int .i64),(.int .i64),(.int .i64),(.int .i64),(.int .i64),(.int .i64),(.int .i64),(.int .i64),(.int .i64),(.int .i64),(.int .i64),(.int .i64),(.int .i64),(.int .i64),(.int .i64),(.int .i64),(.int .i64),(.int .i64),(.int .i64)],(.array 64 3)⟩),
 (230,⟨1,false,8,[.other],.other⟩)]
 eqs:=[(74,[(.int .i64),(.int .i64),(.int .i64)]),(175,[(.int .i64),(.int .i64)])]
 fns:=[(7,⟨[],true⟩),(8,⟨[0],true⟩),(11,⟨[0],false⟩),(12,⟨[0],false⟩),(13,⟨[],true⟩),(14,⟨[],true⟩),(17,⟨[0],true⟩),(20,⟨[0],true⟩),(22,⟨[],true⟩),(23,⟨[],true⟩),(24,⟨[],true⟩),(25,⟨[0],true⟩),(26,⟨[0],true⟩),(27,⟨[],true⟩),(35,⟨[0],false⟩),(36,⟨[0],false⟩),(37,⟨[],true⟩),(39,⟨[],true⟩),(40,⟨[0],false⟩),(50,⟨[0],false⟩),(58,⟨[],true⟩),(59,⟨[],true⟩),(63,⟨[0],true⟩),(64,⟨[0],true⟩),(65,⟨[0],true⟩),(66,⟨[0],true⟩),(67,⟨[0],true⟩),(68,⟨[0],false⟩),(69,⟨[0],false⟩),(70,⟨[0],true⟩),(71,⟨[0],true⟩),(72,⟨[],true⟩),(73,⟨[],true⟩),(74,⟨[],true⟩),(75,⟨[],true⟩),(76,⟨[],true⟩),(79,⟨[],true⟩),(92,⟨[],true⟩),(93,⟨[],true⟩),(94,⟨[],true⟩),(95,⟨[],true⟩),(96,⟨[0],false⟩),(97,⟨[0],false⟩),(100,⟨[0],true⟩),(112,⟨[],true⟩),(118,⟨[],true⟩),(120,⟨[],true⟩),(122,⟨[],true⟩),(126,⟨[],true⟩),(131,⟨[],true⟩),(133,⟨[],true⟩),(152,⟨[],true⟩),(154,⟨[],true⟩),(157,⟨[],true⟩),(162,⟨[],true⟩),(168,⟨[],true⟩),(169,⟨[],true⟩),(188,⟨[],true⟩),(204,⟨[0],false⟩),(205,⟨[0],false⟩),(206,⟨[0],false⟩),(207,⟨[0],false⟩),(208,⟨[0],false⟩),(211,⟨[0],false⟩)]
 glob:=[(0,[iV (0:Int),iV (1:Int)])]
theorem gV:dY Tryz.prog cfg:=WZ (by kernel_rfl) (by kernel_rfl) (by kernel_rfl)
abbrev S:=Ab.Spec Tryz.prog cfg
end Go.Proofs.YtfblhejmclcdmaaGreatDoor









namespace Go.Proofs.YtfblhejmclcdmaaGreatDoor
open Go.Ab Go.RowKit Go.Shelf
attribute [local go_sem] Oper.semAt_some
set_option maxRecDepth 100000 in
set_option maxHeartbeats 2000000 in
theorem Zf (F:Fence) (n:Nat) (h7:F.fn 194) (hro:F.round=none) (hn:1≤n) (l B O b off len cap:Nat) (hlen:len≤1000000) (Keep:World→Prop)
  (c0 c1 c2 c3 c4:Nat→Value) (v1:Nat→Value) (hv:∀i,v1 i=.agg #[c0 i,c1 i,c2 i,c3 i,c4 i])
  (hB:∀w,Keep w→w.cell? ⟨B,O,none⟩=some (.slice (some ⟨b,off,none⟩) len cap))
  (h0:∀w i,Keep w→i<len→w.cell? ⟨b,off+i*5,none⟩=some (c0 i)) (h1:∀w i,Keep w→i<len→w.cell? ⟨b,off+i*5+1,none⟩=some (c1 i)) (h2:∀w i,Keep w→i<len→w.cell? ⟨b,off+i*5+2,none⟩=some (c2 i))
  (h3:∀w i,Keep w→i<len→w.cell? ⟨b,off+i*5+3,none⟩=some (c3 i)) (h4:∀w i,Keep w→i<len→w.cell? ⟨b,off+i*5+4,none⟩=some (c4 i))
  (J:Nat→World→Prop) (Jx:World→Prop)
  (hY:∀k W,k<len→J k W→YieldAt F (n - 1) Tryz.prog l #[.int .i64 ((len - 1 - k:Nat):Int),v1 (len - 1 - k)] W fun e W'=>
    (e=.returned (.bool true)∧J (k+1) W'∧Keep W')∨(e=.returned (.bool false)∧Jx W'))
  (W:World) (hW:Keep W) (hJ:J 0 W):
  CallsIn F n Tryz.prog 194 #[.func (.yield l) #[] #[],.pointer (some ⟨B,O,none⟩)] W fun e W'=>(∃v,e=.returned v)∧(J len W'∨Jx W'):=by
 refine callsIn_of_wp Tryz.func194 rfl h7 ?_ hro;simp only [Tryz.ntmps194,List.size_toArray,List.length_cons,List.length_nil,Nat.reduceAdd,Nat.reduceSub,Array.replicate_succ,Array.replicate_zero,List.push_toArray,List.append_toArray,List.nil_append,List.cons_append];have hB0:=hB W hW;gi_wp2;gi_loopw [3] (fun i wr=>∃k:Nat,k≤len∧i=.int .i64 ((len:Int) - 1 - k)∧J k wr∧Keep wr)
  (fun i _=>(intOf i+1).toNat)
 case atStart=>exact ⟨0,Nat.zero_le _,by simp,hJ,hW⟩
 case round=>
  obtain ⟨k,hk,rfl,hJs,hkp⟩:=hrel
  by_cases hlt:k<len
  ·obtain ⟨fn,tmps,assign,body,hy,hR⟩:=hY k wr hlt hJs
   have hBr:=hB wr hkp
   obtain ⟨i,hi⟩:∃i:Nat,i=len - 1 - k:=⟨_,rfl⟩
   rw [← hi] at hy
   have hil:i<len:=by omega
   have hii:((len:Int) - 1 - k)=(i:Int):=by omega
   rw [hii]
   have e0:=h0 wr i hkp hil
   have e1:=h1 wr i hkp hil
   have e2:=h2 wr i hkp hil
   have e3:=h3 wr i hkp hil
   have e4:=h4 wr i hkp hil
   rw [hv] at hy
   have A:Aside (i+k+1=len):=by show i+k+1=len; omega
   have hi0:¬ ((i:Int)<0):=by omega
   have hi1:0≤(i:Int):=by omega
   clear hi hii hlt hk
   gi_wp2
   refine hR.mono ?_
   rintro e W3 (⟨rfl,hJ3,hk3⟩ | ⟨rfl,hJx3⟩)
   ·have A':=A.out
    gi_wp2
    go_roundw
    case rel=>exact ⟨k+1,by omega,by have:=A'; simp; omega,hJ3,hk3⟩
    case measure=>simp [intOf]
   ·gi_wp2
    refine bodyPost_ret (results_none rfl _ _ _) rfl ?_
    exact ⟨⟨_,rfl⟩,.inr hJx3⟩
  ·obtain rfl:k=len:=by omega
   have hneg:((k:Int) - 1 - k) = -1:=by omega
   rw [hneg]
   gi_wp2
   go_end0
   exact ⟨⟨_,rfl⟩,.inl hJs⟩
set_option maxRecDepth 100000 in
set_option maxHeartbeats 2000000 in
theorem RV (F:Fence) (n:Nat) (h7:F.fn 194) (hro:F.round=none) (l B O cap:Nat) (a:Option Addr) (J:World→Prop) (W:World) (hB:W.cell? ⟨B,O,none⟩=some (.slice a 0 cap)) (hJ:J W):
  CallsIn F n Tryz.prog 194 #[.func (.yield l) #[] #[],.pointer (some ⟨B,O,none⟩)] W fun e W'=>(∃v,e=.returned v)∧J W':=by
 refine callsIn_of_wp Tryz.func194 rfl h7 ?_ hro;simp only [Tryz.ntmps194,List.size_toArray,List.length_cons,List.length_nil,Nat.reduceAdd,Nat.reduceSub,Array.replicate_succ,Array.replicate_zero,List.push_toArray,List.append_toArray,List.nil_append,List.cons_append];gi_wp2;gi_loopw [3] (fun i wr=>i=.int .i64 (-1)∧J wr) (fun _ _=>0);case atStart=>exact ⟨by simp,hJ⟩
 case round=>
  obtain ⟨rfl,hJs⟩:=hrel
  gi_wp2
  go_end0
  exact ⟨⟨_,rfl⟩,hJs⟩
theorem FV {n n':Nat} {P:Program} {f:FuncId} {args:Array Value} {w:World} {R:Ending→World→Prop} (h:CallsIn (FW none) n P f args w R):CallsIn (FW none) n' P f args w R:=
 ⟨h.1,fun cs _=>h.2 cs (fun _ hd=>by cases hd)⟩
theorem OI (l:List aj) (hl:l.length≤1000000):LV Tryz.prog 194 [.ro [aL l]] l.length (fun k=>iV ((l.length - 1 - k:Nat):Int)) (fun k=>wW (l.getD (l.length - 1 - k) ah)):=by
 refine ⟨enters_of Tryz.func194 (by kernel_rfl) rfl,fun w I lb hI hlb hp=>?_⟩;have h0:=hp 0 (by simp);have hlb1:lb=#[lb.getD 0 Go.undef]:=by
  have:lb.size=1:=hlb;apply Array.ext
  ·simp [this]
  ·intro i h1 h2;have:i=0:=by omega
   subst this;simp [h1]
 rw [hlb1];generalize lb.getD 0 Go.undef=x at h0;clear hlb1 hp hlb;cases h0 with
 | ro B O vs hIB hm hr=>
  have hs:=hr 0 (by simp);have hm0:=hm 0 (by simp);have hs:PRep w I (aL l) (vs 0):=hs;generalize vs 0=sv at hs hm0;cases hs with
  | @sl _ _ _ _ a cap b off cs hcap _ ha hes hcm h1 hcr=>
   by_cases hz:l.length=0
   ·refine ⟨fun _=>.bool true,fun _=>.bool true,fun k hk=>absurd hk (by omega),fun y n J Jx W hW hY hJ=>?_⟩;have hBc:W.cell? ⟨B,O,none⟩=some (.slice a 0 cap):=by
     rw [fV (w:=w) (hW B hIB),← hz];exact hm0
    rw [hz];exact (RV (FW none) n trivial rfl y B O cap a (fun W=>J 0 W) W hBc hJ).mono fun e W' ⟨h1,h2⟩=>⟨h1,.inl h2⟩
   ·obtain ⟨ha1,hIb⟩:=ha hz;subst ha1;refine ⟨fun k=>.int .i64 ((l.length - 1 - k:Nat):Int),fun k=>.agg #[cs (l.length - 1 - k) 0,cs (l.length - 1 - k) 1,cs (l.length - 1 - k) 2,cs (l.length - 1 - k) 3,cs (l.length - 1 - k) 4],fun k hk=>⟨.int _ _,?_⟩,fun y n J Jx W hW hY hJ=>?_⟩
    ·refine .agg rfl fun j hj=>?_;have hj:j<5:=hj;have:=hcr (l.length - 1 - k) j (by omega) hj;have e:nth (wW (l.getD (l.length - 1 - k) ah)).cells j=nth [iV (l.getD (l.length - 1 - k) ah).Parent,W9 (l.getD (l.length - 1 - k) ah).aQ,iV (l.getD (l.length - 1 - k) ah).dM,iV (l.getD (l.length - 1 - k) ah).dU,.bool (l.getD (l.length - 1 - k) ah).Always] j:=rfl;rcases (by omega:j=0∨j=1∨j=2∨j=3∨j=4) with rfl | rfl | rfl | rfl | rfl<;>exact this
    ·have key:∀W':World,(∀b,I b→W'.heap[b]? = w.heap[b]?)→∀i j,i<l.length→j<5→W'.cell? ⟨b,off+(i*5+j),none⟩=some (cs i j):=fun W' hW' i j hi hj=>by
      rw [fV (w:=w) (hW' b hIb)];exact hcm i j hi hj
     refine FV (Zf (FW none) (n+1) trivial rfl (by omega) y B O b off l.length cap hl (fun W':World=>∀b,I b→W'.heap[b]? = w.heap[b]?) (fun i=>cs i 0) (fun i=>cs i 1) (fun i=>cs i 2) (fun i=>cs i 3) (fun i=>cs i 4) (fun i=>.agg #[cs i 0,cs i 1,cs i 2,cs i 3,cs i 4]) (fun _=>rfl)
      (fun W' hW'=>by rw [fV (w:=w) (hW' B hIB)]; exact hm0) (fun W' i h hi=>key W' h i 0 hi (by omega)) (fun W' i h hi=>key W' h i 1 hi (by omega)) (fun W' i h hi=>key W' h i 2 hi (by omega)) (fun W' i h hi=>key W' h i 3 hi (by omega)) (fun W' i h hi=>key W' h i 4 hi (by omega))
      (fun k W1=>J k W1∧∀b,I b→W1.heap[b]? = w.heap[b]?) Jx ?_ W hW ⟨hJ,hW⟩ |>.mono ?_)
     ·rintro k W1 hk ⟨hJ1,hW1⟩;obtain ⟨fn,tmps,assign,body,hy,hR⟩:=hY k W1 hk hJ1;refine ⟨fn,tmps,assign,body,hy,hR.mono ?_⟩;rintro e W' (⟨rfl,h2,h3⟩ | ⟨rfl,h2⟩)
      ·have hW':∀b,I b→W'.heap[b]? = w.heap[b]? := fun b hb=>(h3 b hb).trans (hW1 b hb);exact .inl ⟨rfl,⟨h2,hW'⟩,hW'⟩
      ·exact .inr ⟨rfl,h2⟩
     ·rintro e W' ⟨h1,⟨h2,_⟩ | h2⟩
      ·exact ⟨h1,.inl h2⟩
      ·exact ⟨h1,.inr h2⟩
theorem NK (l:List aj):S 188 [aL l] [] (.fn 194 [.ro [aL l]]) []:=by
 refine U9 (ct:=[]) gV Tryz.func188 rfl rfl (Nat.le_of_ble_eq_true rfl) (by decide +kernel) (Nat.zero_le _) ?_;conv=>whnf
 exact ⟨⟨rfl,Iw.refl _,trivial⟩,trivial⟩
end Go.Proofs.YtfblhejmclcdmaaGreatDoor









namespace Go.Proofs.YtfblhejmclcdmaaGreatDoor
open Go.ChangeShapes Go.WideShapes Go.ChangeAt Go.RowKit
open Go.Ab
set_option maxRecDepth 100000
theorem own:ownKnob Tryz.prog.godebug=none:=by kernel_rfl
theorem laidOut:laidOutB Tryz.prog=true:=by kernel_rfl
theorem aa9:Tryz.prog.globalNamed "bringup/clock.off" = some 0:=by kernel_rfl
theorem abb:(Tryz.prog.globals[0]?).map (·.type)=some 175:=by kernel_rfl
theorem Zg:Tryz.prog.cellsOf 175=2:=by kernel_rfl
theorem cells3:Tryz.prog.cellsOf 3=1:=by kernel_rfl
abbrev X5:List (String×DataW Unit):=[("bringup/clock.off", Rows.laid_bringup_clock_off)]
theorem Zh {W:World} (h:laidMetH Tryz.prog X5 W):W.cell? ⟨0,0,none⟩=some (.int .i64 0)∧W.cell? ⟨0,1,none⟩=some (.int .i64 1):=by
 rw [MakeChecks.laidMetH_plain _ _ _ (by kernel_rfl)] at h;obtain ⟨ps,⟨g0,t0,cs0,f0,p0,q0,hg0,ht0,hv0,hd0,_⟩,_,_⟩:=h;obtain rfl:=Option.some.inj (aa9.symm.trans hg0);obtain rfl:=Option.some.inj (abb.symm.trans ht0);obtain ⟨y0,y1,n,hx,hl,h0,h1⟩:=trod_struct2 Tryz.underlying175 hd0;rw [Zg] at hl;simp only [Prod.mk.injEq,Rows.laid_bringup_clock_off,DataW.agg.injEq,List.cons.injEq] at hx;obtain ⟨k0,e1,e2,_⟩:=DataW.trod_int Tryz.underlying3 h0;obtain ⟨k1,e3,e4,_⟩:=DataW.trod_int Tryz.underlying3 h1;have hk0:k0=0:=by have:=hx.1.1; rw [e2] at this; simpa using this.symm
 have hk1:k1=1:=by have:=hx.1.2.1; rw [e4] at this; simpa using this.symm
 subst hk0; subst hk1;have c0:=World.var?_cell hg0 hv0 0;have c1:=World.var?_cell hg0 hv0 1;obtain ⟨l⟩:=cs0;match l,hl with
 | [a,b],_=>
  rw [cells3] at e1 e3
  simp at e1 e3
  subst e1; subst e3
  exact ⟨by simpa using c0,by simpa using c1⟩
def Old (W:World):Nat→Prop:=fun b=>b<W.heap.size
theorem abd {W:World} (h:laidMetH Tryz.prog X5 W):Rel cfg (BK W (Old W) (fun _=>none) 0) (hof []) (fun o=>o<0) W (Old W) (fun _=>none):=by
 obtain ⟨h0,h1⟩:=Zh h;exact {
  dom:=fun o=>by simp [hof]
  used:=fun o p h=>by cases h
  objs:=fun o ob p _ h=>by cases h
  inj:=fun o o' p p' b bo sz b' bo' sz' h=>by cases h
  kG:=fun o p b bo sz h=>by cases h
  lt:=fun o p b bo sz h=>by cases h
  tu:=fun b h=>h
  size:=Nat.le_refl _
  frame:=fun _ _ _=>rfl
  new:=fun o p b bo sz h=>by cases h
  glob:=fun g cs hg=>by
   have e:g=0∧cs=[.int .i64 0,.int .i64 1]:=by
    unfold cfg at hg
    simp only [Ab.look] at hg
    cases hb:Nat.beq 0 g with
    | true=>
     rw [hb] at hg
     have:=Nat.eq_of_beq_eq_true hb
     simp at hg
     exact ⟨this.symm,hg.symm⟩
    | false=>rw [hb] at hg; cases hg
   obtain ⟨rfl,rfl⟩:=e
   refine .ro 0 0 (fun j=>match j with | 0=>.int .i64 0 | _=>.int .i64 1) (World.block_lt_of_cell? _ _ h0) (fun j hj=>?_) (fun j hj=>?_)
   ·match j,hj with
    | 0,_=>exact h0
    | 1,_=>exact h1
   ·match j,hj with
    | 0,_=>exact .int _ _
    | 1,_=>exact .int _ _
  Gv:=fun _ h=>h
  JL:=fun _ h=>.inl h
  Lj:=fun _ _=>.inl rfl
  Dm:=fun _ h=>h
  env:=⟨dX.refl _,fun _ _ h=>h.elim⟩
  maps:=fun o kd z f p b bo sz h=>by cases h }
theorem Zi {f:FuncId} {args:List AV} {W:World} {vals:Array Value} (hs:S f args [] (.bool true) []) (hL:laidMetH Tryz.prog X5 W) (hl:vals.size=args.length) (hr:∀j,j<args.length→PRep W (Old W) (nth args j) (vals.getD j Go.undef)):
  Calls Tryz.prog f vals W fun e W'=>e=.returned (.bool true)∧Below W.heap.size W W':=by
 obtain ⟨_,_,hc⟩:=hs;refine (hc W (Old W) (fun _=>none) vals (abd hL) hl (fun j hj=>.pure (hr j hj))).mono fun e W' h=>?_;obtain ⟨x,I',O',rfl,hR,hx⟩:=h;have hb:x=.bool true:=hx.iP;subst hb;refine ⟨rfl,⟨hR.env.same.os,hR.env.same.tape,hR.env.same.output,hR.size,fun k hk=>hR.frame k hk ?_⟩⟩;rintro ⟨o,p,bo,sz,h,_⟩;cases h
theorem TR {H:Type} {enc:TypeId×Value→H} {W:World} {v:Value} {d:DataW H} {ps:List MemPlace} {base:Nat} (hv:Value.okWide Tryz.prog W .any base 22 v) (h:DataW.Trod enc Tryz.prog W 0 (fun _=>true) true 22 v d ps):∃l:List Int,I64 l∧PRep W (Old W) (aD l) v:=by
 obtain ⟨a0,len,cap,rfl⟩:=okWide_slice Tryz.underlying22 hv;obtain ⟨fuel,hf⟩:=h;rcases open_ints Tryz.underlying22 Tryz.underlying3 cells3 hf with ⟨hcs,hx⟩ | ⟨a,len',cap',zs,hcs,_,hl,hm,hz,hx,hcell,hwz⟩
 ·simp [Value.cells] at hcs;obtain ⟨rfl,rfl,rfl⟩:=hcs;refine ⟨[],(fun x hx=>by cases hx),?_⟩;exact .sl 0 0 (fun _ _=>Go.undef) (Nat.le_refl _) nofun (fun h=>absurd rfl h) (fun i hi=>by cases hi) (fun i j hi=>by cases hi) (fun i j hi=>by cases hi) (fun i j hi=>by cases hi)
 ·simp [Value.cells] at hcs;obtain ⟨rfl,rfl,rfl⟩:=hcs;simp only [if_true] at hz;refine ⟨zs.take len,fun x hx=>?_,?_⟩
  ·have:=hwz x (List.mem_of_mem_take hx);simp only [Lit.wf,Bool.and_eq_true,decide_eq_true_eq] at this;exact this
  ·have hlen:(zs.take len).length=len:=by simp; omega
   unfold aD W9;rw [hlen];refine .sl a.block a.off (fun i _=>.int .i64 (zs.getD i 0)) hl nofun (fun hn=>?_) (fun i hi=>rfl) (fun i j hi hj=>?_) (fun i j hi hj=>rfl) (fun i j hi hj=>?_)
   ·have h0:=hcell 0 (by omega);have hsp:=World.cell?_spot h0;have e:a.add 0=a:=by simp [Addr.add]
    rw [e] at hsp h0;refine ⟨by cases a; simp at hsp; subst hsp; rfl,World.block_lt_of_cell? _ _ h0⟩
   ·have hj0:j=0:=by omega
    subst hj0;have h0:=hcell 0 (by omega);have hsp:=World.cell?_spot h0;have e:a.add 0=a:=by simp [Addr.add]
    rw [e] at hsp;have hi':=hcell i (by omega);have e2:a.add i=⟨a.block,a.off+(i*1+0),none⟩:=by
     obtain ⟨b,off,sp⟩:=a;simp at hsp;subst hsp;rw [Addr.add_mid];simp
    rw [e2] at hi';exact hi'
   ·have hj0:j=0:=by omega
    subst hj0;have e:nth (bB iV 0 (zs.take len) i).cells 0=iV (zs.getD i 0):=by
     show iV ((zs.take len).getD i 0)=_;rw [getD_take zs 0 hi]
    rw [e];exact .int _ _
end Go.Proofs.YtfblhejmclcdmaaGreatDoor


namespace Go.Proofs.YtfblhejmclcdmaaGreatDoor
open Go.Ab
theorem z {p:Prop} (h:p:=by
 repeat' first
  | with_reducible exact trivial
  | with_reducible exact rfl
  | with_reducible refine And.intro ?_ ?_
  | ((conv=>whnf); first
   | with_reducible refine And.intro ?_ ?_
   | with_reducible refine Wh.mk ?_ ?_ ?_
   | with_reducible exact trivial)
  | exact rfl
  | exact fun _ _=>Le.refl _
  | exact fun _=>rfl
  | exact id
  | exact fun h=>Bool.noConfusion h
  | exact Le.refl _
  | exact Iw.refl _
  | exact fun h=>absurd rfl h
  | exact fun _ h=>absurd h (Nat.not_lt_zero _)
  | exact Xc (.refl _) rfl (Nat.lt_of_sub_pos (by exact Nat.zero_lt_succ _))
  | omega
  | (simp [ou]; done)
  | (simp [ou]; omega)
  | refine KS ?_ ?_ ?_
  | refine le_appG ?_ ?_ ?_ ?_
  | exact YD (fun _ _=>Le.refl _) (Le.refl _)
  | exact Oj (fun _=>rfl)
  | exact le_rtake (by omega)
  | exact le_litG _ _ _
  | exact QW _ _
  | refine yR ?_ ?_
  | refine Le.BL ?_
  | refine Le.sl ?_ ?_ ?_ ?_):p:=h
theorem dk {p:Prop} (h:p:=by decide +kernel):p:=h
theorem oz {p:Prop} (h:p:=by first | omega | (simp [ou]; done) | (simp [ou]; omega)):p:=h
theorem sr {n es:Nat} {f:Bool} {g:Nat→AV}:n=n∧(n≠0→es=es)∧(f=true→f=true)∧∀i,i<n→Le (g i) (g i):=⟨rfl,fun _=>rfl,id,fun _ _=>.refl _⟩
theorem sf {n es:Nat} {f:Bool} {g:Nat→AV}:n=n∧(n≠0→es=es)∧(false=true→f=true)∧∀i,i<n→Le (g i) (g i):=⟨rfl,fun _=>rfl,nofun,fun _ _=>.refl _⟩
theorem r4 {A B C D:Type} {a:A} {b:B} {c:C} {d:D}:a=a∧b=b∧c=c∧d=d:=⟨rfl,rfl,rfl,rfl⟩
theorem r2 {A B:Type} {a:A} {b:B}:a=a∧b=b:=⟨rfl,rfl⟩
theorem sn {R:Type} {p:Prop} {d:Decidable p} {m:M R} {r:R} {K:Prop} (hm:need p m r) (h:p→m r→K):p∧K:=⟨hm.1,h hm.1 hm.2⟩
theorem si {R:Type} {c:Bool} {x y:M R} {r:R} {A B:Prop} (hm:(cond c x y) r) (h1:c=true→x r→A) (h2:c=false→y r→B):NP c A B:=cK hm h1 h2
theorem sb {A R:Type} {m:M A} {k:A→M R} {r:R} {G:Prop} (hm:bnd m k r) (h:∀v,m v→k v r→G):G:=bR hm h
theorem cl {A B:Type} {p K:A→B→Prop} {a:A} {b:B} (h:p a b) (k:K a b):∃a b,p a b∧K a b:=⟨a,b,h,k⟩
theorem re {A B:Type} {P:List A→List B→Prop} (h:P [] []:=by exact z):∃a b,P a b:=⟨_,_,h⟩
theorem rt {A B:Type} {P:A→B→Prop} (a:A) (b:B) (h:P a b:=by exact z):∃a b,P a b:=⟨_,_,h⟩
theorem lc {A B C:Type} {p:A→Prop} {E:A→B→C→Prop} {a:A} (b:B) (c:C) (hm:p a) (h:E a b c:=by exact z):∃a b c,p a∧E a b c:=⟨a,b,c,hm,h⟩
theorem lce {A B C:Type} {p:A→Prop} {E:A→B→C→Prop} {a:A} (b:B) (c:C) (hm:p a) (h:E a b c):∃a b c,p a∧E a b c:=⟨a,b,c,hm,h⟩
theorem le {A B C:Type} {p:A→Prop} {E:A→List B→List C→Prop} {a:A} (hm:p a) (h:E a [] []:=by exact z):∃a b c,p a∧E a b c:=⟨a,_,_,hm,h⟩
theorem RY (ct:List Nat) {fn:Func} {f:FuncId} {c:Code} {args:List AV} {obs:List bJ} {r:AV} {obs':List bJ} (hf:Tryz.prog.funcs[f]? = some fn) (hb:fn.body=some c)
  (h:iZ cfg (Ab.Spec Tryz.prog cfg) ct (Loops Tryz.prog cfg fn.ntmps none obs.length) c ⟨AL args 0,zQ.obsUps obs 0,obs.length⟩ (WW cfg fn.results.toList obs.length r obs'))
  (hnm:(fn.name == "runtime.NumGoroutine")=false:=by exact rfl)
  (hN:args.length≤fn.ntmps:=by exact Nat.le_of_ble_eq_true rfl) (hok:fJ fn.ntmps c=true:=by decide +kernel) (hle:obs.length≤obs'.length:=by exact Nat.le_of_ble_eq_true rfl):S f args obs r obs':=
 qL gV hf hb hnm hN hok hle h
theorem sp {fn:Func} {f:FuncId} {c:Code} {args:List AV} {obs:List bJ} {r:AV} {obs':List bJ} (hf:Tryz.prog.funcs[f]? = some fn) (hb:fn.body=some c)
  (h:iZ cfg (Ab.Spec Tryz.prog cfg) [] (Loops Tryz.prog cfg fn.ntmps none obs.length) c ⟨AL args 0,zQ.obsUps obs 0,obs.length⟩ (WW cfg fn.results.toList obs.length r obs'))
  (hnm:(fn.name == "runtime.NumGoroutine")=false:=by exact rfl)
  (hN:args.length≤fn.ntmps:=by exact Nat.le_of_ble_eq_true rfl) (hok:fJ fn.ntmps c=true:=by decide +kernel) (hle:obs.length≤obs'.length:=by exact Nat.le_of_ble_eq_true rfl):S f args obs r obs':=
 qL gV hf hb hnm hN hok hle h
section
variable {N:Nat} {rr:Option Nat} {m:Nat}
theorem rn {c:Code} {s:St} {K:Exit→St→Prop} {M:Nat}
  (h:iZ cfg (Ab.Spec Tryz.prog cfg) [] (Loops Tryz.prog cfg N rr m) c s (fun e s'=>match e with | .normal=>QU Tryz.prog cfg N rr m c K M s' | e=>K e s')) (hok:fJ N c=true:=by decide +kernel):QU Tryz.prog cfg N rr m c K (M+1) s:=jG gV hok h
variable {c:Code} {s:St} {K:Exit→St→Prop} {σ R:Type} {F:(σ→M R)→σ→M R} {x0:σ} {r:R}
theorem MP (ct:List Nat) (hm:bT F x0 r) (st:σ→St) (ρ0:List (Nat×Option Nat)) (os0:List Nat)
  (round:∀(self:σ→M R) (x:σ),F self x r→iZ cfg (Ab.Spec Tryz.prog cfg) ct (Loops Tryz.prog cfg N rr m) c (st x) (fun e s'=>match e with | .normal=>∃x' ρ os,self x' r∧IL m ρ os s' (st x') | e=>K e s'))
  (hE:IL m ρ0 os0 s (st x0):=by exact z) (hok:fJ N c=true:=by decide +kernel):Loops Tryz.prog cfg N rr m (.loop c) s K:=yQ gV hok hm st ρ0 os0 hE round
theorem lf (hm:bT F x0 r) (st:σ→St) (ρ0:List (Nat×Option Nat)) (os0:List Nat)
  (round:∀(self:σ→M R) (x:σ),F self x r→iZ cfg (Ab.Spec Tryz.prog cfg) [] (Loops Tryz.prog cfg N rr m) c (st x) (fun e s'=>match e with | .normal=>∃x' ρ os,self x' r∧IL m ρ os s' (st x') | e=>K e s'))
  (hE:IL m ρ0 os0 s (st x0):=by exact z) (hok:fJ N c=true:=by decide +kernel):Loops Tryz.prog cfg N rr m (.loop c) s K:=yQ gV hok hm st ρ0 os0 hE round
theorem l0 (hm:bT F x0 r) (st:σ→St)
  (round:∀(self:σ→M R) (x:σ),F self x r→iZ cfg (Ab.Spec Tryz.prog cfg) [] (Loops Tryz.prog cfg N rr m) c (st x) (fun e s'=>match e with | .normal=>∃x' ρ os,self x' r∧IL m ρ os s' (st x') | e=>K e s'))
  (hE:IL m [] [] s (st x0):=by exact z) (hok:fJ N c=true:=by decide +kernel):Loops Tryz.prog cfg N rr m (.loop c) s K:=yQ gV hok hm st [] [] hE round
theorem ck (ct:List Nat) {x y:Code} {s:St} {K:Exit→St→Prop} (k:σ→M R) (r:R) (st:σ→St)
  (h1:iZ cfg (Ab.Spec Tryz.prog cfg) ct (Loops Tryz.prog cfg N rr m) x s (fun e s'=>match e with | .normal=>∃x' ρ os,k x' r∧IL m ρ os s' (st x') | e=>K e s'))
  (h2:∀x',k x' r→iZ cfg (Ab.Spec Tryz.prog cfg) ct (Loops Tryz.prog cfg N rr m) y (st x') K) (hokx:fJ N x=true:=by decide +kernel) (hoky:fJ N y=true:=by decide +kernel):Loops Tryz.prog cfg N rr m (.seq x y) s K:=LW gV hokx hoky k r st h1 h2
end
end Go.Proofs.YtfblhejmclcdmaaGreatDoor


namespace Go.Proofs.YtfblhejmclcdmaaGreatDoor
open Go.Ab
set_option maxRecDepth 100000
set_option maxHeartbeats 20000000
theorem dK  {r:bF} (hm:fG r):S 24 [] [] (qM r) [] :=sp Tryz.func24 rfl<|by cases hm;exact rt [32,72] []
theorem Gj {c_:av} {r:Bool} (hm:xW c_ r):S 102 [CO c_] [] (.bool r) [] :=sp Tryz.func102 rfl<|by cases hm;exact re
theorem rC {s_:(List av)} {r:Int} (hm:mO s_ r):S 140 [aS s_,.fn 102 []] [] (iV r) [] :=sp Tryz.func140 rfl<|l0 hm (fun g1=>⟨[(0,aS s_),(1,.fn 102 []),(7,iV (s_.length:Int)),(8,iV g1)],[],0⟩) <|fun self1 g1 hm=>si hm (fun _ hm=>sn hm fun _ hm=>sb hm fun v3 hv3 hm=>cl (Gj hv3)<|si hm (fun _ hm=>by cases hm;exact re) fun _ hm=>sn hm fun _ hm=>le hm) fun _ hm=>by cases hm;exact re
theorem oN {s_:(List av)} {r:Bool} (hm:iL s_ r):S 101 [aS s_,.fn 102 []] [] (.bool r) [] :=sp Tryz.func101 rfl<|sb hm fun v1 hv1 hm=>cl (rC hv1)<|by cases hm;exact re
theorem eP {n_:Int} {lo_:Int} {hi_:Int} {r:Bool} (hm:gB n_ lo_ hi_ r):S 142 [iV n_,iV lo_,iV hi_] [] (.bool r) [] :=sp Tryz.func142 rfl<|by cases hm;exact re
theorem Gl {p_:Int} {a1_:Int} {r:Bool} (hm:rP p_ a1_ r):S 141 [iV p_,.ro [iV a1_]] [] (.bool r) [] :=sp Tryz.func141 rfl<|sn hm fun _ hm=>sb hm fun v1 hv1 hm=>cl (eP hv1)<|by cases hm;exact re
theorem wQ {s_:(List Int)} {f_:Int} {r:Int} (hm:sj s_ f_ r):S 174 [aD s_,.fn 141 [.ro [iV f_]]] [] (iV r) [] :=sp Tryz.func174 rfl<|l0 hm (fun g1=>⟨[(0,aD s_),(1,.fn 141 [.ro [iV f_]]),(7,iV (s_.length:Int)),(8,iV g1)],[],0⟩) <|fun self1 g1 hm=>si hm (fun _ hm=>sn hm fun _ hm=>sb hm fun v3 hv3 hm=>cl (Gl hv3)<|si hm (fun _ hm=>by cases hm;exact re) fun _ hm=>sn hm fun _ hm=>le hm) fun _ hm=>by cases hm;exact re
theorem uq {s_:(List Int)} {f_:Int} {r:Bool} (hm:jT s_ f_ r):S 135 [aD s_,.fn 141 [.ro [iV f_]]] [] (.bool r) [] :=sp Tryz.func135 rfl<|sb hm fun v1 hv1 hm=>cl (wQ hv1)<|by cases hm;exact re
theorem BS {s_:(List Int)} {v_:Int} {r:Int} (hm:slices_Index_int s_ v_ r):S 139 [aD s_,iV v_] [] (iV r) [] :=sp Tryz.func139 rfl<|l0 hm (fun g1=>⟨[(0,aD s_),(1,iV v_),(7,iV (s_.length:Int)),(8,iV g1)],[],0⟩) <|fun self1 g1 hm=>si hm (fun _ hm=>sn hm fun _ hm=>si hm (fun _ hm=>by cases hm;exact re) fun _ hm=>sn hm fun _ hm=>le hm) fun _ hm=>by cases hm;exact re
theorem nI {s_:(List Int)} {v_:Int} {r:Bool} (hm:slices_Contains_int s_ v_ r):S 91 [aD s_,iV v_] [] (.bool r) [] :=sp Tryz.func91 rfl<|sb hm fun v1 hv1 hm=>cl (BS hv1)<|by cases hm;exact re
theorem jD {l_:(List Int)} {lo_:Int} {hi_:Int} {r:Bool} (hm:jr l_ lo_ hi_ r):S 143 [aD l_,iV lo_,iV hi_] [] (.bool r) [] :=sp Tryz.func143 rfl<|l0 hm (fun g1=>⟨[(0,aD l_),(1,iV lo_),(2,iV hi_),(9,aD l_),(10,iV (l_.length:Int)),(11,iV g1)],[],0⟩) <|fun self1 g1 hm=>si hm (fun _ hm=>sn hm fun _ hm=>sb hm fun v5 hv5 hm=>cl (eP hv5)<|sn hm fun _ hm=>sb hm fun v6 hv6 hm=>cl (fun q0=>((nI (hv6 q0)).le ⟨(.sl oz (fun _=>rfl) nofun (le_rtake (f:=iV) (d:=0) (by first | omega | (simp; omega)))),.refl _,trivial⟩ trivial))<|si hm (fun _ hm=>by cases hm;exact re) fun _ hm=>sn hm fun _ hm=>le hm) fun _ hm=>by cases hm;exact re
theorem qH {s1_:(List Int)} {s2_:(List Int)} {r:Bool} (hm:slices_Equal_int s1_ s2_ r):S 144 [aD s1_,aD s2_] [] (.bool r) [] :=sp Tryz.func144 rfl<|si hm (fun _ hm=>by cases hm;exact re) fun _ hm=>l0 hm (fun g1=>⟨[(0,aD s1_),(1,aD s2_),(12,iV (s1_.length:Int)),(13,iV g1)],[],0⟩) <|fun self1 g1 hm=>si hm (fun _ hm=>sn hm fun _ hm=>sn hm fun _ hm=>si hm (fun _ hm=>by cases hm;exact re) fun _ hm=>sn hm fun _ hm=>le hm) fun _ hm=>by cases hm;exact re
theorem Ji {c_:av} {at_:Int} {r:Bool} (hm:CP c_ at_ r):S 103 [CO c_,iV at_] [] (.bool r) [] :=sp Tryz.func103 rfl<|sb hm fun v1 hv1 hm=>cl (uq hv1)<|sb hm fun v2 hv2 hm=>cl (fun q0=>(eP (hv2 q0)))<|sb hm fun v3 hv3 hm=>cl (fun q0=>(eP (hv3 q0)))<|si hm (fun _ hm=>by cases hm;exact re) fun _ hm=>si hm (fun _ hm=>sn hm fun _ hm=>sb hm fun v4 hv4 hm=>cl (fun q0=>(eP (hv4 q0)))<|by cases hm;exact re) fun _ hm=>si hm (fun _ hm=>si hm (fun _ hm=>sb hm fun v5 hv5 hm=>cl (fun q0=>(jD (hv5 q0)))<|by cases hm;exact re) fun _ hm=>si hm (fun _ hm=>sn hm fun _ hm=>sb hm fun v6 hv6 hm=>cl (fun q0=>(jD (hv6 q0)))<|by cases hm;exact re) fun _ hm=>si hm (fun _ hm=>si hm (fun _ hm=>sb hm fun v7 hv7 hm=>cl (fun q0=>((qH (hv7 q0)).le ⟨.refl _,(.sl rfl (fun _=>rfl) nofun (le_litG iV 0 [(0:Int),(1:Int)])),trivial⟩ trivial))<|by cases hm;exact re) fun c7 hm=>by
 refine ⟨.bool false,[],(fun q0=>absurd q0 (J2 c7)),?_⟩
 (conv=>whnf)
 have hm:r=(((c_.Parents.length:Int)==(1:Int))&&false):=hm
 subst hm
 refine ⟨[],[],?_⟩
 (conv=>whnf)
 exact ⟨⟨rfl,trivial,trivial⟩,rfl⟩) fun _ hm=>by cases hm;exact re) fun _ hm=>si hm (fun _ hm=>sb hm fun v8 hv8 hm=>cl (fun q0=>(jD (hv8 q0)))<|by cases hm;exact re) fun _ hm=>si hm (fun _ hm=>sn hm fun _ hm=>sb hm fun v9 hv9 hm=>cl (fun q0=>(jD (hv9 q0)))<|by cases hm;exact re) fun _ hm=>si hm (fun _ hm=>si hm (fun _ hm=>sb hm fun v10 hv10 hm=>cl (fun q0=>((qH (hv10 q0)).le ⟨.refl _,(.sl rfl (fun _=>rfl) nofun (le_litG iV 0 [(0:Int),(1:Int)])),trivial⟩ trivial))<|by cases hm;exact re) fun c11 hm=>by
 refine ⟨.bool false,[],(fun q0=>absurd q0 (J2 c11)),?_⟩
 (conv=>whnf)
 have hm:r=(((c_.Parents.length:Int)==(1:Int))&&false):=hm
 subst hm
 refine ⟨[],[],?_⟩
 (conv=>whnf)
 exact ⟨⟨rfl,trivial,trivial⟩,rfl⟩) fun _ hm=>by cases hm;exact re
theorem rD {l_:(List av)} {r:Int} (hm:sw l_ r):S 45 [aS l_] [] (iV r) [] :=RY [21] Tryz.func45 rfl<|sb hm fun v1 hv1 hm=>cl (fun q0=>(oN (hv1 q0)))<|si hm (fun _ hm=>by cases hm;exact re) fun _ hm=>MP [21] hm (fun g1=>⟨[(0,aS l_),(18,aS l_),(19,iV (l_.length:Int)),(20,iV g1)],[],0⟩) [] [] <|fun self1 g1 hm=>si hm (fun _ hm=>sn hm fun _ hm=>sb hm fun v4 hv4 hm=>cl (Ji hv4)<|si hm (fun _ hm=>by cases hm;exact re) fun _ hm=>sn hm fun _ hm=>le hm) fun _ hm=>sn hm fun _ hm=>MP [21] hm (fun g2=>⟨[(5,iV g2.1),(6,.cu 0 0 g2.2.2.length false),(33,aS l_),(34,iV (l_.length:Int)),(35,iV g2.2.1)],[(0,some (.row 1 g2.2.2.length (bB iV 0 g2.2.2)))],1⟩) [(0,some 32)] [] <|fun self2 g2 hm=>si hm (fun _ hm=>sn hm fun _ hm=>MP [21] hm (fun g7=>⟨[(5,iV g2.1),(6,.cu 0 0 g7.2.length false),(7,iV g2.2.1),(8,.ptr 1 0 0),(33,aS l_),(34,iV (l_.length:Int)),(35,iV g2.2.1),(41,aD ((l_.getD g2.2.1.toNat ay).Parents)),(42,iV ((((l_.getD g2.2.1.toNat ay).Parents).length:Nat):Int)),(43,iV g7.1)],[(0,some (.row 1 g7.2.length (bB iV 0 g7.2))),(1,some (.box [iV ((l_.getD g2.2.1.toNat ay).Kind),aD ((l_.getD g2.2.1.toNat ay).Parents),aD ((l_.getD g2.2.1.toNat ay).Choices),iV ((l_.getD g2.2.1.toNat ay).Low),iV ((l_.getD g2.2.1.toNat ay).High)]))],2⟩) [(1,some 33)] [] <|fun self7 g7 hm=>si hm (fun _ hm=>sn hm fun _ hm=>sn hm fun _ hm=>sn hm fun _ hm=>sn hm fun _ hm=>sn hm fun _ hm=>le hm) fun _ hm=>ck [21] (nK l_ g2 self2) r (fun g8=>⟨[(5,iV g2.1),(6,.cu 0 0 g8.length false),(7,iV g2.2.1),(8,.ptr 1 0 0),(33,aS l_),(34,iV (l_.length:Int)),(35,iV g2.2.1)],[(0,some (.row 1 g8.length (bB iV 0 g8))),(1,some (.box [iV ((l_.getD g2.2.1.toNat ay).Kind),aD ((l_.getD g2.2.1.toNat ay).Parents),aD ((l_.getD g2.2.1.toNat ay).Choices),iV ((l_.getD g2.2.1.toNat ay).Low),iV ((l_.getD g2.2.1.toNat ay).High)]))],2⟩) (si hm (fun _ hm=>sn hm fun _ hm=>sn hm fun _ hm=>sn hm fun _ hm=>le hm) fun _ hm=>le hm) fun g8 hm=>sn hm fun _ hm=>sn hm fun _ hm=>si hm (fun _ hm=>by cases hm;exact re) fun _ hm=>sn hm fun _ hm=>le hm) fun _ hm=>by cases hm;exact re
theorem EO {s_:aj} {r:Bool} (hm:lH s_ r):S 105 [wW s_] [] (.bool r) [] :=sp Tryz.func105 rfl<|by cases hm;exact re
theorem rE {s_:(List aj)} {r:Int} (hm:mP s_ r):S 145 [aL s_,.fn 105 []] [] (iV r) [] :=sp Tryz.func145 rfl<|l0 hm (fun g1=>⟨[(0,aL s_),(1,.fn 105 []),(7,iV (s_.length:Int)),(8,iV g1)],[],0⟩) <|fun self1 g1 hm=>si hm (fun _ hm=>sn hm fun _ hm=>sb hm fun v3 hv3 hm=>cl (EO hv3)<|si hm (fun _ hm=>by cases hm;exact re) fun _ hm=>sn hm fun _ hm=>le hm) fun _ hm=>by cases hm;exact re
theorem oO {s_:(List aj)} {r:Bool} (hm:iM s_ r):S 104 [aL s_,.fn 105 []] [] (.bool r) [] :=sp Tryz.func104 rfl<|sb hm fun v1 hv1 hm=>cl (rE hv1)<|by cases hm;exact re
theorem dS {n_:Int} {lo_:Int} {hi_:Int} {r:Bool} (hm:eG n_ lo_ hi_ r):S 146 [iV n_,iV lo_,iV hi_] [] (.bool r) [] :=sp Tryz.func146 rfl<|by cases hm;exact re
theorem HV {s_:aj} {at_:Int} {r:Bool} (hm:uO s_ at_ r):S 106 [wW s_,iV at_] [] (.bool r) [] :=sp Tryz.func106 rfl<|sn hm fun _ hm=>sb hm fun v1 hv1 hm=>cl (dS hv1)<|sb hm fun v2 hv2 hm=>cl (fun q0=>(dS (hv2 q0)))<|sb hm fun v3 hv3 hm=>cl (fun q0=>(dS (hv3 q0)))<|si hm (fun _ hm=>by cases hm;exact re) fun _ hm=>l0 hm (fun g1=>⟨[(2,.ptr 0 0 0),(42,aD s_.aQ),(43,iV (s_.aQ.length:Int)),(44,iV g1)],[(0,some (.box [iV s_.Parent,aD s_.aQ,iV s_.dM,iV s_.dU,.bool s_.Always]))],1⟩) <|fun self1 g1 hm=>si hm (fun _ hm=>sn hm fun _ hm=>sb hm fun v6 hv6 hm=>cl (dS hv6)<|sn hm fun _ hm=>sn hm fun _ hm=>si hm (fun _ hm=>by cases hm;exact re) fun _ hm=>sn hm fun _ hm=>le hm) fun _ hm=>by cases hm;exact re
theorem p8 {l_:(List aj)} {r:Int} (hm:l9 l_ r):S 46 [aL l_] [] (iV r) [] :=sp Tryz.func46 rfl<|sb hm fun v1 hv1 hm=>cl (fun q0=>(oO (hv1 q0)))<|si hm (fun _ hm=>by cases hm;exact re) fun _ hm=>l0 hm (fun g1=>⟨[(12,aL l_),(13,iV (l_.length:Int)),(14,iV g1)],[],0⟩) <|fun self1 g1 hm=>si hm (fun _ hm=>sn hm fun _ hm=>sb hm fun v4 hv4 hm=>cl (HV hv4)<|si hm (fun _ hm=>by cases hm;exact re) fun _ hm=>sn hm fun _ hm=>le hm) fun _ hm=>by cases hm;exact re
theorem wF {s_:ByteArray} {r:Bool} (hm:vH s_ r):S 107 [.str s_] [] (.bool r) [] :=sp Tryz.func107 rfl<|sn hm fun _ hm=>sn hm fun _ hm=>si hm (fun _ hm=>by cases hm;exact re) fun _ hm=>l0 hm (fun g1=>⟨[(0,.str s_),(3,iV g1)],[],0⟩) <|fun self1 g1 hm=>si hm (fun _ hm=>sn hm fun _ hm=>si hm (fun _ hm=>by cases hm;exact re) fun _ hm=>sn hm fun _ hm=>le hm) fun _ hm=>by cases hm;exact re
theorem yx {s_:(List ByteArray)} {v_:ByteArray} {r:Int} (hm:slices_Index_string s_ v_ r):S 176 [fM s_,.str v_] [] (iV r) [] :=sp Tryz.func176 rfl<|l0 hm (fun g1=>⟨[(0,fM s_),(1,.str v_),(7,iV (s_.length:Int)),(8,iV g1)],[],0⟩) <|fun self1 g1 hm=>si hm (fun _ hm=>sn hm fun _ hm=>si hm (fun _ hm=>by cases hm;exact re) fun _ hm=>sn hm fun _ hm=>le hm) fun _ hm=>by cases hm;exact re
theorem vC {s_:(List ByteArray)} {v_:ByteArray} {r:Bool} (hm:slices_Contains_string s_ v_ r):S 147 [fM s_,.str v_] [] (.bool r) [] :=sp Tryz.func147 rfl<|sb hm fun v1 hv1 hm=>cl (yx hv1)<|by cases hm;exact re
theorem Kz {pins_:Int} {g_:aV} {r:Int} (hm:zY pins_ g_ r):S 108 [iV pins_,jS g_] [] (iV r) [] :=sp Tryz.func108 rfl<|si hm (fun _ hm=>by cases hm;exact re) fun _ hm=>si hm (fun _ hm=>by cases hm;exact re) fun _ hm=>l0 hm (fun g1=>⟨[(0,iV pins_),(3,.ptr 0 0 0),(27,aD g_.bI),(28,iV (g_.bI.length:Int)),(29,iV g1)],[(0,some (.box [.str g_.Name,aD g_.bI,fM g_.Functions]))],1⟩) <|fun self1 g1 hm=>si hm (fun _ hm=>sn hm fun _ hm=>si hm (fun _ hm=>by cases hm;exact re) fun _ hm=>sn hm fun _ hm=>le hm) fun _ hm=>l0 hm (fun g2=>⟨[(3,.ptr 0 0 0),(7,iV g2)],[(0,some (.box [.str g_.Name,aD g_.bI,fM g_.Functions]))],1⟩) <|fun self2 g2 hm=>si hm (fun _ hm=>sn hm fun _ hm=>sn hm fun _ hm=>sn hm fun _ hm=>si hm (fun _ hm=>by cases hm;exact re) fun _ hm=>sn hm fun _ hm=>le hm) fun _ hm=>l0 hm (fun g3=>⟨[(3,.ptr 0 0 0),(61,fM g_.Functions),(62,iV (g_.Functions.length:Int)),(63,iV g3)],[(0,some (.box [.str g_.Name,aD g_.bI,fM g_.Functions]))],1⟩) <|fun self3 g3 hm=>si hm (fun _ hm=>sn hm fun _ hm=>sb hm fun v3 hv3 hm=>cl (wF hv3)<|si hm (fun _ hm=>by cases hm;exact re) fun _ hm=>sn hm fun _ hm=>le hm) fun _ hm=>l0 hm (fun g4=>⟨[(3,.ptr 0 0 0),(72,fM g_.Functions),(73,iV (g_.Functions.length:Int)),(74,iV g4)],[(0,some (.box [.str g_.Name,aD g_.bI,fM g_.Functions]))],1⟩) <|fun self4 g4 hm=>si hm (fun _ hm=>sn hm fun _ hm=>sn hm fun _ hm=>sb hm fun v6 hv6 hm=>cl ((vC hv6).le ⟨(.sl oz (fun _=>rfl) nofun (le_rtake (f:=AV.str) (d:=ByteArray.empty) (by first | omega | (simp; omega)))),.refl _,trivial⟩ trivial)<|si hm (fun _ hm=>by cases hm;exact re) fun _ hm=>sn hm fun _ hm=>le hm) fun _ hm=>by cases hm;exact re
theorem BH {p_:aR} {r:Int} (hm:vS p_ r):S 47 [kU p_] [] (iV r) [] :=sp Tryz.func47 rfl<|si hm (fun _ hm=>by cases hm;exact re) fun _ hm=>si hm (fun _ hm=>by cases hm;exact re) fun _ hm=>lf hm (fun g1=>⟨[(1,.ptr 0 0 0),(3,.mref 1),(21,aX p_.Groups),(22,iV (p_.Groups.length:Int)),(23,iV g1.1)],[(0,some (.box [iV p_.bI,aX p_.Groups])),(1,some (.map .str [.bool] g1.2))],2⟩) [(1,some 112)] [] <|fun self1 g1 hm=>si hm (fun _ hm=>sn hm fun _ hm=>sb hm fun v5 hv5 hm=>cl (wF hv5)<|si hm (fun _ hm=>by cases hm;exact re) fun _ hm=>si hm (fun _ hm=>by cases hm;exact re) fun _ hm=>sb hm fun v6 hv6 hm=>cl (Kz hv6)<|si hm (fun _ hm=>by cases hm;exact re) fun _ hm=>sn hm fun _ hm=>le hm) fun _ hm=>by cases hm;exact re
theorem zx {l_:(List bV)} {r:Int} (hm:sD l_ r):S 48 [bQ l_] [] (iV r) [] :=sp Tryz.func48 rfl<|si hm (fun _ hm=>by cases hm;exact re) fun _ hm=>l0 hm (fun g1=>⟨[(11,bQ l_),(12,iV (l_.length:Int)),(13,iV g1)],[],0⟩) <|fun self1 g1 hm=>si hm (fun _ hm=>sn hm fun _ hm=>lf hm (fun g6=>⟨[(3,iV g1),(4,.ptr 0 0 0),(11,bQ l_),(12,iV (l_.length:Int)),(13,iV g1),(19,aD ((l_.getD g1.toNat dReset).After)),(20,iV ((((l_.getD g1.toNat dReset).After).length:Nat):Int)),(21,iV g6)],[(0,some (.box [aD ((l_.getD g1.toNat dReset).After)]))],1⟩) [(0,some 32)] [] <|fun self6 g6 hm=>si hm (fun _ hm=>sn hm fun _ hm=>si hm (fun _ hm=>by cases hm;exact re) fun _ hm=>sn hm fun _ hm=>le hm) fun _ hm=>l0 hm (fun g7=>⟨[(4,.ptr 0 0 0),(7,iV g7),(11,bQ l_),(12,iV (l_.length:Int)),(13,iV g1)],[(0,some (.box [aD ((l_.getD g1.toNat dReset).After)]))],1⟩) <|fun self7 g7 hm=>si hm (fun _ hm=>sn hm fun _ hm=>sn hm fun _ hm=>sn hm fun _ hm=>si hm (fun _ hm=>by cases hm;exact re) fun _ hm=>sn hm fun _ hm=>le hm) fun _ hm=>sn hm fun _ hm=>le hm) fun _ hm=>by cases hm;exact re
theorem xM {l_:(List bH)} {r:Int} (hm:o7 l_ r):S 49 [bL l_] [] (iV r) [] :=sp Tryz.func49 rfl<|si hm (fun _ hm=>by cases hm;exact re) fun _ hm=>l0 hm (fun g1=>⟨[(8,bL l_),(9,iV (l_.length:Int)),(10,iV g1)],[],0⟩) <|fun self1 g1 hm=>si hm (fun _ hm=>sn hm fun _ hm=>si hm (fun _ hm=>by cases hm;exact re) fun _ hm=>sn hm fun _ hm=>le hm) fun _ hm=>by cases hm;exact re
theorem zy {b_:bF} {r:Int} (hm:sF b_ r):S 16 [qM b_] [] (iV r) [] :=sp Tryz.func16 rfl<|sb hm fun v1 hv1 hm=>cl (rD hv1)<|si hm (fun _ hm=>by cases hm;exact re) fun _ hm=>sb hm fun v2 hv2 hm=>cl (p8 hv2)<|si hm (fun _ hm=>by cases hm;exact re) fun _ hm=>sb hm fun v3 hv3 hm=>cl (BH hv3)<|si hm (fun _ hm=>by cases hm;exact re) fun _ hm=>sb hm fun v4 hv4 hm=>cl (zx hv4)<|si hm (fun _ hm=>by cases hm;exact re) fun _ hm=>sb hm fun v5 hv5 hm=>cl (xM hv5)<|by cases hm;exact re
theorem gq {x_:Int} {low_:Int} {high_:Int} {r:Bool} (hm:jU x_ low_ high_ r):S 90 [iV x_,iV low_,iV high_] [] (.bool r) [] :=sp Tryz.func90 rfl<|by cases hm;exact re
theorem KA {b_:bF} {n_:aO} {devices_:Int} {r:Int} (hm:zZ b_ n_ devices_ r):S 51 [qM b_,yS n_,iV devices_] [] (iV r) [] :=sp Tryz.func51 rfl<|si hm (fun _ hm=>by cases hm;exact re) fun _ hm=>lf hm (fun g1=>⟨[(2,iV devices_),(3,.ptr 0 0 0),(4,.ptr 1 0 0),(35,eX n_.Limits),(36,iV (n_.Limits.length:Int)),(37,iV g1)],[(0,some (.box [aS b_.bO,aL b_.bC,iV b_.bD.bI,aX b_.bD.Groups,bQ b_.Resets,bL b_.bS])),(1,some (.box [eX n_.Limits,dZ n_.Draws,fM n_.Functions,aD n_.Resets,iV n_.fK,aD n_.cO]))],2⟩) [(1,some 8)] [] <|fun self1 g1 hm=>si hm (fun _ hm=>sn hm fun _ hm=>sn hm fun _ hm=>sb hm fun v3 hv3 hm=>cl (gq hv3)<|si hm (fun _ hm=>by cases hm;exact re) fun _ hm=>sn hm fun _ hm=>le hm) fun _ hm=>l0 hm (fun g2=>⟨[(2,iV devices_),(3,.ptr 0 0 0),(4,.ptr 1 0 0),(68,dZ n_.Draws),(69,iV (n_.Draws.length:Int)),(70,iV g2)],[(0,some (.box [aS b_.bO,aL b_.bC,iV b_.bD.bI,aX b_.bD.Groups,bQ b_.Resets,bL b_.bS])),(1,some (.box [eX n_.Limits,dZ n_.Draws,fM n_.Functions,aD n_.Resets,iV n_.fK,aD n_.cO]))],2⟩) <|fun self2 g2 hm=>si hm (fun _ hm=>sn hm fun _ hm=>sn hm fun _ hm=>sb hm fun v8 hv8 hm=>cl (gq hv8)<|sb hm fun v9 hv9 hm=>cl (fun q0=>(gq (hv9 q0)))<|si hm (fun _ hm=>by cases hm;exact re) fun _ hm=>sn hm fun _ hm=>le hm) fun _ hm=>l0 hm (fun g3=>⟨[(2,iV devices_),(3,.ptr 0 0 0),(4,.ptr 1 0 0),(107,fM n_.Functions),(108,iV (n_.Functions.length:Int)),(109,iV g3)],[(0,some (.box [aS b_.bO,aL b_.bC,iV b_.bD.bI,aX b_.bD.Groups,bQ b_.Resets,bL b_.bS])),(1,some (.box [eX n_.Limits,dZ n_.Draws,fM n_.Functions,aD n_.Resets,iV n_.fK,aD n_.cO]))],2⟩) <|fun self3 g3 hm=>si hm (fun _ hm=>sn hm fun _ hm=>sb hm fun v12 hv12 hm=>cl (wF hv12)<|si hm (fun _ hm=>by cases hm;exact re) fun _ hm=>sn hm fun _ hm=>le hm) fun _ hm=>l0 hm (fun g4=>⟨[(2,iV devices_),(3,.ptr 0 0 0),(4,.ptr 1 0 0),(118,aD n_.Resets),(119,iV (n_.Resets.length:Int)),(120,iV g4)],[(0,some (.box [aS b_.bO,aL b_.bC,iV b_.bD.bI,aX b_.bD.Groups,bQ b_.Resets,bL b_.bS])),(1,some (.box [eX n_.Limits,dZ n_.Draws,fM n_.Functions,aD n_.Resets,iV n_.fK,aD n_.cO]))],2⟩) <|fun self4 g4 hm=>si hm (fun _ hm=>sn hm fun _ hm=>sn hm fun _ hm=>sb hm fun v15 hv15 hm=>cl (gq hv15)<|si hm (fun _ hm=>by cases hm;exact re) fun _ hm=>sn hm fun _ hm=>le hm) fun _ hm=>sn hm fun _ hm=>sb hm fun v16 hv16 hm=>cl (gq hv16)<|si hm (fun _ hm=>by cases hm;exact re) fun _ hm=>lf hm (fun g5=>⟨[(2,iV devices_),(4,.ptr 0 0 0),(141,aD n_.cO),(142,iV (n_.cO.length:Int)),(143,iV g5)],[(0,some (.box [eX n_.Limits,dZ n_.Draws,fM n_.Functions,aD n_.Resets,iV n_.fK,aD n_.cO]))],1⟩) [(0,some 1)] [] <|fun self5 g5 hm=>si hm (fun _ hm=>sn hm fun _ hm=>sn hm fun _ hm=>sb hm fun v19 hv19 hm=>cl (gq hv19)<|si hm (fun _ hm=>by cases hm;exact re) fun _ hm=>sn hm fun _ hm=>le hm) fun _ hm=>l0 hm (fun g6=>⟨[(4,.ptr 0 0 0),(17,iV g6)],[(0,some (.box [eX n_.Limits,dZ n_.Draws,fM n_.Functions,aD n_.Resets,iV n_.fK,aD n_.cO]))],1⟩) <|fun self6 g6 hm=>si hm (fun _ hm=>sn hm fun _ hm=>sn hm fun _ hm=>sn hm fun _ hm=>si hm (fun _ hm=>by cases hm;exact re) fun _ hm=>sn hm fun _ hm=>le hm) fun _ hm=>by cases hm;exact re
end Go.Proofs.YtfblhejmclcdmaaGreatDoor


namespace Go.Proofs.YtfblhejmclcdmaaGreatDoor
open Go.Ab
set_option maxRecDepth 100000
set_option maxHeartbeats 20000000
theorem uw {b_:bF} {l_:(List aO)} {r:Int} (hm:qO b_ l_ r):S 18 [qM b_,eF l_] [] (iV r) [] :=sp Tryz.func18 rfl<|sb hm fun v1 hv1 hm=>cl (zy hv1)<|si hm (fun _ hm=>by cases hm;exact re) fun _ hm=>si hm (fun _ hm=>by cases hm;exact re) fun _ hm=>l0 hm (fun g1=>⟨[(1,eF l_),(2,.ptr 0 0 0),(17,eF l_),(18,iV (l_.length:Int)),(19,iV g1)],[(0,some (.box [aS b_.bO,aL b_.bC,iV b_.bD.bI,aX b_.bD.Groups,bQ b_.Resets,bL b_.bS]))],1⟩) <|fun self1 g1 hm=>si hm (fun _ hm=>sn hm fun _ hm=>sb hm fun v4 hv4 hm=>cl (KA hv4)<|si hm (fun _ hm=>by cases hm;exact re) fun _ hm=>sn hm fun _ hm=>le hm) fun _ hm=>by cases hm;exact re
theorem sV {l_:(List aO)} {members_:(List Int)} {r:Bool} (hm:kI l_ members_ r):S 38 [eF l_,aD members_] [] (.bool r) [] :=sp Tryz.func38 rfl<|l0 hm (fun g1=>⟨[(0,eF l_),(1,aD members_),(7,aD members_),(8,iV (members_.length:Int)),(9,iV g1)],[],0⟩) <|fun self1 g1 hm=>si hm (fun _ hm=>sn hm fun _ hm=>sn hm fun _ hm=>sb hm fun v5 hv5 hm=>cl (gq hv5)<|sn hm fun _ hm=>sb hm fun v6 hv6 hm=>cl (fun q0=>((nI (hv6 q0)).le ⟨(.sl oz (fun _=>rfl) nofun (le_rtake (f:=iV) (d:=0) (by first | omega | (simp; omega)))),.refl _,trivial⟩ trivial))<|si hm (fun _ hm=>by cases hm;exact re) fun _ hm=>sn hm fun _ hm=>le hm) fun _ hm=>by cases hm;exact re
theorem kS {s_:(List Int)} {r:(List Int)} (hm:slices_Clone_int s_ r):S 92 [aD s_] [] (.cu 0 0 r.length false) [.row 1 r.length (bB iV 0 r)] :=by
 obtain ⟨h1,hm⟩:=hm
 have hm:r=s_:=hm
 subst hm
 refine qL (ct:=[1]) gV Tryz.func92 rfl rfl (Nat.le_of_ble_eq_true rfl) dk (Nat.le_of_ble_eq_true rfl) ?_
 (conv=>whnf)
 refine LX (ct:=[]) gV (gV.slice (t:=22) (e:=3) rfl rfl rfl).1 dk dk dk dk dk [(2,.sl 0 0 true dI),(0,aD r)] [] 8 rfl ?_ (fun hn=>?_) ?_
 ·exact rfl
 ·(conv=>whnf)
  have hn:r.length=0:=hn
  refine ⟨[],[(0,none)],?_⟩
  (conv=>whnf)
  exact ⟨⟨rfl,trivial,⟨hn,trivial⟩⟩,⟨rfl,rfl,rfl,rfl,rfl,hn⟩⟩
 ·(conv=>whnf)
  refine ⟨by rw [Nat.zero_add]; exact h1,?_⟩
  (conv=>whnf)
  refine ⟨[],[(0,some 24)],?_⟩
  (conv=>whnf)
  exact ⟨⟨rfl,trivial,⟨⟨rfl,Nat.zero_add _,le_appG (l:=[]) rfl (fun _ h=>absurd h (Nat.not_lt_zero _)) rfl (fun _ _=>.refl _)⟩,trivial⟩⟩,⟨rfl,rfl,rfl,Nat.zero_add _,nofun⟩⟩
theorem kF {s_:(List Bool)} {r:(List Bool)} (hm:iJ s_ r):S 95 [bf s_] [] (.cu 0 0 r.length false) [.row 1 r.length (bB AV.bool false r)] :=by
 obtain ⟨h1,hm⟩:=hm
 have hm:r=s_:=hm
 subst hm
 refine qL (ct:=[1]) gV Tryz.func95 rfl rfl (Nat.le_of_ble_eq_true rfl) dk (Nat.le_of_ble_eq_true rfl) ?_
 (conv=>whnf)
 refine LX (ct:=[]) gV (gV.slice (t:=36) (e:=4) rfl rfl rfl).1 dk dk dk dk dk [(2,.sl 0 0 true dI),(0,bf r)] [] 8 rfl ?_ (fun hn=>?_) ?_
 ·exact rfl
 ·(conv=>whnf)
  have hn:r.length=0:=hn
  refine ⟨[],[(0,none)],?_⟩
  (conv=>whnf)
  exact ⟨⟨rfl,trivial,⟨hn,trivial⟩⟩,⟨rfl,rfl,rfl,rfl,rfl,hn⟩⟩
 ·(conv=>whnf)
  refine ⟨by rw [Nat.zero_add]; exact h1,?_⟩
  (conv=>whnf)
  refine ⟨[],[(0,some 24)],?_⟩
  (conv=>whnf)
  exact ⟨⟨rfl,trivial,⟨⟨rfl,Nat.zero_add _,le_appG (l:=[]) rfl (fun _ h=>absurd h (Nat.not_lt_zero _)) rfl (fun _ _=>.refl _)⟩,trivial⟩⟩,⟨rfl,rfl,rfl,Nat.zero_add _,nofun⟩⟩
theorem D7 {r_:bE} {r:((List Bool)×(List Int))} (hm:yU r_ r):S 93 [IU r_] [] (.agg [.cu 0 0 r.1.length false,.cu 1 0 r.2.length false]) [.row 1 r.1.length (bB AV.bool false r.1),.row 1 r.2.length (bB iV 0 r.2)] :=sp Tryz.func93 rfl<|sb hm fun v1 hv1 hm=>cl (kF hv1)<|sb hm fun v2 hv2 hm=>cl (kS hv2)<|by cases hm;exact rt [] [(0,some 32),(1,some 56)]
theorem wG {s_:(List aZ)} {r:(List aZ)} (hm:qo s_ r):S 94 [dG s_] [] (.cu 0 0 r.length false) [.row 3 r.length (bB iR bY r)] :=by
 obtain ⟨h1,hm⟩:=hm
 have hm:r=s_:=hm
 subst hm
 refine qL (ct:=[1]) gV Tryz.func94 rfl rfl (Nat.le_of_ble_eq_true rfl) dk (Nat.le_of_ble_eq_true rfl) ?_
 (conv=>whnf)
 refine LX (ct:=[]) gV (gV.slice (t:=39) (e:=74) rfl rfl rfl).1 dk dk dk dk dk [(2,.sl 0 0 true dI),(0,dG r)] [] 8 rfl ?_ (fun hn=>?_) ?_
 ·exact rfl
 ·(conv=>whnf)
  have hn:r.length=0:=hn
  refine ⟨[],[(0,none)],?_⟩
  (conv=>whnf)
  exact ⟨⟨rfl,trivial,⟨hn,trivial⟩⟩,⟨rfl,rfl,rfl,rfl,rfl,hn⟩⟩
 ·(conv=>whnf)
  refine ⟨by rw [Nat.zero_add]; exact h1,?_⟩
  (conv=>whnf)
  refine ⟨[],[(0,some 24)],?_⟩
  (conv=>whnf)
  exact ⟨⟨rfl,trivial,⟨⟨rfl,Nat.zero_add _,le_appG (l:=[]) rfl (fun _ h=>absurd h (Nat.not_lt_zero _)) rfl (fun _ _=>.refl _)⟩,trivial⟩⟩,⟨rfl,rfl,rfl,Nat.zero_add _,nofun⟩⟩
theorem MQ {g_:bX} {r:((List Int)×(List Bool)×(List Int)×(List aZ)×(List Bool)×(List Bool))} (hm:Om g_ r):S 39 [IV g_] [] (.agg [.cu 0 0 r.1.length false,.cu 1 0 r.2.1.length false,.cu 2 0 r.2.2.1.length false,.cu 3 0 r.2.2.2.1.length false,.cu 4 0 r.2.2.2.2.1.length false,.cu 5 0 r.2.2.2.2.2.length false]) [.row 1 r.1.length (bB iV 0 r.1),.row 1 r.2.1.length (bB AV.bool false r.2.1),.row 1 r.2.2.1.length (bB iV 0 r.2.2.1),.row 3 r.2.2.2.1.length (bB iR bY r.2.2.2.1),.row 1 r.2.2.2.2.1.length (bB AV.bool false r.2.2.2.2.1),.row 1 r.2.2.2.2.2.length (bB AV.bool false r.2.2.2.2.2)] :=sp Tryz.func39 rfl<|sb hm fun v1 hv1 hm=>cl (kS hv1)<|sb hm fun v2 hv2 hm=>cl (D7 hv2)<|sb hm fun v3 hv3 hm=>cl (wG hv3)<|sb hm fun v4 hv4 hm=>cl (kF hv4)<|sb hm fun v5 hv5 hm=>cl (kF hv5)<|by cases hm;exact rt [] [(0,some 32),(1,some 56),(2,some 57),(3,some 80),(4,some 104),(5,some 128)]
theorem Ay {s_:dP} {r:Bool} (hm:kV s_ r):S 82 [zX s_] [] (.bool r) [] :=sp Tryz.func82 rfl<|sb hm fun v1 hv1 hm=>cl (sV hv1)<|si hm (fun _ hm=>by cases hm;exact re) fun _ hm=>lf hm (fun g1=>⟨[(1,.ptr 0 0 0),(4,.ptr 1 0 0),(67,aS s_.aN.bO),(68,iV (s_.aN.bO.length:Int)),(69,iV g1)],[(0,some (.box [aS s_.aN.bO,aL s_.aN.bC,iV s_.aN.bD.bI,aX s_.aN.bD.Groups,bQ s_.aN.Resets,bL s_.aN.bS,eF s_.bG,aD s_.aG,aD s_.aJ.Setting,bf s_.aJ.fC.On,aD s_.aJ.fC.Level,dG s_.aJ.Uses,bf s_.aJ.Released,bf s_.aJ.eU,.bool s_.jd])),(1,some (.box [aD s_.aJ.Setting,bf s_.aJ.fC.On,aD s_.aJ.fC.Level,dG s_.aJ.Uses,bf s_.aJ.Released,bf s_.aJ.eU]))],2⟩) [(1,some 56)] [] <|fun self1 g1 hm=>si hm (fun _ hm=>sn hm fun _ hm=>sn hm fun _ hm=>sn hm fun _ hm=>sb hm fun v4 hv4 hm=>cl (gq hv4)<|si hm (fun _ hm=>by cases hm;exact re) fun _ hm=>sn hm fun _ hm=>le hm) fun _ hm=>l0 hm (fun g2=>⟨[(1,.ptr 0 0 0),(87,dG s_.aJ.Uses),(88,iV (s_.aJ.Uses.length:Int)),(89,iV g2)],[(0,some (.box [aS s_.aN.bO,aL s_.aN.bC,iV s_.aN.bD.bI,aX s_.aN.bD.Groups,bQ s_.aN.Resets,bL s_.aN.bS,eF s_.bG,aD s_.aG,aD s_.aJ.Setting,bf s_.aJ.fC.On,aD s_.aJ.fC.Level,dG s_.aJ.Uses,bf s_.aJ.Released,bf s_.aJ.eU,.bool s_.jd]))],1⟩) <|fun self2 g2 hm=>si hm (fun _ hm=>sn hm fun _ hm=>sn hm fun _ hm=>sb hm fun v7 hv7 hm=>cl (gq hv7)<|si hm (fun _ hm=>by cases hm;exact re) fun _ hm=>sn hm fun _ hm=>le hm) fun _ hm=>by cases hm;exact re
theorem EP {x_:bn} {a1_:(List av)} {r:Bool} (hm:lI x_ a1_ r):S 181 [tC x_,.ro [aS a1_]] [] (.bool r) [] :=sp Tryz.func181 rfl<|sn hm fun _ hm=>sb hm fun v1 hv1 hm=>cl (eP hv1)<|sb hm fun v2 hv2 hm=>cl (fun q0=>(eP (hv2 q0)))<|sb hm fun v3 hv3 hm=>cl (fun q0=>(eP (hv3 q0)))<|by cases hm;exact re
theorem rF {s_:(List bn)} {f_:(List av)} {r:Int} (hm:mQ s_ f_ r):S 186 [eX s_,.fn 181 [.ro [aS f_]]] [] (iV r) [] :=sp Tryz.func186 rfl<|l0 hm (fun g1=>⟨[(0,eX s_),(1,.fn 181 [.ro [aS f_]]),(7,iV (s_.length:Int)),(8,iV g1)],[],0⟩) <|fun self1 g1 hm=>si hm (fun _ hm=>sn hm fun _ hm=>sb hm fun v3 hv3 hm=>cl (EP hv3)<|si hm (fun _ hm=>by cases hm;exact re) fun _ hm=>sn hm fun _ hm=>le hm) fun _ hm=>by cases hm;exact re
theorem oP {s_:(List bn)} {f_:(List av)} {r:Bool} (hm:iN s_ f_ r):S 164 [eX s_,.fn 181 [.ro [aS f_]]] [] (.bool r) [] :=sp Tryz.func164 rfl<|sb hm fun v1 hv1 hm=>cl (rF hv1)<|by cases hm;exact re
theorem HY {l_:(List av)} {m_:(List bn)} {r:Bool} (hm:uP l_ m_ r):S 160 [aS l_,eX m_] [] (.bool r) [] :=sp Tryz.func160 rfl<|sb hm fun v1 hv1 hm=>cl (rD hv1)<|sb hm fun v2 hv2 hm=>cl (fun q0=>(oP (hv2 q0)))<|by cases hm;exact re
theorem wH {l_:(List av)} {s_:(List Int)} {r:Bool} (hm:nk l_ s_ r):S 161 [aS l_,aD s_] [] (.bool r) [] :=sp Tryz.func161 rfl<|si hm (fun _ hm=>by cases hm;exact re) fun _ hm=>l0 hm (fun g1=>⟨[(0,aS l_),(12,aD s_),(13,iV (s_.length:Int)),(14,iV g1)],[],0⟩) <|fun self1 g1 hm=>si hm (fun _ hm=>sn hm fun _ hm=>sn hm fun _ hm=>sn hm fun _ hm=>sb hm fun v3 hv3 hm=>cl (eP hv3)<|si hm (fun _ hm=>by cases hm;exact re) fun _ hm=>sn hm fun _ hm=>le hm) fun _ hm=>by cases hm;exact re
theorem HZ {l_:(List av)} {s_:(List Int)} {clock_:Int} {r:Int} (hm:uQ l_ s_ clock_ r):S 182 [aS l_,aD s_,iV clock_] [] (iV r) [] :=sp Tryz.func182 rfl<|sn hm fun _ hm=>si hm (fun _ hm=>by cases hm;exact re) fun _ hm=>si hm (fun _ hm=>sn hm fun _ hm=>sn hm fun _ hm=>sn hm fun _ hm=>by cases hm;exact re) fun _ hm=>sn hm fun _ hm=>by cases hm;exact re
theorem mJ {a_:Int} {b_:Int} {r:Int} (hm:lJ a_ b_ r):S 192 [iV a_,iV b_] [] (iV r) [] :=sp Tryz.func192 rfl<|l0 hm (fun g1=>⟨[(0,iV g1.1),(1,iV g1.2)],[],0⟩) <|fun self1 g1 hm=>si hm (fun _ hm=>sn hm fun _ hm=>le hm) fun _ hm=>by cases hm;exact re
theorem nQ {r_:aP} {r:Bool} (hm:nV r_ r):S 185 [lG r_] [] (.bool r) [] :=sp Tryz.func185 rfl<|sb hm fun v1 hv1 hm=>cl (fun q0=>(mJ (hv1 q0)))<|by cases hm;exact re
theorem Jj {a00_:Int} {a01_:Int} {a1_:Int} {r:(Int×Int)} (hm:wX a00_ a01_ a1_ r):S 191 [.ro [iV a00_,iV a01_],.ro [iV a1_]] [] (.jJ [iV r.1,iV r.2]) [] :=sp Tryz.func191 rfl<|sb hm fun v1 hv1 hm=>cl (mJ hv1)<|sn hm fun _ hm=>sn hm fun _ hm=>sn hm fun _ hm=>by cases hm;exact re
theorem FL {num_:Int} {den_:Int} {r:(aP×Int)} (hm:Db num_ den_ r):S 195 [iV num_,iV den_] [] (.jJ [lG r.1,iV r.2]) [] :=sp Tryz.func195 rfl<|si hm (fun _ hm=>by cases hm;exact re) fun _ hm=>sb hm fun v1 hv1 hm=>cl (mJ hv1)<|sn hm fun _ hm=>sn hm fun _ hm=>sb hm fun v2 hv2 hm=>cl (nQ hv2)<|si hm (fun _ hm=>by cases hm;exact re) fun _ hm=>by cases hm;exact re
theorem Jk {r_:aP} {k_:Int} {scale0_:Int} {scale1_:Int} {scale2_:Int} {r:(aP×Int)} (hm:wY r_ k_ scale0_ scale1_ scale2_ r):S 190 [lG r_,iV k_,.fn 191 [.ro [iV scale0_,iV scale1_],.ro [iV scale2_]]] [] (.jJ [lG r.1,iV r.2]) [] :=sp Tryz.func190 rfl<|sb hm fun v1 hv1 hm=>cl (nQ hv1)<|si hm (fun _ hm=>by cases hm;exact re) fun _ hm=>si hm (fun _ hm=>by cases hm;exact re) fun _ hm=>sb hm fun v2 hv2 hm=>cl (Jj hv2)<|sb hm fun v3 hv3 hm=>cl (FL hv3)<|by cases hm;exact re
theorem MR {r_:aP} {k_:Int} {r:(aP×Int)} (hm:Ep r_ k_ r):S 183 [lG r_,iV k_] [] (.jJ [lG r.1,iV r.2]) [] :=sp Tryz.func183 rfl<|sb hm fun v1 hv1 hm=>cl (Jk hv1)<|by cases hm;exact re
theorem H6 {a0_:Int} {a10_:Int} {a11_:Int} {r:(Int×Int)} (hm:uR a0_ a10_ a11_ r):S 193 [.ro [iV a0_],.ro [iV a10_,iV a11_]] [] (.jJ [iV r.1,iV r.2]) [] :=sp Tryz.func193 rfl<|sb hm fun v1 hv1 hm=>cl (mJ hv1)<|sn hm fun _ hm=>sn hm fun _ hm=>si hm (fun _ hm=>by cases hm;exact re) fun _ hm=>sn hm fun _ hm=>sn hm fun _ hm=>sn hm fun _ hm=>by cases hm;exact re
theorem ER {r_:aP} {k_:Int} {scale0_:Int} {scale1_:Int} {scale2_:Int} {r:(aP×Int)} (hm:o8 r_ k_ scale0_ scale1_ scale2_ r):S 190 [lG r_,iV k_,.fn 193 [.ro [iV scale0_],.ro [iV scale1_,iV scale2_]]] [] (.jJ [lG r.1,iV r.2]) [] :=sp Tryz.func190 rfl<|sb hm fun v1 hv1 hm=>cl (nQ hv1)<|si hm (fun _ hm=>by cases hm;exact re) fun _ hm=>si hm (fun _ hm=>by cases hm;exact re) fun _ hm=>sb hm fun v2 hv2 hm=>cl (H6 hv2)<|sb hm fun v3 hv3 hm=>cl (FL hv3)<|by cases hm;exact re
theorem KC {r_:aP} {k_:Int} {r:(aP×Int)} (hm:z8 r_ k_ r):S 184 [lG r_,iV k_] [] (.jJ [lG r.1,iV r.2]) [] :=sp Tryz.func184 rfl<|sb hm fun v1 hv1 hm=>cl (ER hv1)<|by cases hm;exact re
theorem zA {l_:(List av)} {s_:(List Int)} {r:(List aP)} (hm:sH l_ s_ r):S 162 [aS l_,aD s_] [] (qN r) [] :=sp Tryz.func162 rfl<|sn hm fun _ hm=>lf hm (fun g1=>⟨[(0,aS l_),(1,aD s_),(5,.cu 0 0 g1.2.length false),(13,aS l_),(14,iV (l_.length:Int)),(15,iV g1.1)],[(0,some (.row 2 g1.2.length (bB lG bZ g1.2)))],1⟩) [(0,some 24)] [] <|fun self1 g1 hm=>si hm (fun _ hm=>sn hm fun _ hm=>sn hm fun _ hm=>sn hm fun _ hm=>sb hm fun v7 hv7 hm=>cl (HZ hv7)<|si hm (fun _ hm=>sn hm fun _ hm=>sn hm fun _ hm=>le hm) fun _ hm=>sn hm fun _ hm=>si hm (fun _ hm=>sn hm fun _ hm=>sn hm fun _ hm=>le hm) fun _ hm=>si hm (fun _ hm=>sn hm fun _ hm=>sb hm fun v8 hv8 hm=>cl (MR hv8)<|sn hm fun _ hm=>sn hm fun _ hm=>le hm) fun _ hm=>si hm (fun _ hm=>sn hm fun _ hm=>sb hm fun v9 hv9 hm=>cl (KC hv9)<|sn hm fun _ hm=>sn hm fun _ hm=>le hm) fun _ hm=>sn hm fun _ hm=>sn hm fun _ hm=>sn hm fun _ hm=>le hm) fun _ hm=>by cases hm;exact rt [0] []
theorem zB {r_:aP} {low_:Int} {high_:Int} {r:Bool} (hm:sI r_ low_ high_ r):S 163 [lG r_,iV low_,iV high_] [] (.bool r) [] :=sp Tryz.func163 rfl<|sb hm fun v1 hv1 hm=>cl (nQ hv1)<|si hm (fun _ hm=>by cases hm;exact re) fun _ hm=>sn hm fun _ hm=>sn hm fun _ hm=>by cases hm;exact re
theorem Gm {x_:bn} {a1_:(List aP)} {r:Bool} (hm:nu x_ a1_ r):S 165 [tC x_,.ro [qN a1_]] [] (.bool r) [] :=sp Tryz.func165 rfl<|sn hm fun _ hm=>sn hm fun _ hm=>sb hm fun v1 hv1 hm=>cl (fun q0=>(zB (hv1 q0)))<|by cases hm;exact re
theorem oQ {s_:(List bn)} {f_:(List aP)} {r:Int} (hm:kJ s_ f_ r):S 186 [eX s_,.fn 165 [.ro [qN f_]]] [] (iV r) [] :=sp Tryz.func186 rfl<|l0 hm (fun g1=>⟨[(0,eX s_),(1,.fn 165 [.ro [qN f_]]),(7,iV (s_.length:Int)),(8,iV g1)],[],0⟩) <|fun self1 g1 hm=>si hm (fun _ hm=>sn hm fun _ hm=>sb hm fun v3 hv3 hm=>cl (Gm hv3)<|si hm (fun _ hm=>by cases hm;exact re) fun _ hm=>sn hm fun _ hm=>le hm) fun _ hm=>by cases hm;exact re
theorem mX {s_:(List bn)} {f_:(List aP)} {r:Bool} (hm:gM s_ f_ r):S 164 [eX s_,.fn 165 [.ro [qN f_]]] [] (.bool r) [] :=sp Tryz.func164 rfl<|sb hm fun v1 hv1 hm=>cl (oQ hv1)<|by cases hm;exact re
theorem Jl {l_:(List av)} {s_:(List Int)} {m_:(List bn)} {r:Bool} (hm:wZ l_ s_ m_ r):S 130 [aS l_,aD s_,eX m_] [] (.bool r) [] :=sp Tryz.func130 rfl<|sb hm fun v1 hv1 hm=>cl (HY hv1)<|sb hm fun v2 hv2 hm=>cl (fun q0=>(wH (hv2 q0)))<|si hm (fun _ hm=>by cases hm;exact re) fun _ hm=>sb hm fun v3 hv3 hm=>cl (zA hv3)<|lf hm (fun g1=>⟨[(2,eX m_),(7,.ptr 0 0 0),(23,aS l_),(24,iV (l_.length:Int)),(25,iV g1)],[(0,some (.box [qN v3]))],1⟩) [(0,some 112)] [] <|fun self1 g1 hm=>si hm (fun _ hm=>sn hm fun _ hm=>sn hm fun _ hm=>sn hm fun _ hm=>sb hm fun v6 hv6 hm=>cl (fun q0=>(zB (hv6 q0)))<|si hm (fun _ hm=>by cases hm;exact re) fun _ hm=>sn hm fun _ hm=>le hm) fun _ hm=>sb hm fun v7 hv7 hm=>cl (mX hv7)<|by cases hm;exact re
theorem zC {s_:dP} {r:Bool} (hm:ko s_ r):S 83 [zX s_] [] (.bool r) [] :=sp Tryz.func83 rfl<|sb hm fun v1 hv1 hm=>cl ((Jl hv1).le ⟨.refl _,.refl _,(.sl rfl (fun h=>absurd rfl h) nofun (fun _ h=>absurd h (Nat.not_lt_zero _))),trivial⟩ trivial)<|by cases hm;exact re
theorem Jm {l_:(List av)} {s_:(List Int)} {r:((List aP)×Int)} (hm:w9 l_ s_ r):S 131 [aS l_,aD s_] [] (.jJ [qN r.1,iV r.2]) [] :=sp Tryz.func131 rfl<|sb hm fun v1 hv1 hm=>cl (rD hv1)<|si hm (fun _ hm=>by cases hm;exact re) fun _ hm=>sb hm fun v2 hv2 hm=>cl (wH hv2)<|si hm (fun _ hm=>by cases hm;exact re) fun _ hm=>sb hm fun v3 hv3 hm=>cl (zA hv3)<|by cases hm;exact re
theorem zD {s_:dP} {r:Bool} (hm:kr s_ r):S 84 [zX s_] [] (.bool r) [] :=sp Tryz.func84 rfl<|sb hm fun v1 hv1 hm=>cl (Jm hv1)<|si hm (fun _ hm=>by cases hm;exact re) fun _ hm=>l0 hm (fun g1=>⟨[(1,.ptr 0 0 0),(3,qN v1.1),(23,aD s_.aG),(24,iV (s_.aG.length:Int)),(25,iV g1)],[(0,some (.box [aS s_.aN.bO,aL s_.aN.bC,iV s_.aN.bD.bI,aX s_.aN.bD.Groups,bQ s_.aN.Resets,bL s_.aN.bS,eF s_.bG,aD s_.aG,aD s_.aJ.Setting,bf s_.aJ.fC.On,aD s_.aJ.fC.Level,dG s_.aJ.Uses,bf s_.aJ.Released,bf s_.aJ.eU,.bool s_.jd]))],1⟩) <|fun self1 g1 hm=>si hm (fun _ hm=>sn hm fun _ hm=>sn hm fun _ hm=>l0 hm (fun g4=>⟨[(1,.ptr 0 0 0),(3,qN v1.1),(23,aD s_.aG),(24,iV (s_.aG.length:Int)),(25,iV g1),(34,eX ((s_.bG.getD ((s_.aG.getD g1.toNat 0).toNat) aY).Limits)),(35,iV ((((s_.bG.getD ((s_.aG.getD g1.toNat 0).toNat) aY).Limits).length:Nat):Int)),(36,iV g4)],[(0,some (.box [aS s_.aN.bO,aL s_.aN.bC,iV s_.aN.bD.bI,aX s_.aN.bD.Groups,bQ s_.aN.Resets,bL s_.aN.bS,eF s_.bG,aD s_.aG,aD s_.aJ.Setting,bf s_.aJ.fC.On,aD s_.aJ.fC.Level,dG s_.aJ.Uses,bf s_.aJ.Released,bf s_.aJ.eU,.bool s_.jd]))],1⟩) <|fun self4 g4 hm=>si hm (fun _ hm=>sn hm fun _ hm=>sn hm fun _ hm=>sn hm fun _ hm=>sn hm fun _ hm=>si hm (fun _ hm=>by cases hm;exact re) fun _ hm=>sn hm fun _ hm=>le hm) fun _ hm=>sn hm fun _ hm=>le hm) fun _ hm=>by cases hm;exact re
theorem H7 {l_:(List aj)} {r_:bE} {r:Bool} (hm:uS l_ r_ r):S 166 [aL l_,IU r_] [] (.bool r) [] :=sp Tryz.func166 rfl<|sb hm fun v1 hv1 hm=>cl (p8 hv1)<|si hm (fun _ hm=>by cases hm;exact re) fun _ hm=>l0 hm (fun g1=>⟨[(0,aL l_),(27,aD r_.Level),(28,iV (r_.Level.length:Int)),(29,iV g1)],[],0⟩) <|fun self1 g1 hm=>si hm (fun _ hm=>sn hm fun _ hm=>sn hm fun _ hm=>sn hm fun _ hm=>sb hm fun v4 hv4 hm=>cl (dS hv4)<|si hm (fun _ hm=>by cases hm;exact re) fun _ hm=>sn hm fun _ hm=>le hm) fun _ hm=>by cases hm;exact re
theorem ES {x_:aI} {a1_:(List aj)} {r:Bool} (hm:lK x_ a1_ r):S 187 [AY x_,.ro [aL a1_]] [] (.bool r) [] :=sp Tryz.func187 rfl<|sn hm fun _ hm=>sb hm fun v1 hv1 hm=>cl (dS hv1)<|sb hm fun v2 hv2 hm=>cl (fun q0=>(dS (hv2 q0)))<|sb hm fun v3 hv3 hm=>cl (fun q0=>(dS (hv3 q0)))<|sb hm fun v4 hv4 hm=>cl (fun q0=>(dS (hv4 q0)))<|by cases hm;exact re
theorem sW {s_:(List aI)} {f_:(List aj)} {r:Int} (hm:ny s_ f_ r):S 189 [dZ s_,.fn 187 [.ro [aL f_]]] [] (iV r) [] :=sp Tryz.func189 rfl<|l0 hm (fun g1=>⟨[(0,dZ s_),(1,.fn 187 [.ro [aL f_]]),(7,iV (s_.length:Int)),(8,iV g1)],[],0⟩) <|fun self1 g1 hm=>si hm (fun _ hm=>sn hm fun _ hm=>sb hm fun v3 hv3 hm=>cl (ES hv3)<|si hm (fun _ hm=>by cases hm;exact re) fun _ hm=>sn hm fun _ hm=>le hm) fun _ hm=>by cases hm;exact re
theorem p9 {s_:(List aI)} {f_:(List aj)} {r:Bool} (hm:iT s_ f_ r):S 170 [dZ s_,.fn 187 [.ro [aL f_]]] [] (.bool r) [] :=sp Tryz.func170 rfl<|sb hm fun v1 hv1 hm=>cl (sW hv1)<|by cases hm;exact re
theorem H8 {l_:(List aj)} {d_:(List aI)} {r:Bool} (hm:uU l_ d_ r):S 167 [aL l_,dZ d_] [] (.bool r) [] :=sp Tryz.func167 rfl<|sb hm fun v1 hv1 hm=>cl (p8 hv1)<|sb hm fun v2 hv2 hm=>cl (fun q0=>(p9 (hv2 q0)))<|by cases hm;exact re
end Go.Proofs.YtfblhejmclcdmaaGreatDoor


namespace Go.Proofs.YtfblhejmclcdmaaGreatDoor
open Go.Ab
set_option maxRecDepth 100000
set_option maxHeartbeats 20000000
theorem j5 {s_:(List aj)} {r:(List aj)} (hm:fO s_ r):S 188 [aL s_] [] (.fn 194 [.ro [aL r]]) [] :=by
 have hm:r=s_:=hm
 subst hm
 exact NK r
theorem Jo {l_:(List aj)} {d_:(List aI)} {r:(List Bool)} (hm:xg l_ d_ r):S 168 [aL l_,dZ d_] [] (bf r) [] :=RY [11] Tryz.func168 rfl<|sn hm fun _ hm=>MP [11] hm (fun g1=>⟨[(0,aL l_),(5,.ptr 0 0 0),(13,dZ d_),(14,iV (d_.length:Int)),(15,iV g1.1)],[(0,some (.box [.cu 1 0 g1.2.length false])),(1,some (.row 1 g1.2.length (bB AV.bool false g1.2)))],2⟩) [(0,some 32),(1,some 24)] [] <|fun self1 g1 hm=>si hm (fun _ hm=>sn hm fun _ hm=>sn hm fun _ hm=>sn hm fun _ hm=>le hm) fun _ hm=>sb hm fun v1 hv1 hm=>cl (j5 hv1)<|by
 have h11:=hm.1
 have hm:=hm.2
 refine Ol (ct:=[11]) (ct':=[11]) gV dk dk dk dk (OI v1 h11) rfl (by intro v hv; simp at hv; exact ⟨_,hv⟩) hm (fun g2=>⟨[(5,.ptr 0 0 0),(25,.fn 194 [.ro [aL v1]])],[(0,some (.box [.cu 1 0 g2.length false])),(1,some (.row 1 g2.length (bB AV.bool false g2)))],2⟩) (fun k2 g2=>⟨[(5,.ptr 0 0 0),(8,iV ((v1.length - 1 - k2:Nat):Int)),(9,.ptr 2 0 0)],[(0,some (.box [.cu 1 0 g2.length false])),(1,some (.row 1 g2.length (bB AV.bool false g2))),(2,some (.box [iV ((v1.getD (v1.length - 1 - k2) ah).Parent),aD ((v1.getD (v1.length - 1 - k2) ah).aQ),iV ((v1.getD (v1.length - 1 - k2) ah).dM),iV ((v1.getD (v1.length - 1 - k2) ah).dU),.bool ((v1.getD (v1.length - 1 - k2) ah).Always)]))],3⟩) (fun _ _=>r2) [] ⟨rfl,⟨r4,⟨rfl,Iw.refl _,trivial⟩,trivial⟩,⟨⟨⟨rfl,rfl,rfl,rfl,nofun⟩,trivial⟩,⟨rfl,rfl,(fun _ _=>.refl _)⟩,trivial⟩⟩ ?_ ?_ ?_
 ·intro k2 ll g2 hk
  refine ⟨Nat.le_of_ble_eq_true rfl,?_⟩
  (conv=>whnf)
  exact ⟨[(2,some 10)],⟨rfl,⟨r4,r2,r4,trivial⟩,⟨⟨⟨rfl,rfl,rfl,rfl,nofun⟩,trivial⟩,⟨rfl,rfl,(fun _ _=>.refl _)⟩,⟨r2,sr,r2,r2,rfl,trivial⟩,trivial⟩⟩⟩
 ·intro k2 ll self2 g2 hk hm
  (conv=>whnf)
  refine LW (ct:=[11]) gV dk dk (tK v1 self2 k2) r (fun g5=>⟨[(5,.ptr 0 0 0),(8,iV ((v1.length - 1 - k2:Nat):Int)),(9,.ptr 2 0 0)],[(0,some (.box [.cu 1 0 g5.length false])),(1,some (.row 1 g5.length (bB AV.bool false g5))),(2,some (.box [iV ((v1.getD (v1.length - 1 - k2) ah).Parent),aD ((v1.getD (v1.length - 1 - k2) ah).aQ),iV ((v1.getD (v1.length - 1 - k2) ah).dM),iV ((v1.getD (v1.length - 1 - k2) ah).dU),.bool ((v1.getD (v1.length - 1 - k2) ah).Always)]))],3⟩) ?_ (fun g5 hm=>?_)
  ·(conv=>whnf)
   refine aK hm fun h28 hm=>?_
   (conv=>whnf)
   refine aK hm fun h29 hm=>?_
   (conv=>whnf)
   exact ⟨(g2.set (((v1.length - 1 - k2:Nat):Int).toNat) ((g2.getD (((v1.length - 1 - k2:Nat):Int).toNat) false)||(v1.getD (v1.length - 1 - k2) ah).Always)),[],[],hm,⟨rfl,⟨r4,r2,r4,trivial⟩,⟨⟨⟨rfl,rfl,rfl,oz,nofun⟩,trivial⟩,⟨rfl,oz,(KS (fun _ _=>.refl _) rfl (.refl _))⟩,⟨r2,sr,r2,r2,rfl,trivial⟩,trivial⟩⟩⟩
  ·(conv=>whnf)
   refine aK hm fun h26 hm=>?_
   (conv=>whnf)
   refine cK hm (fun c6 hm=>?_) (fun c6 hm=>?_)
   ·(conv=>whnf)
    refine aK hm fun h27 hm=>?_
    (conv=>whnf)
    exact ⟨(g5.set (((v1.getD (v1.length - 1 - k2) ah).Parent).toNat) true),[],hm,⟨rfl,⟨r4,⟨rfl,Iw.refl _,trivial⟩,trivial⟩,⟨⟨⟨rfl,rfl,rfl,oz,nofun⟩,trivial⟩,⟨rfl,oz,(KS (fun _ _=>.refl _) rfl (.refl _))⟩,trivial⟩⟩⟩
   ·(conv=>whnf)
    exact ⟨g5,[],hm,⟨rfl,⟨r4,⟨rfl,Iw.refl _,trivial⟩,trivial⟩,⟨⟨⟨rfl,rfl,rfl,rfl,nofun⟩,trivial⟩,⟨rfl,rfl,(fun _ _=>.refl _)⟩,trivial⟩⟩⟩
 ·intro g2 hm
  (conv=>whnf)
  have hm:r=g2:=hm
  subst hm
  refine ⟨[1],[],?_⟩
  (conv=>whnf)
  exact ⟨⟨rfl,trivial,trivial⟩,sf⟩
theorem H9 {l_:(List aj)} {d_:(List aI)} {r:(List Int)} (hm:uV l_ d_ r):S 169 [aL l_,dZ d_] [] (aD r) [] :=sp Tryz.func169 rfl<|sn hm fun _ hm=>lf hm (fun g1=>⟨[(0,aL l_),(5,.ptr 0 0 0),(13,dZ d_),(14,iV (d_.length:Int)),(15,iV g1.1)],[(0,some (.box [.cu 1 0 g1.2.length false])),(1,some (.row 1 g1.2.length (bB iV 0 g1.2)))],2⟩) [(0,some 32),(1,some 24)] [] <|fun self1 g1 hm=>si hm (fun _ hm=>sn hm fun _ hm=>sn hm fun _ hm=>sn hm fun _ hm=>sn hm fun _ hm=>sn hm fun _ hm=>le hm) fun _ hm=>sb hm fun v1 hv1 hm=>cl (j5 hv1)<|by
 have h17:=hm.1
 have hm:=hm.2
 refine Ol (ct:=[]) (ct':=[]) gV dk dk dk dk (OI v1 h17) rfl (by intro v hv; simp at hv; exact ⟨_,hv⟩) hm (fun g2=>⟨[(5,.ptr 0 0 0),(30,.fn 194 [.ro [aL v1]])],[(0,some (.box [.cu 1 0 g2.length false])),(1,some (.row 1 g2.length (bB iV 0 g2)))],2⟩) (fun k2 g2=>⟨[(5,.ptr 0 0 0),(8,iV ((v1.length - 1 - k2:Nat):Int)),(9,.ptr 2 0 0)],[(0,some (.box [.cu 1 0 g2.length false])),(1,some (.row 1 g2.length (bB iV 0 g2))),(2,some (.box [iV ((v1.getD (v1.length - 1 - k2) ah).Parent),aD ((v1.getD (v1.length - 1 - k2) ah).aQ),iV ((v1.getD (v1.length - 1 - k2) ah).dM),iV ((v1.getD (v1.length - 1 - k2) ah).dU),.bool ((v1.getD (v1.length - 1 - k2) ah).Always)]))],3⟩) (fun _ _=>r2) [] ⟨rfl,⟨r4,⟨rfl,Iw.refl _,trivial⟩,trivial⟩,⟨⟨⟨rfl,rfl,rfl,rfl,nofun⟩,trivial⟩,⟨rfl,rfl,(fun _ _=>.refl _)⟩,trivial⟩⟩ ?_ ?_ ?_
 ·intro k2 ll g2 hk
  refine ⟨Nat.le_of_ble_eq_true rfl,?_⟩
  (conv=>whnf)
  exact ⟨[(2,some 10)],⟨rfl,⟨r4,r2,r4,trivial⟩,⟨⟨⟨rfl,rfl,rfl,rfl,nofun⟩,trivial⟩,⟨rfl,rfl,(fun _ _=>.refl _)⟩,⟨r2,sr,r2,r2,rfl,trivial⟩,trivial⟩⟩⟩
 ·intro k2 ll self2 g2 hk hm
  (conv=>whnf)
  refine cK hm (fun c6 hm=>?_) (fun c6 hm=>?_)
  ·(conv=>whnf)
   refine aK hm fun h26 hm=>?_
   (conv=>whnf)
   refine aK hm fun h27 hm=>?_
   (conv=>whnf)
   refine aK hm fun h28 hm=>?_
   (conv=>whnf)
   refine aK hm fun h29 hm=>?_
   (conv=>whnf)
   exact ⟨(g2.set (((v1.getD (v1.length - 1 - k2) ah).Parent).toNat) ((g2.getD (((v1.getD (v1.length - 1 - k2) ah).Parent).toNat) 0)+(g2.getD (((v1.length - 1 - k2:Nat):Int).toNat) 0))),[],hm,⟨rfl,⟨r4,⟨rfl,Iw.refl _,trivial⟩,trivial⟩,⟨⟨⟨rfl,rfl,rfl,oz,nofun⟩,trivial⟩,⟨rfl,oz,(KS (fun _ _=>.refl _) rfl (.refl _))⟩,trivial⟩⟩⟩
  ·(conv=>whnf)
   exact ⟨g2,[],hm,⟨rfl,⟨r4,⟨rfl,Iw.refl _,trivial⟩,trivial⟩,⟨⟨⟨rfl,rfl,rfl,rfl,nofun⟩,trivial⟩,⟨rfl,rfl,(fun _ _=>.refl _)⟩,trivial⟩⟩⟩
 ·intro g2 hm
  (conv=>whnf)
  have hm:r=g2:=hm
  subst hm
  refine ⟨[1],[],?_⟩
  (conv=>whnf)
  exact ⟨⟨rfl,trivial,trivial⟩,sf⟩
theorem ET {x_:aI} {a1_:(List aj)} {a20_:(List Bool)} {a21_:(List Int)} {r:Bool} (hm:lM x_ a1_ a20_ a21_ r):S 171 [AY x_,.ro [aL a1_],.ro [bf a20_,aD a21_]] [] (.bool r) [] :=sp Tryz.func171 rfl<|sn hm fun _ hm=>sn hm fun _ hm=>sn hm fun _ hm=>sb hm fun v1 hv1 hm=>cl (dS hv1)<|by cases hm;exact re
theorem qb {s_:(List aI)} {f0_:(List aj)} {f1_:(List Bool)} {f2_:(List Int)} {r:Int} (hm:kW s_ f0_ f1_ f2_ r):S 189 [dZ s_,.fn 171 [.ro [aL f0_],.ro [bf f1_,aD f2_]]] [] (iV r) [] :=sp Tryz.func189 rfl<|l0 hm (fun g1=>⟨[(0,dZ s_),(1,.fn 171 [.ro [aL f0_],.ro [bf f1_,aD f2_]]),(7,iV (s_.length:Int)),(8,iV g1)],[],0⟩) <|fun self1 g1 hm=>si hm (fun _ hm=>sn hm fun _ hm=>sb hm fun v3 hv3 hm=>cl (ET hv3)<|si hm (fun _ hm=>by cases hm;exact re) fun _ hm=>sn hm fun _ hm=>le hm) fun _ hm=>by cases hm;exact re
theorem nJ {s_:(List aI)} {f0_:(List aj)} {f1_:(List Bool)} {f2_:(List Int)} {r:Bool} (hm:gX s_ f0_ f1_ f2_ r):S 170 [dZ s_,.fn 171 [.ro [aL f0_],.ro [bf f1_,aD f2_]]] [] (.bool r) [] :=sp Tryz.func170 rfl<|sb hm fun v1 hv1 hm=>cl (qb hv1)<|by cases hm;exact re
theorem Ia {l_:(List aj)} {r_:bE} {d_:(List aI)} {r:Bool} (hm:uW l_ r_ d_ r):S 132 [aL l_,IU r_,dZ d_] [] (.bool r) [] :=sp Tryz.func132 rfl<|sb hm fun v1 hv1 hm=>cl (H7 hv1)<|sb hm fun v2 hv2 hm=>cl (fun q0=>(H8 (hv2 q0)))<|si hm (fun _ hm=>by cases hm;exact re) fun _ hm=>sb hm fun v3 hv3 hm=>cl (Jo hv3)<|sb hm fun v4 hv4 hm=>cl (H9 hv4)<|lf hm (fun g1=>⟨[(2,dZ d_),(3,.ptr 0 0 0),(4,.ptr 1 0 0),(7,bf v3),(8,aD v4),(28,aL l_),(29,iV (l_.length:Int)),(30,iV g1)],[(0,some (.box [aL l_])),(1,some (.box [bf r_.On,aD r_.Level]))],2⟩) [(1,some 8)] [] <|fun self1 g1 hm=>si hm (fun _ hm=>sn hm fun _ hm=>sn hm fun _ hm=>si hm (fun _ hm=>sn hm fun _ hm=>si hm (fun _ hm=>by cases hm;exact re) fun _ hm=>sn hm fun _ hm=>le hm) fun _ hm=>sn hm fun _ hm=>sn hm fun _ hm=>sn hm fun _ hm=>sn hm fun _ hm=>sn hm fun _ hm=>sn hm fun _ hm=>sn hm fun _ hm=>sn hm fun _ hm=>si hm (fun _ hm=>by cases hm;exact re) fun _ hm=>sn hm fun _ hm=>le hm) fun _ hm=>sb hm fun v5 hv5 hm=>cl (nJ hv5)<|by cases hm;exact re
theorem wR {s_:dP} {r:Bool} (hm:jw s_ r):S 85 [zX s_] [] (.bool r) [] :=sp Tryz.func85 rfl<|lf hm (fun g1=>⟨[(1,.ptr 0 0 0),(3,.cu 1 0 g1.2.length false),(7,aD s_.aG),(8,iV (s_.aG.length:Int)),(9,iV g1.1)],[(0,some (.box [aS s_.aN.bO,aL s_.aN.bC,iV s_.aN.bD.bI,aX s_.aN.bD.Groups,bQ s_.aN.Resets,bL s_.aN.bS,eF s_.bG,aD s_.aG,aD s_.aJ.Setting,bf s_.aJ.fC.On,aD s_.aJ.fC.Level,dG s_.aJ.Uses,bf s_.aJ.Released,bf s_.aJ.eU,.bool s_.jd])),(1,some (.row 4 g1.2.length (bB AY bK g1.2)))],2⟩) [(1,none)] [] <|fun self1 g1 hm=>si hm (fun _ hm=>sn hm fun _ hm=>sn hm fun _ hm=>sn hm fun _ hm=>sn hm fun _ hm=>lc [(1,some 90)] [] hm) fun _ hm=>sb hm fun v1 hv1 hm=>cl (D7 hv1)<|sb hm fun v2 hv2 hm=>cl (Ia hv2)<|by cases hm;exact re
theorem Jp {p_:aR} {l_:(List oW)} {r:((Nat→Int)×Int)} (hm:xk p_ l_ r):S 172 [kU p_,QX l_] [] (.jJ [YE r.1,iV r.2]) [] :=sp Tryz.func172 rfl<|lf hm (fun g1=>⟨[(1,QX l_),(2,.ptr 0 0 0),(4,.ptr 1 0 0),(6,.ptr 2 0 0),(13,iV g1.1)],[(0,some (.box [iV p_.bI,aX p_.Groups])),(1,some (.row 1 64 (BM iV g1.2.1))),(2,some (.row 1 64 (BM iV g1.2.2)))],3⟩) [(1,some 8),(2,some 24)] [] <|fun self1 g1 hm=>si hm (fun _ hm=>sn hm fun _ hm=>sn hm fun _ hm=>le hm) fun _ hm=>sb hm fun v1 hv1 hm=>cl (BH hv1)<|si hm (fun _ hm=>by cases hm;exact re) fun _ hm=>sn hm fun _ hm=>lf hm (fun g2=>⟨[(2,.ptr 0 0 0),(4,.ptr 1 0 0),(6,.ptr 2 0 0),(8,.cu 3 0 g2.2.2.length false),(27,QX l_),(28,iV (l_.length:Int)),(29,iV g2.1)],[(0,some (.box [iV p_.bI,aX p_.Groups])),(1,some (.row 1 64 (BM iV g1.2.1))),(2,some (.row 1 64 (BM iV g2.2.1))),(3,some (.row 1 g2.2.2.length (bB AV.bool false g2.2.2)))],4⟩) [(3,some 59)] [] <|fun self2 g2 hm=>si hm (fun _ hm=>sn hm fun _ hm=>sn hm fun _ hm=>si hm (fun _ hm=>by cases hm;exact re) fun _ hm=>sn hm fun _ hm=>si hm (fun _ hm=>by cases hm;exact re) fun _ hm=>sn hm fun _ hm=>sn hm fun _ hm=>lf hm (fun g5=>⟨[(2,.ptr 0 0 0),(4,.ptr 1 0 0),(6,.ptr 2 0 0),(8,.cu 3 0 g5.2.2.length false),(10,.ptr 4 0 0),(27,QX l_),(28,iV (l_.length:Int)),(29,iV g2.1),(79,aD ((p_.Groups.getD (((l_.getD g2.1.toNat iK).dR).toNat) au).bI)),(80,iV ((((p_.Groups.getD (((l_.getD g2.1.toNat iK).dR).toNat) au).bI).length:Nat):Int)),(81,iV g5.1)],[(0,some (.box [iV p_.bI,aX p_.Groups])),(1,some (.row 1 64 (BM iV g1.2.1))),(2,some (.row 1 64 (BM iV g5.2.1))),(3,some (.row 1 g5.2.2.length (bB AV.bool false g5.2.2))),(4,some (.box [iV ((l_.getD g2.1.toNat iK).dR),iV ((l_.getD g2.1.toNat iK).Function)]))],5⟩) [(4,some 28)] [] <|fun self5 g5 hm=>si hm (fun _ hm=>sn hm fun _ hm=>sn hm fun _ hm=>si hm (fun _ hm=>by cases hm;exact re) fun _ hm=>sn hm fun _ hm=>sn hm fun _ hm=>le hm) fun _ hm=>sn hm fun _ hm=>le hm) fun _ hm=>by cases hm;exact re
theorem Jq {p_:aR} {l_:(List oW)} {r:((List Int)×Int)} (hm:xq p_ l_ r):S 133 [kU p_,QX l_] [] (.jJ [aD r.1,iV r.2]) [] :=RY [4] Tryz.func133 rfl<|sb hm fun v1 hv1 hm=>cl (Jp hv1)<|ck [4] (vU p_) r (fun g1=>⟨[(2,.ptr 0 0 0),(6,.ptr 1 0 0)],[(0,some (.box [iV p_.bI,aX p_.Groups])),(1,some (.row 1 64 (BM iV g1)))],2⟩) (si hm (fun _ hm=>by cases hm;exact re) fun _ hm=>lce [(1,some 72)] [] hm ⟨rfl,⟨r4,r4,trivial⟩,⟨⟨r2,sr,trivial⟩,⟨rfl,rfl,(Oj (f:=iV) (X:=v1.1) (n:=64) (fun _=>rfl))⟩,trivial⟩⟩) fun g1 hm=>sn hm fun _ hm=>sb hm fun v2 hv2 hm=>cl ((kS hv2).le ⟨(.sl oz (fun _=>rfl) nofun (le_funG (f:=iV) (X:=g1))),trivial⟩ trivial)<|by cases hm;exact rt [26] []
theorem BU {s_:dP} {r:Bool} (hm:mg s_ r):S 86 [zX s_] [] (.bool r) [] :=sp Tryz.func86 rfl<|lf hm (fun g1=>⟨[(1,.ptr 0 0 0),(3,.cu 1 0 g1.2.length false),(10,dG s_.aJ.Uses),(11,iV (s_.aJ.Uses.length:Int)),(12,iV g1.1)],[(0,some (.box [aS s_.aN.bO,aL s_.aN.bC,iV s_.aN.bD.bI,aX s_.aN.bD.Groups,bQ s_.aN.Resets,bL s_.aN.bS,eF s_.bG,aD s_.aG,aD s_.aJ.Setting,bf s_.aJ.fC.On,aD s_.aJ.fC.Level,dG s_.aJ.Uses,bf s_.aJ.Released,bf s_.aJ.eU,.bool s_.jd])),(1,some (.row 2 g1.2.length (bB aaz iK g1.2)))],2⟩) [(1,none)] [] <|fun self1 g1 hm=>si hm (fun _ hm=>sn hm fun _ hm=>sn hm fun _ hm=>sn hm fun _ hm=>lc [(1,some 74)] [] hm) fun _ hm=>sb hm fun v1 hv1 hm=>cl (Jq hv1)<|by cases hm;exact re
theorem wI {s_:dP} {r:Bool} (hm:ji s_ r):S 87 [zX s_] [] (.bool r) [] :=sp Tryz.func87 rfl<|l0 hm (fun g1=>⟨[(1,.ptr 0 0 0),(11,aD s_.aG),(12,iV (s_.aG.length:Int)),(13,iV g1)],[(0,some (.box [aS s_.aN.bO,aL s_.aN.bC,iV s_.aN.bD.bI,aX s_.aN.bD.Groups,bQ s_.aN.Resets,bL s_.aN.bS,eF s_.bG,aD s_.aG,aD s_.aJ.Setting,bf s_.aJ.fC.On,aD s_.aJ.fC.Level,dG s_.aJ.Uses,bf s_.aJ.Released,bf s_.aJ.eU,.bool s_.jd]))],1⟩) <|fun self1 g1 hm=>si hm (fun _ hm=>sn hm fun _ hm=>lf hm (fun g6=>⟨[(1,.ptr 0 0 0),(4,iV (s_.aG.getD g1.toNat 0)),(5,.mref 1),(11,aD s_.aG),(12,iV (s_.aG.length:Int)),(13,iV g1),(20,dG s_.aJ.Uses),(21,iV (s_.aJ.Uses.length:Int)),(22,iV g6.1)],[(0,some (.box [aS s_.aN.bO,aL s_.aN.bC,iV s_.aN.bD.bI,aX s_.aN.bD.Groups,bQ s_.aN.Resets,bL s_.aN.bS,eF s_.bG,aD s_.aG,aD s_.aJ.Setting,bf s_.aJ.fC.On,aD s_.aJ.fC.Level,dG s_.aJ.Uses,bf s_.aJ.Released,bf s_.aJ.eU,.bool s_.jd])),(1,some (.map .str [(.int .i64)] g6.2))],2⟩) [(1,some 33)] [] <|fun self6 g6 hm=>si hm (fun _ hm=>sn hm fun _ hm=>si hm (fun _ hm=>sn hm fun _ hm=>sn hm fun _ hm=>sn hm fun _ hm=>sn hm fun _ hm=>le hm) fun _ hm=>sn hm fun _ hm=>le hm) fun _ hm=>sn hm fun _ hm=>l0 hm (fun g7=>⟨[(1,.ptr 0 0 0),(5,.mref 1),(11,aD s_.aG),(12,iV (s_.aG.length:Int)),(13,iV g1),(54,fM ((s_.bG.getD ((s_.aG.getD g1.toNat 0).toNat) aY).Functions)),(55,iV ((((s_.bG.getD ((s_.aG.getD g1.toNat 0).toNat) aY).Functions).length:Nat):Int)),(56,iV g7.1)],[(0,some (.box [aS s_.aN.bO,aL s_.aN.bC,iV s_.aN.bD.bI,aX s_.aN.bD.Groups,bQ s_.aN.Resets,bL s_.aN.bS,eF s_.bG,aD s_.aG,aD s_.aJ.Setting,bf s_.aJ.fC.On,aD s_.aJ.fC.Level,dG s_.aJ.Uses,bf s_.aJ.Released,bf s_.aJ.eU,.bool s_.jd])),(1,some (.map .str [(.int .i64)] g7.2))],2⟩) <|fun self7 g7 hm=>si hm (fun _ hm=>sn hm fun _ hm=>sn hm fun _ hm=>si hm (fun _ hm=>by cases hm;exact re) fun _ hm=>sn hm fun _ hm=>le hm) fun _ hm=>sn hm fun _ hm=>le hm) fun _ hm=>by cases hm;exact re
theorem Ib {l_:(List bV)} {released_:(List Bool)} {r:Bool} (hm:uX l_ released_ r):S 173 [bQ l_,bf released_] [] (.bool r) [] :=sp Tryz.func173 rfl<|si hm (fun _ hm=>by cases hm;exact re) fun _ hm=>l0 hm (fun g1=>⟨[(1,bf released_),(14,bQ l_),(15,iV (l_.length:Int)),(16,iV g1)],[],0⟩) <|fun self1 g1 hm=>si hm (fun _ hm=>sn hm fun _ hm=>l0 hm (fun g4=>⟨[(1,bf released_),(5,iV g1),(14,bQ l_),(15,iV (l_.length:Int)),(16,iV g1),(22,aD ((l_.getD g1.toNat dReset).After)),(23,iV ((((l_.getD g1.toNat dReset).After).length:Nat):Int)),(24,iV g4)],[],0⟩) <|fun self4 g4 hm=>si hm (fun _ hm=>sn hm fun _ hm=>sn hm fun _ hm=>sn hm fun _ hm=>si hm (fun _ hm=>by cases hm;exact re) fun _ hm=>sn hm fun _ hm=>le hm) fun _ hm=>sn hm fun _ hm=>le hm) fun _ hm=>by cases hm;exact re
theorem Ic {l_:(List bV)} {released_:(List Bool)} {r:Bool} (hm:uY l_ released_ r):S 134 [bQ l_,bf released_] [] (.bool r) [] :=sp Tryz.func134 rfl<|sb hm fun v1 hv1 hm=>cl (zx hv1)<|sb hm fun v2 hv2 hm=>cl (fun q0=>(Ib (hv2 q0)))<|by cases hm;exact re
theorem wS {line_:Int} {a10_:(List av)} {a11_:(List aj)} {a12_:Int} {a13_:(List aV)} {a14_:(List bV)} {a15_:(List bH)} {a16_:(List aO)} {a17_:(List Int)} {a18_:(List Int)} {a19_:(List Bool)} {a110_:(List Int)} {a111_:(List aZ)} {a112_:(List Bool)} {a113_:(List Bool)} {a114_:Bool} {r:Bool} (hm:iC line_ a10_ a11_ a12_ a13_ a14_ a15_ a16_ a17_ a18_ a19_ a110_ a111_ a112_ a113_ a114_ r):S 136 [iV line_,.ro [aS a10_,aL a11_,iV a12_,aX a13_,bQ a14_,bL a15_,eF a16_,aD a17_,aD a18_,bf a19_,aD a110_,dG a111_,bf a112_,bf a113_,.bool a114_]] [] (.bool r) [] :=sp Tryz.func136 rfl<|sn hm fun _ hm=>by cases hm;exact re
theorem uy {s_:(List Int)} {f0_:(List av)} {f1_:(List aj)} {f2_:Int} {f3_:(List aV)} {f4_:(List bV)} {f5_:(List bH)} {f6_:(List aO)} {f7_:(List Int)} {f8_:(List Int)} {f9_:(List Bool)} {f10_:(List Int)} {f11_:(List aZ)} {f12_:(List Bool)} {f13_:(List Bool)} {f14_:Bool} {r:Int} (hm:oD s_ f0_ f1_ f2_ f3_ f4_ f5_ f6_ f7_ f8_ f9_ f10_ f11_ f12_ f13_ f14_ r):S 174 [aD s_,.fn 136 [.ro [aS f0_,aL f1_,iV f2_,aX f3_,bQ f4_,bL f5_,eF f6_,aD f7_,aD f8_,bf f9_,aD f10_,dG f11_,bf f12_,bf f13_,.bool f14_]]] [] (iV r) [] :=sp Tryz.func174 rfl<|l0 hm (fun g1=>⟨[(0,aD s_),(1,.fn 136 [.ro [aS f0_,aL f1_,iV f2_,aX f3_,bQ f4_,bL f5_,eF f6_,aD f7_,aD f8_,bf f9_,aD f10_,dG f11_,bf f12_,bf f13_,.bool f14_]]),(7,iV (s_.length:Int)),(8,iV g1)],[],0⟩) <|fun self1 g1 hm=>si hm (fun _ hm=>sn hm fun _ hm=>sb hm fun v3 hv3 hm=>cl (wS hv3)<|si hm (fun _ hm=>by cases hm;exact re) fun _ hm=>sn hm fun _ hm=>le hm) fun _ hm=>by cases hm;exact re
theorem qj {s_:(List Int)} {f0_:(List av)} {f1_:(List aj)} {f2_:Int} {f3_:(List aV)} {f4_:(List bV)} {f5_:(List bH)} {f6_:(List aO)} {f7_:(List Int)} {f8_:(List Int)} {f9_:(List Bool)} {f10_:(List Int)} {f11_:(List aZ)} {f12_:(List Bool)} {f13_:(List Bool)} {f14_:Bool} {r:Bool} (hm:je s_ f0_ f1_ f2_ f3_ f4_ f5_ f6_ f7_ f8_ f9_ f10_ f11_ f12_ f13_ f14_ r):S 135 [aD s_,.fn 136 [.ro [aS f0_,aL f1_,iV f2_,aX f3_,bQ f4_,bL f5_,eF f6_,aD f7_,aD f8_,bf f9_,aD f10_,dG f11_,bf f12_,bf f13_,.bool f14_]]] [] (.bool r) [] :=sp Tryz.func135 rfl<|sb hm fun v1 hv1 hm=>cl (uy hv1)<|by cases hm;exact re
theorem zF {s_:dP} {r:Bool} (hm:ku s_ r):S 88 [zX s_] [] (.bool r) [] :=sp Tryz.func88 rfl<|sb hm fun v1 hv1 hm=>cl (Ic hv1)<|si hm (fun _ hm=>by cases hm;exact re) fun _ hm=>l0 hm (fun g1=>⟨[(1,.ptr 0 0 0),(14,aD s_.aG),(15,iV (s_.aG.length:Int)),(16,iV g1)],[(0,some (.box [aS s_.aN.bO,aL s_.aN.bC,iV s_.aN.bD.bI,aX s_.aN.bD.Groups,bQ s_.aN.Resets,bL s_.aN.bS,eF s_.bG,aD s_.aG,aD s_.aJ.Setting,bf s_.aJ.fC.On,aD s_.aJ.fC.Level,dG s_.aJ.Uses,bf s_.aJ.Released,bf s_.aJ.eU,.bool s_.jd]))],1⟩) <|fun self1 g1 hm=>si hm (fun _ hm=>sn hm fun _ hm=>sn hm fun _ hm=>sb hm fun v4 hv4 hm=>cl (qj hv4)<|si hm (fun _ hm=>by cases hm;exact re) fun _ hm=>sn hm fun _ hm=>le hm) fun _ hm=>by cases hm;exact re
theorem Ie {l_:(List bH)} {on_:(List Bool)} {r:Bool} (hm:uZ l_ on_ r):S 175 [bL l_,bf on_] [] (.bool r) [] :=sp Tryz.func175 rfl<|si hm (fun _ hm=>by cases hm;exact re) fun _ hm=>l0 hm (fun g1=>⟨[(1,bf on_),(12,bL l_),(13,iV (l_.length:Int)),(14,iV g1)],[],0⟩) <|fun self1 g1 hm=>si hm (fun _ hm=>sn hm fun _ hm=>sn hm fun _ hm=>sn hm fun _ hm=>sn hm fun _ hm=>si hm (fun _ hm=>by cases hm;exact re) fun _ hm=>sn hm fun _ hm=>le hm) fun _ hm=>by cases hm;exact re
theorem Ig {l_:(List bH)} {on_:(List Bool)} {r:Bool} (hm:u6 l_ on_ r):S 137 [bL l_,bf on_] [] (.bool r) [] :=sp Tryz.func137 rfl<|sb hm fun v1 hv1 hm=>cl (xM hv1)<|sb hm fun v2 hv2 hm=>cl (fun q0=>(Ie (hv2 q0)))<|by cases hm;exact re
theorem wJ {m_:Int} {a10_:(List av)} {a11_:(List aj)} {a12_:Int} {a13_:(List aV)} {a14_:(List bV)} {a15_:(List bH)} {a16_:(List aO)} {a17_:(List Int)} {a18_:(List Int)} {a19_:(List Bool)} {a110_:(List Int)} {a111_:(List aZ)} {a112_:(List Bool)} {a113_:(List Bool)} {a114_:Bool} {r:Bool} (hm:gN m_ a10_ a11_ a12_ a13_ a14_ a15_ a16_ a17_ a18_ a19_ a110_ a111_ a112_ a113_ a114_ r):S 138 [iV m_,.ro [aS a10_,aL a11_,iV a12_,aX a13_,bQ a14_,bL a15_,eF a16_,aD a17_,aD a18_,bf a19_,aD a110_,dG a111_,bf a112_,bf a113_,.bool a114_]] [] (.bool r) [] :=sp Tryz.func138 rfl<|sn hm fun _ hm=>sn hm fun _ hm=>by cases hm;exact re
end Go.Proofs.YtfblhejmclcdmaaGreatDoor


namespace Go.Proofs.YtfblhejmclcdmaaGreatDoor
open Go.Ab
set_option maxRecDepth 100000
set_option maxHeartbeats 20000000
theorem uz {s_:(List Int)} {f0_:(List av)} {f1_:(List aj)} {f2_:Int} {f3_:(List aV)} {f4_:(List bV)} {f5_:(List bH)} {f6_:(List aO)} {f7_:(List Int)} {f8_:(List Int)} {f9_:(List Bool)} {f10_:(List Int)} {f11_:(List aZ)} {f12_:(List Bool)} {f13_:(List Bool)} {f14_:Bool} {r:Int} (hm:oF s_ f0_ f1_ f2_ f3_ f4_ f5_ f6_ f7_ f8_ f9_ f10_ f11_ f12_ f13_ f14_ r):S 174 [aD s_,.fn 138 [.ro [aS f0_,aL f1_,iV f2_,aX f3_,bQ f4_,bL f5_,eF f6_,aD f7_,aD f8_,bf f9_,aD f10_,dG f11_,bf f12_,bf f13_,.bool f14_]]] [] (iV r) [] :=sp Tryz.func174 rfl<|l0 hm (fun g1=>⟨[(0,aD s_),(1,.fn 138 [.ro [aS f0_,aL f1_,iV f2_,aX f3_,bQ f4_,bL f5_,eF f6_,aD f7_,aD f8_,bf f9_,aD f10_,dG f11_,bf f12_,bf f13_,.bool f14_]]),(7,iV (s_.length:Int)),(8,iV g1)],[],0⟩) <|fun self1 g1 hm=>si hm (fun _ hm=>sn hm fun _ hm=>sb hm fun v3 hv3 hm=>cl (wJ hv3)<|si hm (fun _ hm=>by cases hm;exact re) fun _ hm=>sn hm fun _ hm=>le hm) fun _ hm=>by cases hm;exact re
theorem ql {s_:(List Int)} {f0_:(List av)} {f1_:(List aj)} {f2_:Int} {f3_:(List aV)} {f4_:(List bV)} {f5_:(List bH)} {f6_:(List aO)} {f7_:(List Int)} {f8_:(List Int)} {f9_:(List Bool)} {f10_:(List Int)} {f11_:(List aZ)} {f12_:(List Bool)} {f13_:(List Bool)} {f14_:Bool} {r:Bool} (hm:jf s_ f0_ f1_ f2_ f3_ f4_ f5_ f6_ f7_ f8_ f9_ f10_ f11_ f12_ f13_ f14_ r):S 135 [aD s_,.fn 138 [.ro [aS f0_,aL f1_,iV f2_,aX f3_,bQ f4_,bL f5_,eF f6_,aD f7_,aD f8_,bf f9_,aD f10_,dG f11_,bf f12_,bf f13_,.bool f14_]]] [] (.bool r) [] :=sp Tryz.func135 rfl<|sb hm fun v1 hv1 hm=>cl (uz hv1)<|by cases hm;exact re
theorem yA {s_:dP} {r:Bool} (hm:jK s_ r):S 89 [zX s_] [] (.bool r) [] :=sp Tryz.func89 rfl<|sb hm fun v1 hv1 hm=>cl (Ig hv1)<|si hm (fun _ hm=>by cases hm;exact re) fun _ hm=>sb hm fun v2 hv2 hm=>cl (ql hv2)<|by cases hm;exact re
theorem jY {s_:dP} {r:Int} (hm:gY s_ r):S 33 [zX s_] [] (iV r) [] :=sp Tryz.func33 rfl<|by
 refine QV 9 ?_
 refine jG (ct:=[]) gV dk ?_
 (conv=>whnf)
 refine aK hm fun h1 hm=>?_
 (conv=>whnf)
 refine bR hm fun v1 hv1 hm=>?_
 refine ⟨_,_,(Ay hv1),?_⟩
 (conv=>whnf)
 refine cK hm (fun c1 hm=>?_) (fun c1 hm=>?_)
 ·(conv=>whnf)
  refine aK hm fun h2 hm=>?_
  (conv=>whnf)
  have hm:r=((0:Int)+(1:Int)):=hm
  subst hm
  refine ⟨[],[],?_⟩
  (conv=>whnf)
  exact ⟨⟨rfl,trivial,trivial⟩,r2⟩
 ·(conv=>whnf)
  refine aK hm fun h3 hm=>?_
  (conv=>whnf)
  refine jG (ct:=[]) gV dk ?_
  (conv=>whnf)
  refine aK hm fun h4 hm=>?_
  (conv=>whnf)
  refine bR hm fun v2 hv2 hm=>?_
  refine ⟨_,_,(zC hv2),?_⟩
  (conv=>whnf)
  refine cK hm (fun c2 hm=>?_) (fun c2 hm=>?_)
  ·(conv=>whnf)
   refine aK hm fun h5 hm=>?_
   (conv=>whnf)
   have hm:r=(((0:Int)+(1:Int))+(1:Int)):=hm
   subst hm
   refine ⟨[],[],?_⟩
   (conv=>whnf)
   exact ⟨⟨rfl,trivial,trivial⟩,r2⟩
  ·(conv=>whnf)
   refine aK hm fun h6 hm=>?_
   (conv=>whnf)
   refine jG (ct:=[]) gV dk ?_
   (conv=>whnf)
   refine aK hm fun h7 hm=>?_
   (conv=>whnf)
   refine bR hm fun v3 hv3 hm=>?_
   refine ⟨_,_,(zD hv3),?_⟩
   (conv=>whnf)
   refine cK hm (fun c3 hm=>?_) (fun c3 hm=>?_)
   ·(conv=>whnf)
    refine aK hm fun h8 hm=>?_
    (conv=>whnf)
    have hm:r=((((0:Int)+(1:Int))+(1:Int))+(1:Int)):=hm
    subst hm
    refine ⟨[],[],?_⟩
    (conv=>whnf)
    exact ⟨⟨rfl,trivial,trivial⟩,r2⟩
   ·(conv=>whnf)
    refine aK hm fun h9 hm=>?_
    (conv=>whnf)
    refine jG (ct:=[]) gV dk ?_
    (conv=>whnf)
    refine aK hm fun h10 hm=>?_
    (conv=>whnf)
    refine bR hm fun v4 hv4 hm=>?_
    refine ⟨_,_,(wR hv4),?_⟩
    (conv=>whnf)
    refine cK hm (fun c4 hm=>?_) (fun c4 hm=>?_)
    ·(conv=>whnf)
     refine aK hm fun h11 hm=>?_
     (conv=>whnf)
     have hm:r=(((((0:Int)+(1:Int))+(1:Int))+(1:Int))+(1:Int)):=hm
     subst hm
     refine ⟨[],[],?_⟩
     (conv=>whnf)
     exact ⟨⟨rfl,trivial,trivial⟩,r2⟩
    ·(conv=>whnf)
     refine aK hm fun h12 hm=>?_
     (conv=>whnf)
     refine jG (ct:=[]) gV dk ?_
     (conv=>whnf)
     refine aK hm fun h13 hm=>?_
     (conv=>whnf)
     refine bR hm fun v5 hv5 hm=>?_
     refine ⟨_,_,(BU hv5),?_⟩
     (conv=>whnf)
     refine cK hm (fun c5 hm=>?_) (fun c5 hm=>?_)
     ·(conv=>whnf)
      refine aK hm fun h14 hm=>?_
      (conv=>whnf)
      have hm:r=((((((0:Int)+(1:Int))+(1:Int))+(1:Int))+(1:Int))+(1:Int)):=hm
      subst hm
      refine ⟨[],[],?_⟩
      (conv=>whnf)
      exact ⟨⟨rfl,trivial,trivial⟩,r2⟩
     ·(conv=>whnf)
      refine aK hm fun h15 hm=>?_
      (conv=>whnf)
      refine jG (ct:=[]) gV dk ?_
      (conv=>whnf)
      refine aK hm fun h16 hm=>?_
      (conv=>whnf)
      refine bR hm fun v6 hv6 hm=>?_
      refine ⟨_,_,(wI hv6),?_⟩
      (conv=>whnf)
      refine cK hm (fun c6 hm=>?_) (fun c6 hm=>?_)
      ·(conv=>whnf)
       refine aK hm fun h17 hm=>?_
       (conv=>whnf)
       have hm:r=(((((((0:Int)+(1:Int))+(1:Int))+(1:Int))+(1:Int))+(1:Int))+(1:Int)):=hm
       subst hm
       refine ⟨[],[],?_⟩
       (conv=>whnf)
       exact ⟨⟨rfl,trivial,trivial⟩,r2⟩
      ·(conv=>whnf)
       refine aK hm fun h18 hm=>?_
       (conv=>whnf)
       refine jG (ct:=[]) gV dk ?_
       (conv=>whnf)
       refine aK hm fun h19 hm=>?_
       (conv=>whnf)
       refine bR hm fun v7 hv7 hm=>?_
       refine ⟨_,_,(zF hv7),?_⟩
       (conv=>whnf)
       refine cK hm (fun c7 hm=>?_) (fun c7 hm=>?_)
       ·(conv=>whnf)
        refine aK hm fun h20 hm=>?_
        (conv=>whnf)
        have hm:r=((((((((0:Int)+(1:Int))+(1:Int))+(1:Int))+(1:Int))+(1:Int))+(1:Int))+(1:Int)):=hm
        subst hm
        refine ⟨[],[],?_⟩
        (conv=>whnf)
        exact ⟨⟨rfl,trivial,trivial⟩,r2⟩
       ·(conv=>whnf)
        refine aK hm fun h21 hm=>?_
        (conv=>whnf)
        refine jG (ct:=[]) gV dk ?_
        (conv=>whnf)
        refine aK hm fun h22 hm=>?_
        (conv=>whnf)
        refine bR hm fun v8 hv8 hm=>?_
        refine ⟨_,_,(yA hv8),?_⟩
        (conv=>whnf)
        refine cK hm (fun c8 hm=>?_) (fun c8 hm=>?_)
        ·(conv=>whnf)
         refine aK hm fun h23 hm=>?_
         (conv=>whnf)
         have hm:r=(((((((((0:Int)+(1:Int))+(1:Int))+(1:Int))+(1:Int))+(1:Int))+(1:Int))+(1:Int))+(1:Int)):=hm
         subst hm
         refine ⟨[],[],?_⟩
         (conv=>whnf)
         exact ⟨⟨rfl,trivial,trivial⟩,r2⟩
        ·(conv=>whnf)
         refine aK hm fun h24 hm=>?_
         (conv=>whnf)
         refine jG (ct:=[]) gV dk ?_
         (conv=>whnf)
         have hm:r=(0:Int):=hm
         subst hm
         refine ⟨[],[],?_⟩
         (conv=>whnf)
         exact ⟨⟨rfl,trivial,trivial⟩,r2⟩
theorem wK {at_:Int} {x_:Int} {o0_:(List Int)} {r:(Bool×(List Int))} (hm:xX at_ x_ o0_ r):S 96 [.cu 0 0 o0_.length false,iV at_,iV x_] [.row 1 o0_.length (bB iV 0 o0_)] (.bool r.1) [.row 1 r.2.length (bB iV 0 r.2)] :=sp Tryz.func96 rfl<|si hm (fun _ hm=>by cases hm;exact re) fun _ hm=>sn hm fun _ hm=>by cases hm;exact re
theorem mY {at_:Int} {x_:Bool} {o0_:(List Bool)} {r:(Bool×(List Bool))} (hm:o9 at_ x_ o0_ r):S 97 [.cu 0 0 o0_.length false,iV at_,.bool x_] [.row 1 o0_.length (bB AV.bool false o0_)] (.bool r.1) [.row 1 r.2.length (bB AV.bool false r.2)] :=sp Tryz.func97 rfl<|si hm (fun _ hm=>by cases hm;exact re) fun _ hm=>sn hm fun _ hm=>by cases hm;exact re
theorem Gn {u_:aZ} {a10_:Int} {a11_:Int} {a12_:Int} {r:Bool} (hm:Fg u_ a10_ a11_ a12_ r):S 99 [iR u_,.ro [iV a10_,iV a11_,iV a12_]] [] (.bool r) [] :=sp Tryz.func99 rfl<|by cases hm;exact re
theorem rG {s_:(List aZ)} {f0_:Int} {f1_:Int} {f2_:Int} {r:Int} (hm:mU s_ f0_ f1_ f2_ r):S 98 [dG s_,.fn 99 [.ro [iV f0_,iV f1_,iV f2_]]] [] (iV r) [] :=sp Tryz.func98 rfl<|l0 hm (fun g1=>⟨[(0,dG s_),(1,.fn 99 [.ro [iV f0_,iV f1_,iV f2_]]),(7,iV (s_.length:Int)),(8,iV g1)],[],0⟩) <|fun self1 g1 hm=>si hm (fun _ hm=>sn hm fun _ hm=>sb hm fun v3 hv3 hm=>cl (Gn hv3)<|si hm (fun _ hm=>by cases hm;exact re) fun _ hm=>sn hm fun _ hm=>le hm) fun _ hm=>by cases hm;exact re
theorem rH {s_:Nat} {i_:Int} {j_:Int} {o0_:(List aZ)} {r:(Nat×(List aZ))} (hm:mV s_ i_ j_ o0_ r):S 100 [.cu 0 0 s_ false,iV i_,iV j_] [.row 3 o0_.length (bB iR bY o0_)] (.cu 0 0 r.1 false) [.row 3 r.2.length (bB iR bY r.2)] :=sp Tryz.func100 rfl<|by
 have h6:=hm.1
 have hm:=hm.2
 refine aK hm fun h1 hm=>?_
 (conv=>whnf)
 refine cK hm (fun c1 hm=>?_) (fun c1 hm=>?_)
 ·(conv=>whnf)
  have hm:r=(s_,o0_):=hm
  subst hm
  refine ⟨[],[],?_⟩
  (conv=>whnf)
  exact ⟨⟨rfl,trivial,⟨⟨rfl,rfl,(fun _ _=>.refl _)⟩,trivial⟩⟩,⟨rfl,rfl,rfl,rfl,nofun⟩⟩
 ·(conv=>whnf)
  refine aK hm fun h2 hm=>?_
  (conv=>whnf)
  refine aK hm fun h3 hm=>?_
  (conv=>whnf)
  refine aK hm fun h4 hm=>?_
  (conv=>whnf)
  refine aK hm fun h5 hm=>?_
  (conv=>whnf)
  have hm:r=((i_.toNat+(s_ - j_.toNat)),(Pq (Pq o0_ ((0+i_.toNat)) ((o0_.drop ((0+j_.toNat))).take ((s_ - j_.toNat)))) ((0+(((i_.toNat+(s_ - j_.toNat)):Nat):Int).toNat)) (List.replicate ((((s_:Nat):Int).toNat - (((i_.toNat+(s_ - j_.toNat)):Nat):Int).toNat)) bY))):=hm
  subst hm
  refine ⟨[],[],?_⟩
  (conv=>whnf)
  exact ⟨⟨rfl,trivial,⟨⟨rfl,oz,(Xa oz (Xa rfl (fun _ _=>.refl _) oz (Vj (a:=(0+j_.toNat)) (N:=o0_.length) (fun _ _=>.refl _) (by first | omega | (simp; omega)))) oz (QW iR bY))⟩,trivial⟩⟩,⟨rfl,rfl,rfl,rfl,nofun⟩⟩
theorem EU {w_:nU} {o0x0_:(List av)} {o0x1_:(List aj)} {o0x2_:Int} {o0x3_:(List aV)} {o0x4_:(List bV)} {o0x5_:(List bH)} {o0x6_:(List aO)} {o0x7_:(List Int)} {o0x8_:Nat} {o0x9_:Bool} {o1_:(List Int)} {o2_:(List Bool)} {o3_:(List Int)} {o4_:(List aZ)} {o5_:(List Bool)} {o6_:(List Bool)} {r:(Bool×Nat×(List Int)×(List Bool)×(List Int)×(List Bool)×(List Bool)×(List aZ))} (hm:Di w_ o0x0_ o0x1_ o0x2_ o0x3_ o0x4_ o0x5_ o0x6_ o0x7_ o0x8_ o0x9_ o1_ o2_ o3_ o4_ o5_ o6_ r):S 40 [.ptr 0 0 8,vWrite w_] [.box [aS o0x0_,aL o0x1_,iV o0x2_,aX o0x3_,bQ o0x4_,bL o0x5_,eF o0x6_,aD o0x7_,.cu 1 0 o1_.length false,.cu 2 0 o2_.length false,.cu 3 0 o3_.length false,.cu 4 0 o0x8_ false,.cu 5 0 o5_.length false,.cu 6 0 o6_.length false,.bool o0x9_],.row 1 o1_.length (bB iV 0 o1_),.row 1 o2_.length (bB AV.bool false o2_),.row 1 o3_.length (bB iV 0 o3_),.row 3 o4_.length (bB iR bY o4_),.row 1 o5_.length (bB AV.bool false o5_),.row 1 o6_.length (bB AV.bool false o6_)] (.bool r.1) [.box [aS o0x0_,aL o0x1_,iV o0x2_,aX o0x3_,bQ o0x4_,bL o0x5_,eF o0x6_,aD o0x7_,.cu 1 0 r.2.2.1.length false,.cu 2 0 r.2.2.2.1.length false,.cu 3 0 r.2.2.2.2.1.length false,.cu 7 0 r.2.1 false,.cu 5 0 r.2.2.2.2.2.1.length false,.cu 6 0 r.2.2.2.2.2.2.1.length false,.bool o0x9_],.row 1 r.2.2.1.length (bB iV 0 r.2.2.1),.row 1 r.2.2.2.1.length (bB AV.bool false r.2.2.2.1),.row 1 r.2.2.2.2.1.length (bB iV 0 r.2.2.2.2.1),aaj,.row 1 r.2.2.2.2.2.1.length (bB AV.bool false r.2.2.2.2.2.1),.row 1 r.2.2.2.2.2.2.1.length (bB AV.bool false r.2.2.2.2.2.2.1),.row 3 r.2.2.2.2.2.2.2.length (bB iR bY r.2.2.2.2.2.2.2)] :=RY [20] Tryz.func40 rfl<|by
 have h16:=hm.1
 have hm:=hm.2
 refine cK hm (fun c1 hm=>?_) (fun c1 hm=>?_)
 ·(conv=>whnf)
  have hm:r=(false,o0x8_,o1_,o2_,o3_,o5_,o6_,o4_):=hm
  subst hm
  refine ⟨[],[(7,some 4)],?_⟩
  (conv=>whnf)
  exact ⟨⟨rfl,trivial,⟨⟨sr,sr,r2,sr,sr,sr,sr,sr,⟨rfl,rfl,rfl,rfl,nofun⟩,⟨rfl,rfl,rfl,rfl,nofun⟩,⟨rfl,rfl,rfl,rfl,nofun⟩,⟨rfl,rfl,rfl,rfl,nofun⟩,⟨rfl,rfl,rfl,rfl,nofun⟩,⟨rfl,rfl,rfl,rfl,nofun⟩,rfl,trivial⟩,⟨rfl,rfl,(fun _ _=>.refl _)⟩,⟨rfl,rfl,(fun _ _=>.refl _)⟩,⟨rfl,rfl,(fun _ _=>.refl _)⟩,⟨rfl,rfl,(fun _ _=>.refl _)⟩,⟨rfl,rfl,(fun _ _=>.refl _)⟩,⟨rfl,rfl,(fun _ _=>.refl _)⟩,trivial⟩⟩,rfl⟩
 ·(conv=>whnf)
  refine cK hm (fun c2 hm=>?_) (fun c2 hm=>?_)
  ·(conv=>whnf)
   refine bR hm fun v1 hv1 hm=>?_
   refine ⟨_,_,(wK hv1),?_⟩
   (conv=>whnf)
   have h1:=hm.1
   have hm:=hm.2
   have hm:r=(v1.1,o0x8_,v1.2,o2_,o3_,o5_,o6_,o4_):=hm
   subst hm
   refine ⟨[],[(7,some 4)],?_⟩
   (conv=>whnf)
   exact ⟨⟨rfl,trivial,⟨⟨sr,sr,r2,sr,sr,sr,sr,sr,⟨rfl,rfl,rfl,(by first | omega | (simp; omega)),nofun⟩,⟨rfl,rfl,rfl,rfl,nofun⟩,⟨rfl,rfl,rfl,rfl,nofun⟩,⟨rfl,rfl,rfl,rfl,nofun⟩,⟨rfl,rfl,rfl,rfl,nofun⟩,⟨rfl,rfl,rfl,rfl,nofun⟩,rfl,trivial⟩,⟨rfl,rfl,(fun _ _=>.refl _)⟩,⟨rfl,rfl,(fun _ _=>.refl _)⟩,⟨rfl,rfl,(fun _ _=>.refl _)⟩,⟨rfl,rfl,(fun _ _=>.refl _)⟩,⟨rfl,rfl,(fun _ _=>.refl _)⟩,⟨rfl,rfl,(fun _ _=>.refl _)⟩,trivial⟩⟩,rfl⟩
  ·(conv=>whnf)
   refine cK hm (fun c3 hm=>?_) (fun c3 hm=>?_)
   ·(conv=>whnf)
    refine bR hm fun v2 hv2 hm=>?_
    refine ⟨_,_,(wK hv2),?_⟩
    (conv=>whnf)
    have h2:=hm.1
    have hm:=hm.2
    have hm:r=(v2.1,o0x8_,o1_,o2_,v2.2,o5_,o6_,o4_):=hm
    subst hm
    refine ⟨[],[(7,some 4)],?_⟩
    (conv=>whnf)
    exact ⟨⟨rfl,trivial,⟨⟨sr,sr,r2,sr,sr,sr,sr,sr,⟨rfl,rfl,rfl,rfl,nofun⟩,⟨rfl,rfl,rfl,rfl,nofun⟩,⟨rfl,rfl,rfl,(by first | omega | (simp; omega)),nofun⟩,⟨rfl,rfl,rfl,rfl,nofun⟩,⟨rfl,rfl,rfl,rfl,nofun⟩,⟨rfl,rfl,rfl,rfl,nofun⟩,rfl,trivial⟩,⟨rfl,rfl,(fun _ _=>.refl _)⟩,⟨rfl,rfl,(fun _ _=>.refl _)⟩,⟨rfl,rfl,(fun _ _=>.refl _)⟩,⟨rfl,rfl,(fun _ _=>.refl _)⟩,⟨rfl,rfl,(fun _ _=>.refl _)⟩,⟨rfl,rfl,(fun _ _=>.refl _)⟩,trivial⟩⟩,rfl⟩
   ·(conv=>whnf)
    refine cK hm (fun c4 hm=>?_) (fun c4 hm=>?_)
    ·(conv=>whnf)
     refine cK hm (fun c5 hm=>?_) (fun c5 hm=>?_)
     ·(conv=>whnf)
      refine bR hm fun v3 hv3 hm=>?_
      refine ⟨_,_,(mY hv3),?_⟩
      (conv=>whnf)
      have h3:=hm.1
      have hm:=hm.2
      have hm:r=(((decide (w_.Value≤(1:Int)))&&v3.1),o0x8_,o1_,v3.2,o3_,o5_,o6_,o4_):=hm
      subst hm
      refine ⟨[],[(7,some 4)],?_⟩
      (conv=>whnf)
      exact ⟨⟨rfl,trivial,⟨⟨sr,sr,r2,sr,sr,sr,sr,sr,⟨rfl,rfl,rfl,rfl,nofun⟩,⟨rfl,rfl,rfl,(by first | omega | (simp; omega)),nofun⟩,⟨rfl,rfl,rfl,rfl,nofun⟩,⟨rfl,rfl,rfl,rfl,nofun⟩,⟨rfl,rfl,rfl,rfl,nofun⟩,⟨rfl,rfl,rfl,rfl,nofun⟩,rfl,trivial⟩,⟨rfl,rfl,(fun _ _=>.refl _)⟩,⟨rfl,rfl,(fun _ _=>.refl _)⟩,⟨rfl,rfl,(fun _ _=>.refl _)⟩,⟨rfl,rfl,(fun _ _=>.refl _)⟩,⟨rfl,rfl,(fun _ _=>.refl _)⟩,⟨rfl,rfl,(fun _ _=>.refl _)⟩,trivial⟩⟩,rfl⟩
     ·(conv=>whnf)
      refine aK hm fun h4 hm=>?_
      (conv=>whnf)
      have hm:r=(false,o0x8_,o1_,o2_,o3_,o5_,o6_,o4_):=hm
      subst hm
      refine ⟨[],[(7,some 4)],?_⟩
      (conv=>whnf)
      exact ⟨⟨rfl,trivial,⟨⟨sr,sr,r2,sr,sr,sr,sr,sr,⟨rfl,rfl,rfl,rfl,nofun⟩,⟨rfl,rfl,rfl,rfl,nofun⟩,⟨rfl,rfl,rfl,rfl,nofun⟩,⟨rfl,rfl,rfl,rfl,nofun⟩,⟨rfl,rfl,rfl,rfl,nofun⟩,⟨rfl,rfl,rfl,rfl,nofun⟩,rfl,trivial⟩,⟨rfl,rfl,(fun _ _=>.refl _)⟩,⟨rfl,rfl,(fun _ _=>.refl _)⟩,⟨rfl,rfl,(fun _ _=>.refl _)⟩,⟨rfl,rfl,(fun _ _=>.refl _)⟩,⟨rfl,rfl,(fun _ _=>.refl _)⟩,⟨rfl,rfl,(fun _ _=>.refl _)⟩,trivial⟩⟩,rfl⟩
    ·(conv=>whnf)
     refine cK hm (fun c6 hm=>?_) (fun c6 hm=>?_)
     ·(conv=>whnf)
      refine cK hm (fun c7 hm=>?_) (fun c7 hm=>?_)
      ·(conv=>whnf)
       refine bR hm fun v4 hv4 hm=>?_
       refine ⟨_,_,(mY hv4),?_⟩
       (conv=>whnf)
       have h5:=hm.1
       have hm:=hm.2
       have hm:r=(((decide (w_.Value≤(1:Int)))&&v4.1),o0x8_,o1_,o2_,o3_,v4.2,o6_,o4_):=hm
       subst hm
       refine ⟨[],[(7,some 4)],?_⟩
       (conv=>whnf)
       exact ⟨⟨rfl,trivial,⟨⟨sr,sr,r2,sr,sr,sr,sr,sr,⟨rfl,rfl,rfl,rfl,nofun⟩,⟨rfl,rfl,rfl,rfl,nofun⟩,⟨rfl,rfl,rfl,rfl,nofun⟩,⟨rfl,rfl,rfl,rfl,nofun⟩,⟨rfl,rfl,rfl,(by first | omega | (simp; omega)),nofun⟩,⟨rfl,rfl,rfl,rfl,nofun⟩,rfl,trivial⟩,⟨rfl,rfl,(fun _ _=>.refl _)⟩,⟨rfl,rfl,(fun _ _=>.refl _)⟩,⟨rfl,rfl,(fun _ _=>.refl _)⟩,⟨rfl,rfl,(fun _ _=>.refl _)⟩,⟨rfl,rfl,(fun _ _=>.refl _)⟩,⟨rfl,rfl,(fun _ _=>.refl _)⟩,trivial⟩⟩,rfl⟩
      ·(conv=>whnf)
       refine aK hm fun h6 hm=>?_
       (conv=>whnf)
       have hm:r=(false,o0x8_,o1_,o2_,o3_,o5_,o6_,o4_):=hm
       subst hm
       refine ⟨[],[(7,some 4)],?_⟩
       (conv=>whnf)
       exact ⟨⟨rfl,trivial,⟨⟨sr,sr,r2,sr,sr,sr,sr,sr,⟨rfl,rfl,rfl,rfl,nofun⟩,⟨rfl,rfl,rfl,rfl,nofun⟩,⟨rfl,rfl,rfl,rfl,nofun⟩,⟨rfl,rfl,rfl,rfl,nofun⟩,⟨rfl,rfl,rfl,rfl,nofun⟩,⟨rfl,rfl,rfl,rfl,nofun⟩,rfl,trivial⟩,⟨rfl,rfl,(fun _ _=>.refl _)⟩,⟨rfl,rfl,(fun _ _=>.refl _)⟩,⟨rfl,rfl,(fun _ _=>.refl _)⟩,⟨rfl,rfl,(fun _ _=>.refl _)⟩,⟨rfl,rfl,(fun _ _=>.refl _)⟩,⟨rfl,rfl,(fun _ _=>.refl _)⟩,trivial⟩⟩,rfl⟩
     ·(conv=>whnf)
      refine cK hm (fun c8 hm=>?_) (fun c8 hm=>?_)
      ·(conv=>whnf)
       refine cK hm (fun c9 hm=>?_) (fun c9 hm=>?_)
       ·(conv=>whnf)
        refine bR hm fun v5 hv5 hm=>?_
        refine ⟨_,_,(mY hv5),?_⟩
        (conv=>whnf)
        have h7:=hm.1
        have hm:=hm.2
        have hm:r=(((decide (w_.Value≤(1:Int)))&&v5.1),o0x8_,o1_,o2_,o3_,o5_,v5.2,o4_):=hm
        subst hm
        refine ⟨[],[(7,some 4)],?_⟩
        (conv=>whnf)
        exact ⟨⟨rfl,trivial,⟨⟨sr,sr,r2,sr,sr,sr,sr,sr,⟨rfl,rfl,rfl,rfl,nofun⟩,⟨rfl,rfl,rfl,rfl,nofun⟩,⟨rfl,rfl,rfl,rfl,nofun⟩,⟨rfl,rfl,rfl,rfl,nofun⟩,⟨rfl,rfl,rfl,rfl,nofun⟩,⟨rfl,rfl,rfl,(by first | omega | (simp; omega)),nofun⟩,rfl,trivial⟩,⟨rfl,rfl,(fun _ _=>.refl _)⟩,⟨rfl,rfl,(fun _ _=>.refl _)⟩,⟨rfl,rfl,(fun _ _=>.refl _)⟩,⟨rfl,rfl,(fun _ _=>.refl _)⟩,⟨rfl,rfl,(fun _ _=>.refl _)⟩,⟨rfl,rfl,(fun _ _=>.refl _)⟩,trivial⟩⟩,rfl⟩
       ·(conv=>whnf)
        refine aK hm fun h8 hm=>?_
        (conv=>whnf)
        have hm:r=(false,o0x8_,o1_,o2_,o3_,o5_,o6_,o4_):=hm
        subst hm
        refine ⟨[],[(7,some 4)],?_⟩
        (conv=>whnf)
        exact ⟨⟨rfl,trivial,⟨⟨sr,sr,r2,sr,sr,sr,sr,sr,⟨rfl,rfl,rfl,rfl,nofun⟩,⟨rfl,rfl,rfl,rfl,nofun⟩,⟨rfl,rfl,rfl,rfl,nofun⟩,⟨rfl,rfl,rfl,rfl,nofun⟩,⟨rfl,rfl,rfl,rfl,nofun⟩,⟨rfl,rfl,rfl,rfl,nofun⟩,rfl,trivial⟩,⟨rfl,rfl,(fun _ _=>.refl _)⟩,⟨rfl,rfl,(fun _ _=>.refl _)⟩,⟨rfl,rfl,(fun _ _=>.refl _)⟩,⟨rfl,rfl,(fun _ _=>.refl _)⟩,⟨rfl,rfl,(fun _ _=>.refl _)⟩,⟨rfl,rfl,(fun _ _=>.refl _)⟩,trivial⟩⟩,rfl⟩
      ·(conv=>whnf)
       refine cK hm (fun c10 hm=>?_) (fun c10 hm=>?_)
       ·(conv=>whnf)
        refine bR hm fun v6 hv6 hm=>?_
        refine ⟨_,_,(gq hv6),?_⟩
        (conv=>whnf)
        refine cK hm (fun c11 hm=>?_) (fun c11 hm=>?_)
        ·(conv=>whnf)
         have hm:r=(false,o0x8_,o1_,o2_,o3_,o5_,o6_,o4_):=hm
         subst hm
         refine ⟨[],[(7,some 4)],?_⟩
         (conv=>whnf)
         exact ⟨⟨rfl,trivial,⟨⟨sr,sr,r2,sr,sr,sr,sr,sr,⟨rfl,rfl,rfl,rfl,nofun⟩,⟨rfl,rfl,rfl,rfl,nofun⟩,⟨rfl,rfl,rfl,rfl,nofun⟩,⟨rfl,rfl,rfl,rfl,nofun⟩,⟨rfl,rfl,rfl,rfl,nofun⟩,⟨rfl,rfl,rfl,rfl,nofun⟩,rfl,trivial⟩,⟨rfl,rfl,(fun _ _=>.refl _)⟩,⟨rfl,rfl,(fun _ _=>.refl _)⟩,⟨rfl,rfl,(fun _ _=>.refl _)⟩,⟨rfl,rfl,(fun _ _=>.refl _)⟩,⟨rfl,rfl,(fun _ _=>.refl _)⟩,⟨rfl,rfl,(fun _ _=>.refl _)⟩,trivial⟩⟩,rfl⟩
        ·(conv=>whnf)
         refine LW (ct:=[20]) gV dk dk (nW w_ o1_ o2_ o3_ o5_ o6_) r (fun g1=>⟨[(0,.ptr 0 0 8),(3,.ptr 7 0 0)],[(0,some (.box [aS o0x0_,aL o0x1_,iV o0x2_,aX o0x3_,bQ o0x4_,bL o0x5_,eF o0x6_,aD o0x7_,.cu 1 0 o1_.length false,.cu 2 0 o2_.length false,.cu 3 0 o3_.length false,.cu 4 0 g1.1 false,.cu 5 0 o5_.length false,.cu 6 0 o6_.length false,.bool o0x9_])),(1,some (.row 1 o1_.length (bB iV 0 o1_))),(2,some (.row 1 o2_.length (bB AV.bool false o2_))),(3,some (.row 1 o3_.length (bB iV 0 o3_))),(4,some (.row 3 g1.2.length (bB iR bY g1.2))),(5,some (.row 1 o5_.length (bB AV.bool false o5_))),(6,some (.row 1 o6_.length (bB AV.bool false o6_))),(7,some (.box [iV w_.Kind,iV w_.Unit,iV w_.Value]))],8⟩) ?_ (fun g1 hm=>?_)
         ·(conv=>whnf)
          refine bR hm fun v9 hv9 hm=>?_
          refine ⟨_,_,((rG hv9).le ⟨(.sl oz (fun _=>rfl) nofun (le_rtake (f:=iR) (d:=bY) (by first | omega | (simp; omega)))),.refl _,trivial⟩ trivial),?_⟩
          (conv=>whnf)
          refine cK hm (fun c14 hm=>?_) (fun c14 hm=>?_)
          ·(conv=>whnf)
           refine aK hm fun h14 hm=>?_
           (conv=>whnf)
           refine bR hm fun v10 hv10 hm=>?_
           refine ⟨_,_,(rH hv10),?_⟩
           (conv=>whnf)
           have h15:=hm.1
           have hm:=hm.2
           exact ⟨(v10.1,v10.2),[],[],hm,⟨rfl,⟨r4,r4,trivial⟩,⟨⟨sr,sr,r2,sr,sr,sr,sr,sr,⟨rfl,rfl,rfl,rfl,nofun⟩,⟨rfl,rfl,rfl,rfl,nofun⟩,⟨rfl,rfl,rfl,rfl,nofun⟩,⟨rfl,rfl,rfl,rfl,nofun⟩,⟨rfl,rfl,rfl,rfl,nofun⟩,⟨rfl,rfl,rfl,rfl,nofun⟩,rfl,trivial⟩,⟨rfl,rfl,(fun _ _=>.refl _)⟩,⟨rfl,rfl,(fun _ _=>.refl _)⟩,⟨rfl,rfl,(fun _ _=>.refl _)⟩,⟨rfl,rfl,(fun _ _=>.refl _)⟩,⟨rfl,rfl,(fun _ _=>.refl _)⟩,⟨rfl,rfl,(fun _ _=>.refl _)⟩,⟨r2,r2,r2,trivial⟩,trivial⟩⟩⟩
          ·(conv=>whnf)
           exact ⟨(o0x8_,o4_),[],[],hm,⟨rfl,⟨r4,r4,trivial⟩,⟨⟨sr,sr,r2,sr,sr,sr,sr,sr,⟨rfl,rfl,rfl,rfl,nofun⟩,⟨rfl,rfl,rfl,rfl,nofun⟩,⟨rfl,rfl,rfl,rfl,nofun⟩,⟨rfl,rfl,rfl,rfl,nofun⟩,⟨rfl,rfl,rfl,rfl,nofun⟩,⟨rfl,rfl,rfl,rfl,nofun⟩,rfl,trivial⟩,⟨rfl,rfl,(fun _ _=>.refl _)⟩,⟨rfl,rfl,(fun _ _=>.refl _)⟩,⟨rfl,rfl,(fun _ _=>.refl _)⟩,⟨rfl,rfl,(fun _ _=>.refl _)⟩,⟨rfl,rfl,(fun _ _=>.refl _)⟩,⟨rfl,rfl,(fun _ _=>.refl _)⟩,⟨r2,r2,r2,trivial⟩,trivial⟩⟩⟩
         ·(conv=>whnf)
          have h13:=hm.1
          have hm:=hm.2
          refine cK hm (fun c13 hm=>?_) (fun c13 hm=>?_)
          ·(conv=>whnf)
           refine aK hm fun h11 hm=>?_
           (conv=>whnf)
           refine aK hm fun h12 hm=>?_
           (conv=>whnf)
           have hm:r=(true,(g1.1+1),o1_,o2_,o3_,o5_,o6_,((g1.2.take (g1.1))++([(⟨(-1:Int),(⟨w_.Unit,(w_.Value - (1:Int))⟩:oW)⟩:aZ)]:List aZ))):=hm
           subst hm
           refine ⟨[],[(7,some 136)],?_⟩
           (conv=>whnf)
           exact ⟨⟨rfl,trivial,⟨⟨sr,sr,r2,sr,sr,sr,sr,sr,⟨rfl,rfl,rfl,rfl,nofun⟩,⟨rfl,rfl,rfl,rfl,nofun⟩,⟨rfl,rfl,rfl,rfl,nofun⟩,⟨rfl,rfl,rfl,rfl,nofun⟩,⟨rfl,rfl,rfl,rfl,nofun⟩,⟨rfl,rfl,rfl,rfl,nofun⟩,rfl,trivial⟩,⟨rfl,rfl,(fun _ _=>.refl _)⟩,⟨rfl,rfl,(fun _ _=>.refl _)⟩,⟨rfl,rfl,(fun _ _=>.refl _)⟩,⟨rfl,rfl,(fun _ _=>.refl _)⟩,⟨rfl,rfl,(fun _ _=>.refl _)⟩,⟨rfl,oz,(le_appG oz (le_rtake (f:=iR) (d:=bY) (by first | omega | (simp; omega))) rfl (le_litG iR bY [(⟨(-1:Int),(⟨w_.Unit,(w_.Value - (1:Int))⟩:oW)⟩:aZ)]))⟩,trivial⟩⟩,rfl⟩
          ·(conv=>whnf)
           have hm:r=(true,g1.1,o1_,o2_,o3_,o5_,o6_,g1.2):=hm
           subst hm
           refine ⟨[],[(7,some 4)],?_⟩
           (conv=>whnf)
           exact ⟨⟨rfl,trivial,⟨⟨sr,sr,r2,sr,sr,sr,sr,sr,⟨rfl,rfl,rfl,rfl,nofun⟩,⟨rfl,rfl,rfl,rfl,nofun⟩,⟨rfl,rfl,rfl,rfl,nofun⟩,⟨rfl,rfl,rfl,rfl,nofun⟩,⟨rfl,rfl,rfl,rfl,nofun⟩,⟨rfl,rfl,rfl,rfl,nofun⟩,rfl,trivial⟩,⟨rfl,rfl,(fun _ _=>.refl _)⟩,⟨rfl,rfl,(fun _ _=>.refl _)⟩,⟨rfl,rfl,(fun _ _=>.refl _)⟩,⟨rfl,rfl,(fun _ _=>.refl _)⟩,⟨rfl,rfl,(fun _ _=>.refl _)⟩,⟨rfl,rfl,(fun _ _=>.refl _)⟩,trivial⟩⟩,rfl⟩
       ·(conv=>whnf)
        have hm:r=(false,o0x8_,o1_,o2_,o3_,o5_,o6_,o4_):=hm
        subst hm
        refine ⟨[],[(7,some 4)],?_⟩
        (conv=>whnf)
        exact ⟨⟨rfl,trivial,⟨⟨sr,sr,r2,sr,sr,sr,sr,sr,⟨rfl,rfl,rfl,rfl,nofun⟩,⟨rfl,rfl,rfl,rfl,nofun⟩,⟨rfl,rfl,rfl,rfl,nofun⟩,⟨rfl,rfl,rfl,rfl,nofun⟩,⟨rfl,rfl,rfl,rfl,nofun⟩,⟨rfl,rfl,rfl,rfl,nofun⟩,rfl,trivial⟩,⟨rfl,rfl,(fun _ _=>.refl _)⟩,⟨rfl,rfl,(fun _ _=>.refl _)⟩,⟨rfl,rfl,(fun _ _=>.refl _)⟩,⟨rfl,rfl,(fun _ _=>.refl _)⟩,⟨rfl,rfl,(fun _ _=>.refl _)⟩,⟨rfl,rfl,(fun _ _=>.refl _)⟩,trivial⟩⟩,rfl⟩
end Go.Proofs.YtfblhejmclcdmaaGreatDoor

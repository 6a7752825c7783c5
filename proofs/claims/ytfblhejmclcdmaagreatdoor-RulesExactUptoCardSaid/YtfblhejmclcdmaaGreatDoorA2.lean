/- An abstract machine over the model's code, that it is sound; models of the functions and their proofs. -/
import Derived.Test.YtfblhejmclcdmaaGreatDoorA1
import Derived.MapKept
import Derived.OrdersIn
import Derived.Sort.LoopGhostIn
import Derived.RangeFuncLeaves
import Derived.RangeFuncNested
import Derived.LoopNIn
set_option linter.unusedVariables false
set_option linter.unusedSimpArgs false



namespace Go.Ab
open Go.MapKept
section
variable {P:Program} {cfg:rU} {cx:Ctx} {H:Nat→Option cB} {D:Nat→Prop} {w:World} {I:Nat→Prop} {O:OM} {Sp:kY}
variable {nid:Nat} {o:Oper} {a:Act} {ρ:Operand→AV} {v:AV} {ups:jh} {r:List Nat}
theorem acv {z:ZK} {es:Nat} {c:AV} (h:ab5 z es c=true):Le c (adH z es c):=by
 unfold ab5 at h;split at h
 ·exact .refl _
 ·rename_i k k' n;have:k=k':=of_decide_eq_true h;subst this;exact .refl _
 ·exact .refl _
 ·rename_i es' n f g;split at h
  ·rename_i hb;have:=Nat.eq_of_beq_eq_true hb;subst this;exact .sl rfl (fun _=>rfl) nofun fun _ _=>.refl _
  ·have:=Nat.eq_of_beq_eq_true h;subst this;exact .sl rfl (fun hn=>absurd rfl hn) nofun fun _ hi=>absurd hi (Nat.not_lt_zero _)
 ·cases h
theorem YP {zs:List ZK} {sz:Nat} {all:List AV}:∀(cs:List AV) (k:Nat),ab6 zs sz all k cs=true→∀j,j<cs.length→ab5 (aae zs ((k+j).mod sz)) (Sm sz ((k+j).mod sz) 0 all) (nth cs j)=true:=by
 intro cs;induction cs with
 | nil=>intro k _ j hj; exact absurd hj (Nat.not_lt_zero _)
 | cons c cs ih=>
  intro k h j hj;unfold ab6 at h;split at h
  ·rename_i hf;cases j with
   | zero=>exact hf
   | succ j=>
    have:=ih (k+1) h j (by simpa using hj);rw [show k+(j+1)=k+1+j by omega];exact this
  ·cases h
theorem aaG (all:List AV) (b sz:Nat):∀(zs:List ZK) (j0 j:Nat),j<zs.length→nth (UJ all b sz j0 zs) j=adH (aae zs j) (Sm sz (j0+j) 0 all) (nth all (b+(j0+j))):=by
 intro zs;induction zs with
 | nil=>intro j0 j h; exact absurd h (Nat.not_lt_zero _)
 | cons z zs ih=>
  intro j0 j h;cases j with
  | zero=>rfl
  | succ j=>
   have:=ih (j0+1) j (by simpa using h);simp only [UJ,nth,aae];rw [this,show j0+1+j=j0+(j+1) by omega]
theorem NK (all:List AV) (b sz:Nat):∀(zs:List ZK) (j0:Nat),(UJ all b sz j0 zs).length=zs.length:=by
 intro zs;induction zs with
 | nil=>intro _; rfl
 | cons z zs ih=>intro j0; simp only [UJ,List.length_cons,ih]
theorem aaH (hc:fq P cfg) (hR:Rel cfg cx H D w I O) {t:TypeId} {x ix:Operand} (ho:o.op=.index t x ix) (hx:Rep w I O D (ρ x) (a.eval x)) (hix:Rep w I O D (ρ ix) (a.eval ix))
  (h:dQ Sp H (eP cfg nid (.index t x ix) ρ) v ups r):dR P cfg cx H D w I O nid o a v ups:=by
 simp only [eP] at h;obtain ⟨ti,ht,h1⟩:=h.jR;obtain ⟨_,dd,_,_,hud,_,_,_,_,_,_,_,hm⟩:=(hc.ty t ti ht).ex;split at h1
 ·rename_i b k i e1 e2 e3;rw [e1] at hm;have hm:dd=.string:=hm;subst hm;rw [e2] at hx;rw [e3] at hix;have hxv:=hx.wM;have hixv:=hix.fP;obtain ⟨⟨hn0,hn1⟩,rfl,rfl⟩:=h1.fO;refine dR.dD (x:=.int .u8 (eO b i.toNat)) hR ?_ (.pure (.int _ _));have hlt:i.toNat<b.size:=by omega
  have hb:b[i.toNat]? = some b[i.toNat]:=by simp [hlt]
  simp [execOp,ho,hxv,hixv,Instr.index,asIntOf,bO hud,hn0,eO,hb]
 ·rename_i n et cs k i e1 e2 e3;rw [e1] at hm;have hm:dd=.array n et:=hm;subst hm;rw [e2] at hx;rw [e3] at hix;obtain ⟨vs,hxv,hl,hr⟩:=hx.qH;have hixv:=hix.fP;obtain ⟨ei,he,h2⟩:=h1.jR;obtain ⟨ie,de,hie,hude,hde,hsze⟩:=hc.agg he;unfold aaf at h2;obtain ⟨c0,h2⟩:=h2.bM;obtain ⟨z0,z1⟩:=FH c0;obtain ⟨c1,h3⟩:=h2.bM;obtain ⟨c2,h4⟩:=h3.bM;obtain ⟨c3,h5⟩:=h4.bM;have c1:=Nat.eq_of_beq_eq_true c1;have c2:=Nat.eq_of_beq_eq_true c2;obtain ⟨⟨hn0,hn1⟩,rfl,rfl⟩:=h5.fO;have hlt:i.toNat<n:=by omega
  have hle:i.toNat*ei.size+ei.size≤cs.length:=by
   rw [c1,← Nat.succ_mul];exact Nat.mul_le_mul_right _ hlt
  have hcell:∀j,j<ei.size→Rep w I O D (nth (UJ cs (i.toNat*ei.size) ei.size 0 ei.zero) j) (vs.getD (i.toNat*ei.size+j) Go.undef):=by
   intro j hj;rw [aaG _ _ _ _ _ _ om,Nat.zero_add];have hf:=YP cs 0 c3 (i.toNat*ei.size+j) om;have hmod:(0+(i.toNat*ei.size+j)).mod ei.size=j:=by
    show (0+(i.toNat*ei.size+j)) % ei.size=j;rw [Nat.zero_add,Nat.mul_comm,Nat.mul_add_mod];exact Nat.mod_eq_of_lt hj
   rw [hmod] at hf;exact (acv hf).rep (hr _ om)
  have hag:=Mj hude w;rw [hde] at hag;have hrun:∀u,(part et vs (i.toNat*ei.size)).run P w=.ok u w→(execOp a.eval o).run P w=.ok (.value u) w:=by
   intro u hu;rw [← hsze] at hu;have hi':(0:Int)≤i∧i<n:=⟨hn0,hn1⟩;have hz:eF (w:=w) hie=eF (w:=w) hie:=rfl;simp only [execOp,ho,hxv,hixv,Instr.index,asIntOf,Sem.run_bind,Sem.run_pure,Result.andThen_ok,bO hud,hi',and_self,if_true,eF hie,hu]
  cases ha:ei.agg with
  | true=>
   rw [ha] at hag;have e1:(part et vs (i.toNat*ei.size)).run P w=.ok (.agg (vs.extract (i.toNat*ei.size) (i.toNat*ei.size+ei.size))) w:=by simp [part,Sem.run_bind,hag,eF hie,hsze]
   refine dR.dD hR (hrun _ e1) (.agg ?_ fun j hj=>?_)
   ·rw [NK,c2]; simp; omega
   ·rw [NK,c2] at hj;have h6:=hcell j hj;have h4:i.toNat*ei.size+j<vs.size:=by omega
    have h5:(vs.extract (i.toNat*ei.size) (i.toNat*ei.size+ei.size))[j]? = vs[i.toNat*ei.size+j]? := by
     rw [Array.getElem?_extract,if_pos om]
    simp only [Array.getD_eq_getD_getElem?, h5];simpa [h4] using h6
  | false=>
   rw [ha] at hag;have hs1:ei.size=1:=z1 ha;have h4:i.toNat*ei.size<vs.size:=by omega
   have e1:(part et vs (i.toNat*ei.size)).run P w=.ok (vs.getD (i.toNat*ei.size) Go.undef) w:=by simp [part,Sem.run_bind,hag,Array.getElem?_eq_getElem h4]
   exact dR.dD hR (hrun _ e1) (hcell 0 om)
 ·exact (dQ.aR h1).elim
theorem Qa {t:TypeId} {k:Jf→Jf→Pg} (h:dQ Sp H (aac cfg t k) v ups r):∃ti kt et ki ei,look cfg.ty t=some ti∧ti.desc=.map kt et∧look cfg.ty kt=some ki∧look cfg.ty et=some ei∧ei.agg=false∧dQ Sp H (k ki ei) v ups r:=by
 unfold aac at h;split at h
 ·rename_i ti ht;split at h
  ·rename_i kt et hd;obtain ⟨ki,hk,h1⟩:=h.jR;obtain ⟨ei,he,h2⟩:=h1.jR;obtain ⟨ha,h3⟩:=h2.bM;exact ⟨ti,kt,et,ki,ei,ht,hd,hk,he,by simpa using ha,h3⟩
  ·exact (dQ.aR h).elim
 ·exact (dQ.aR h).elim
theorem Xc (hR:Rel cfg cx H D w I O) (hn:¬ D nid) {t:TypeId} (ho:o.op=.makeMap t none) (h:dQ Sp H (eP cfg nid (.makeMap t none) ρ) v ups r):dR P cfg cx H D w I O nid o a v ups:=by
 simp only [eP] at h;obtain ⟨ti,kt,et,ki,ei,ht,hd,hk,he,_,h1⟩:=Qa h;obtain ⟨rfl,rfl⟩:=h1.jy;intro next Q hnx
 have hrun:(execOp a.eval o).run P w=.ok (.value (.map (some w.heap.size))) (w.alloc (.map #[] 0)):=by
  simp [execOp,ho,Instr.makeMap,newObj];rfl
 have hat:(w.alloc (.map #[] 0)).heap[w.heap.size]? = some (.map #[] 0):=by
  show (w.heap.push (.map #[] 0))[w.heap.size]? = _;simp
 refine oC hrun (hnx _ _ I (setO O nid ⟨0,1,some (w.heap.size,0,0)⟩) (hR.ads hn _ _ _ 0 rfl ?_) (fun u y hu=>hu.push hR _ _ hn) (.mref (p:=⟨0,1,some (w.heap.size,0,0)⟩) (by simp [setO]) rfl));exact ⟨rfl,_,_,_,#[],0,rfl,hat,⟨fun e he=>by simp at he,by simp,fun k n hk=>by cases hk⟩⟩
theorem SE {u:AV} {k:mo} {x:Value} (h:keyOf u=some k) (hx:Rep w I O D u x):x=Fz k:=by
 unfold keyOf at h;split at h
 ·cases h; exact hx.wM
 ·cases h; exact hx.fP
 ·cases h
theorem U9 (hc:fq P cfg) {kt:TypeId} {ki:Jf} (hk:look cfg.ty kt=some ki) {k:mo} (h:Cy ki.desc k=true):∃d,P.underlying kt=some d∧∀k',Cy ki.desc k'=true→IsKey d (Fz k'):=by
 obtain ⟨_,d,_,_,hu,_,_,_,_,_,_,_,hm⟩:=(hc.ty kt ki hk).ex;refine ⟨d,hu,fun k' h'=>?_⟩;generalize ki.desc=dd at h h' hm;cases dd with
 | str=>
  have hm:d=.string:=hm;subst hm;cases k' with
  | s b=>trivial
  | i n=>cases h'
 | int kk=>
  have hm:d=.int kk:=hm;subst hm;cases k' with
  | s b=>cases h'
  | i n=>cases kk<;>first | (cases h'; done) | rfl
 | _=>cases k<;>cases h
theorem aaI {z:List ZK} (hz:Tw z=true) (n:Int):PRep w I (aeD z n) (Oe z n):=by
 match z,hz with
 | [.bool],_=>exact .bool _
 | [.int k],_=>exact .int _ _
end
end Go.Ab

namespace Go.Ab
open Go.MapKept
section
variable {P:Program} {cfg:rU} {cx:Ctx} {H:Nat→Option cB} {D:Nat→Prop} {w:World} {I:Nat→Prop} {O:OM} {Sp:kY}
variable {nid:Nat} {o:Oper} {a:Act} {ρ:Operand→AV} {v:AV} {ups:jh} {r:List Nat}
theorem aaJ {k k':mo} (h:Fz k=Fz k'):k=k':=by
 cases k<;>cases k'<;>cases h<;>rfl
theorem map_find {d:TypeDesc} {kd:TD} {z:List ZK} {f:mo→Option Int} {es:Array MapEntry} (hm:WC kd z f es) {k:mo} (hkeys:∀k',Cy kd k'=true→IsKey d (Fz k')) (hkf:Cy kd k=true):
  (Instr.findNow d (Fz k) es.toList 0=some none∧f k=none∧∀e∈es.toList,e.key≠Fz k)∨∃j e n,Instr.findNow d (Fz k) es.toList 0=some (some (j,Oe z n))∧es[j]? = some e∧e.key=Fz k∧f k=some n∧e.val=Oe z n:=by
 rcases findNow_spec (hkeys k hkf) es.toList 0 (fun e he=>by
  obtain ⟨k',n',q1,q2,_⟩:=hm.keys e he;rw [q1];exact hkeys k' q2) with ⟨g1,g2⟩ | ⟨j,e,g1,g2,g3⟩
 ·refine .inl ⟨g1,?_,g2⟩;cases hf:f k with
  | none=>rfl
  | some n=>
   obtain ⟨e,he1,he2⟩:=hm.all k n hf;exact absurd he2 (g2 e he1)
 ·obtain ⟨k',n',q1,q2,q3,q4⟩:=hm.keys e (List.mem_of_getElem? g2);rw [g3] at q1;have:=aaJ q1;subst this;exact .inr ⟨j,e,n',by rw [g1,q4]; simp,by simpa using g2,g3,q3,q4⟩
theorem Va {z:List ZK} (hz:Tw z=true) {x:Value} (h1:x.cells=#[x]) (hm:FB (z.getD 0 .other) (x.cells.getD 0 Go.undef)):x=Oe z 0:=by
 rw [h1] at hm;match z,hz with
 | [.bool],_=>exact hm
 | [.int k],_=>exact hm
theorem YQ (hc:fq P cfg) (hR:Rel cfg cx H D w I O) {t:TypeId} {x ix:Operand} (ho:o.op=.lookup t x ix false) (hx:Rep w I O D (ρ x) (a.eval x)) (hix:Rep w I O D (ρ ix) (a.eval ix))
  (h:dQ Sp H (eP cfg nid (.lookup t x ix false) ρ) v ups r):dR P cfg cx H D w I O nid o a v ups:=by
 simp only [eP] at h;obtain ⟨ti,kt,et,ki,ei,ht,hd,hk,he,hag,h1⟩:=Qa h;split at h1
 ·rename_i ob k e1 e2;rw [e1] at hx;have hkv:=SE e2 hix;obtain ⟨hkf,h2⟩:=h1.bM;obtain ⟨obj,_,hob,h3⟩:=h2.kK;obtain ⟨p,hp,hO⟩:=hR.live hob;cases obj with
  | box=>exact (dQ.aR h3).elim
  | row=>exact (dQ.aR h3).elim
  | map kd z f=>
   obtain ⟨c1,h4⟩:=h3.bM;obtain ⟨c2,h5⟩:=h4.bM;obtain ⟨c3,h6⟩:=h5.bM;obtain ⟨rfl,rfl⟩:=h6.dN;have c1:=of_decide_eq_true c1;have c2:=of_decide_eq_true c2;obtain ⟨hn,b,bo,sz,es,clock,hpl,hw,hm⟩:=hO;obtain ⟨b',bo',sz',hpl',hxv⟩:=hx.PU hp;rw [hpl] at hpl';cases hpl';obtain ⟨_,dd,_,_,hud,_,_,_,_,_,_,_,hmt⟩:=(hc.ty t ti ht).ex;rw [hd] at hmt;have hmt:dd=.map kt et:=hmt;subst hmt;obtain ⟨d,hudk,hkeys⟩:=U9 hc hk hkf;obtain ⟨ie,_,ze,hie,_,hze,hse,_,_,hzc,hzl,hzm,_⟩:=(hc.ty et ei he).ex;have hz1:=(hc.ty et ei he).one hag ie ze hie hze;refine dR.dD (x:=Oe z (wL f k)) hR ?_ (.pure (aaI c3 _));rw [← c1] at hkeys hkf;rcases map_find hm hkeys hkf with ⟨g1,g2,_⟩ | ⟨j,e,n,g1,g2,g3,g4,g5⟩
   ·have hz0:ze=Oe z (wL f k):=by
     have e0:wL f k=0:=by unfold wL; rw [g2]; rfl
     rw [e0];refine Va c3 hz1 ?_;have hsz:0<ei.size:=by
      have:ze.cells.size=1:=by rw [hz1]; rfl
      omega
     have:=hzm 0 hsz;rwa [← c2] at this
    simp [execOp,ho,hxv,hkv,Instr.lookup,bO hud,MapKept.run_getObj_map hw,run_checkKey hudk (hkeys k hkf),run_findKey hudk g1,zeroValue,typeInfo,hie,hze,hz0]
   ·have e0:wL f k=n:=by unfold wL; rw [g4]; rfl
    simp [execOp,ho,hxv,hkv,Instr.lookup,bO hud,MapKept.run_getObj_map hw,run_checkKey hudk (hkeys k hkf),run_findKey hudk g1,e0]
 ·exact (dQ.aR h1).elim
theorem aaK {z:List ZK} {u:AV} {n:Int} {x:Value} (h:adG z u=some n) (hx:Rep w I O D u x):x=Oe z n:=by
 unfold adG at h;split at h
 ·split at h
  ·rename_i b _;cases h;rw [hx.jw];cases b<;>rfl
  ·cases h
 ·split at h
  ·split at h
   ·rename_i k m k' _ e;cases h;have:=of_decide_eq_true e;subst this;rw [hx.fP];rfl
   ·cases h
  ·cases h
 ·cases h
theorem SF (f:mo→Option Int) (k:mo) (n:Int):Me f k n k=some n:=by simp [Me]
theorem O6 (f:mo→Option Int) {k k':mo} (n:Int) (h:k'≠k):Me f k n k'=f k':=by simp [Me,h]
theorem TN (hc:fq P cfg) (hR:Rel cfg cx H D w I O) {t:TypeId} {x ix y:Operand} (ho:o.op=.mapUpdate t x ix y) (hx:Rep w I O D (ρ x) (a.eval x)) (hix:Rep w I O D (ρ ix) (a.eval ix)) (hy:Rep w I O D (ρ y) (a.eval y))
  (h:dQ Sp H (eP cfg nid (.mapUpdate t x ix y) ρ) v ups r):dR P cfg cx H D w I O nid o a v ups:=by
 simp only [eP] at h;obtain ⟨ti,kt,et,ki,ei,ht,hd,hk,he,hag,h1⟩:=Qa h;split at h1
 ·rename_i ob k n e1 e2 e3;rw [e1] at hx;have hkv:=SE e2 hix;have hyv:=aaK e3 hy;obtain ⟨hkf,h2⟩:=h1.bM;obtain ⟨obj,_,hob,h3⟩:=h2.kK;obtain ⟨p,hp,hO⟩:=hR.live hob;cases obj with
  | box=>exact (dQ.aR h3).elim
  | row=>exact (dQ.aR h3).elim
  | map kd z f=>
   obtain ⟨c1,h4⟩:=h3.bM;obtain ⟨c2,h5⟩:=h4.bM;obtain ⟨c3,h6⟩:=h5.bM;obtain ⟨rfl,rfl⟩:=h6.jy;have c1:=of_decide_eq_true c1;have c2:=of_decide_eq_true c2;rw [← c2] at hyv;have hmaps:=fun bb bo sz hpl=>hR.maps ob kd z f p bb bo sz hob hp hpl;obtain ⟨hn,b,bo,sz,es,clock,hpl,hw,hm⟩:=hO;obtain ⟨hb0,hbK⟩:=hmaps b bo sz hpl;obtain ⟨b',bo',sz',hpl',hxv⟩:=hx.PU hp;rw [hpl] at hpl';cases hpl';obtain ⟨_,dd,_,_,hud,_,_,_,_,_,_,_,hmt⟩:=(hc.ty t ti ht).ex;rw [hd] at hmt;have hmt:dd=.map kt et:=hmt;subst hmt;obtain ⟨d,hudk,hkeys⟩:=U9 hc hk hkf;rw [← c1] at hkeys hkf;obtain ⟨es',clock',hrun,hm'⟩:∃es' clock',(execOp a.eval o).run P w=.ok .skip { w with heap:=w.heap.setIfInBounds b (.map es' clock') }∧WC kd z (Me f k n) es':=by
    rcases map_find hm hkeys hkf with ⟨g1,g2,g3⟩ | ⟨j,e,m,g1,g2,g3,g4,g5⟩
    ·refine ⟨es.push { key:=Fz k,val:=Oe z n,born:=clock },clock+1,?_,?_⟩
     ·simp [execOp,ho,hxv,hkv,hyv,Instr.mapUpdate,bO hud,MapKept.run_getObj_map hw,run_checkKey hudk (hkeys k hkf),run_findKey hudk g1,MapKept.run_setObj_map _ hw]
     ·refine ⟨fun e he=>?_,?_,fun k' n' h'=>?_⟩
      ·simp only [Array.toList_push,List.mem_append,List.mem_singleton] at he;rcases he with he | rfl
       ·obtain ⟨k',n',q1,q2,q3,q4⟩:=hm.keys e he;have hne:k'≠k:=fun e'=>g3 e he (by rw [q1,e']);exact ⟨k',n',q1,q2,by rw [O6 f n hne]; exact q3,q4⟩
       ·exact ⟨k,n,rfl,hkf,SF f k n,rfl⟩
      ·simp only [Array.toList_push];refine List.pairwise_append.2 ⟨hm.uniq,by simp,fun x hx y hy=>?_⟩;simp only [List.mem_singleton] at hy;subst hy;exact g3 x hx
      ·simp only [Array.toList_push,List.mem_append,List.mem_singleton];by_cases hkk:k'=k
       ·subst hkk;exact ⟨_,.inr rfl,rfl⟩
       ·rw [O6 f n hkk] at h';obtain ⟨e,h1,h2⟩:=hm.all k' n' h';exact ⟨e,.inl h1,h2⟩
    ·have hj:j<es.size:=by
      rcases Nat.lt_or_ge j es.size with h | h
      ·exact h
      ·rw [Array.getElem?_eq_none h] at g2; cases g2
     refine ⟨es.modify j fun e=>{ e with key:=Fz k,val:=Oe z n },clock,?_,?_⟩
     ·simp [execOp,ho,hxv,hkv,hyv,Instr.mapUpdate,bO hud,MapKept.run_getObj_map hw,run_checkKey hudk (hkeys k hkf),run_findKey hudk g1,g2,g3,run_keyThatStays (hkeys k hkf),MapKept.run_setObj_map _ hw]
     ·have hkey:(es.modify j fun e=>{ e with key:=Fz k,val:=Oe z n }).toList.map (·.key)=es.toList.map (·.key):=modify_keys j _ fun e' he'=>by rw [g2] at he'; cases he'; exact g3.symm
      have huniq:∀i e',es[i]? = some e'→e'.key=Fz k→i=j:=by
       intro i e' hi hk';have hpw:=List.pairwise_iff_getElem.1 hm.uniq;obtain ⟨hi1,hi2⟩:=Array.getElem?_eq_some_iff.1 hi;obtain ⟨hj1,hj2⟩:=Array.getElem?_eq_some_iff.1 g2;rcases Nat.lt_trichotomy i j with h | h | h
       ·exact absurd (show es.toList[i].key=es.toList[j].key by rw [Array.getElem_toList,Array.getElem_toList,hi2,hj2,hk',g3]) (hpw i j (by simpa using hi1) (by simpa using hj1) h)
       ·exact h
       ·exact absurd (show es.toList[j].key=es.toList[i].key by rw [Array.getElem_toList,Array.getElem_toList,hi2,hj2,hk',g3]) (hpw j i (by simpa using hj1) (by simpa using hi1) h)
      refine ⟨fun e' he'=>?_,?_,fun k' n' h'=>?_⟩
      ·obtain ⟨i,hi,hie⟩:=List.getElem_of_mem he';have hi2:(es.modify j fun e=>{ e with key:=Fz k,val:=Oe z n })[i]? = some e':=by
        rw [← Array.getElem?_toList,List.getElem?_eq_getElem hi,hie]
       rw [Array.getElem?_modify] at hi2;by_cases hij:j=i
       ·subst hij;rw [if_pos rfl,g2] at hi2;simp only [Option.map_some,Option.some.injEq] at hi2;subst hi2;exact ⟨k,n,rfl,hkf,SF f k n,rfl⟩
       ·rw [if_neg hij] at hi2;obtain ⟨k',n',q1,q2,q3,q4⟩:=hm.keys e' (Array.mem_toList_iff.2 (Array.mem_of_getElem? hi2));have hne:k'≠k:=fun e''=>hij (huniq i e' hi2 (by rw [q1,e''])).symm;exact ⟨k',n',q1,q2,by rw [O6 f n hne]; exact q3,q4⟩
      ·have h1:(es.toList.map (·.key)).Pairwise (· ≠ ·):=List.pairwise_map.2 hm.uniq;rw [← hkey] at h1;exact List.pairwise_map.1 h1
      ·have hmem:Fz k'∈es.toList.map (·.key):=by
        by_cases hkk:k'=k
        ·subst hkk;exact List.mem_map.2 ⟨e,Array.mem_toList_iff.2 (Array.mem_of_getElem? g2),g3⟩
        ·rw [O6 f n hkk] at h';obtain ⟨e',h1,h2⟩:=hm.all k' n' h';exact List.mem_map.2 ⟨e',h1,h2⟩
       rw [← hkey] at hmem;obtain ⟨e',h1,h2⟩:=List.mem_map.1 hmem;exact ⟨e',h1,h2⟩
   obtain ⟨hh1,hh2⟩:=MapKept.heap_set (o':=.map es' clock') hw;have hsz:({ w with heap:=w.heap.setIfInBounds b (.map es' clock') }:World).heap.size=w.heap.size:=by simp
   intro next Q hnx
   have henv:A8 cx { w with heap:=w.heap.setIfInBounds b (.map es' clock') }:=by
    refine ⟨⟨hR.env.same.os,hR.env.same.tape,hR.env.same.output,fun i ob hi ho=>?_⟩,fun i ob hi=>?_⟩
    ·have hlt:i<cx.w0.heap.size:=by
      rcases Nat.lt_or_ge i cx.w0.heap.size with h | h
      ·exact h
      ·rw [Array.getElem?_eq_none h] at hi; cases hi
     show (w.heap.setIfInBounds b _)[i]? = _;rw [hh2 i om];exact hR.env.same.keep i ob hi ho
    ·have hne:i≠b:=fun e=>hbK ob (e ▸ hi);refine ⟨?_,(hR.env.kept i ob hi).2⟩;show (w.heap.setIfInBounds b _)[i]? = _;rw [hh2 i hne];exact (hR.env.kept i ob hi).1
   have hR':=hR.aay henv (.map kd z (Me f k n)) hp hpl (fun b' hb'=>hh2 b' hb') hsz ⟨hn,b,bo,sz,es',clock',hpl,hh1,hm'⟩ (fun _ _ _ _=>⟨hb0,hbK⟩);have hIb:∀b',I b'→({ w with heap:=w.heap.setIfInBounds b (.map es' clock') }:World).heap[b']? = w.heap[b']? := fun b' h=>hh2 b' (fun e=>hR.lZ ob p b bo sz hp hpl (e ▸ h));have hkeep:∀u y,Rep w I O D u y→Rep { w with heap:=w.heap.setIfInBounds b (.map es' clock') } I O D u y:=fun u y hu=>hu.mono (fun _ h=>h) hIb (fun _ _=>.inl rfl) (fun _ h=>h) hR.used;exact KJ hrun (hnx Go.undef _ I O (hR'.rP nid) (fun u y hu=>(hkeep u y hu).rP hR' nid) (.pure (.undef _)))
 ·exact (dQ.aR h1).elim
end
end Go.Ab

namespace Go.Ab
section
variable {P:Program} {cfg:rU} {cx:Ctx} {H:Nat→Option cB} {D:Nat→Prop} {w:World} {I:Nat→Prop} {O:OM}
variable {nid:Nat} {o:Oper} {a:Act} {ρ:Operand→AV} {v:AV} {ups:jh} {r:List Nat}
theorem Xd (hR:Rel cfg cx H D w I O) {f:FuncId} {args:List AV} {vals:Array Value} (hrun:∀fn,P.funcs[f]? = some fn→fn.body.isNone=false→(fn.name == "runtime.NumGoroutine")=false→(execOp a.eval o).run P w=.ok (.enter f vals) w)
  (hvl:vals.size=args.length) (hva:∀j,j<args.length→Rep w I O D (nth args j) (vals.getD j Go.undef))
  (h:dQ (Spec P cfg) H (AZ [] args fun args' _=>.call f args' [] fun r obs'=>match obs' with | []=>dZ (Z4 r) (iJ r) | _::_=>.fail) v ups r):dR P cfg cx H D w I O nid o a v ups:=by
 obtain ⟨args',ids,r2,h4,hal,hview⟩:=FJ hR (sg:=[]) (fun j hj=>by cases hj) args _ _ h;cases h4 with
 | @call _ _ _ _ res obs' _ _ _ hspec h6=>
 cases obs' with
 | cons=>exact (dQ.aR h6).elim
 | nil=>
  obtain ⟨hm,h7⟩:=h6.bM;obtain ⟨rfl,rfl⟩:=h7.dN;clear h h6 h7;obtain ⟨⟨fn,hf1,hf2,hf3⟩,hle,hcall⟩:=hspec;have hRs:=hR.sub (sg:=[]) (ids:=ids) (obs:=[]) rfl (by
   have:∀l,Fq l []=true:=by
    intro l
    induction l with
    | nil=>rfl
    | cons x l ih=>unfold Fq; simp [wK,ih]
   exact this ids) rfl (fun j hj=>by cases hj)
  intro next Q hnx
  refine U4 (hrun fn hf1 hf2 hf3) ((hcall w _ _ vals hRs om (fun j hj=>hview j om _ (hva j om))).mono ?_);rintro e w' ⟨x,I',O',rfl,hR',hres⟩;refine ⟨x,rfl,?_⟩;have hfr:∀b,b<w.heap.size→w'.heap[b]? = w.heap[b]? := fun b hb=>hR'.frame b hb (by
   rintro ⟨j,p,bo,sz,h1,h2⟩
   simp [subO] at h1)
  have hR1:=hR.rP nid;refine hnx x w' I O ?_ (fun u y hu=>hu.mono (fun _ h=>h) (fun b hb=>hfr b (hR.vF b hb)) (fun _ _=>.inl rfl) (fun _ h=>.inl h) hR.used) (.pure (WX hres hm));rw [xZ];exact { hR1 with
   objs:=fun o ob p h1 h2=>(hR1.objs o ob p h1 h2).mono (fun _ h=>h) (fun b hb=>hfr b (hR.vF b hb)) (fun _ _=>.inl rfl) (fun _ h=>h) hR1.used (fun b bo sz hpl=>hfr b (hR.lt o p b bo sz h2 hpl))
   lt:=fun o p b bo sz h1 h2=>Nat.lt_of_lt_of_le (hR.lt o p b bo sz h1 h2) hR'.size
   vF:=fun b h=>Nat.lt_of_lt_of_le (hR.vF b h) hR'.size
   size:=Nat.le_trans hR.size hR'.size
   env:=hR.env.step hR'.env.same
   frame:=fun b h1 h2=>by rw [hfr b (Nat.lt_of_lt_of_le h1 hR.size)]; exact hR.frame b h1 h2
   glob:=fun g cs h=>(hR.glob g cs h).mono (fun _ h=>h) (fun b hb=>hfr b (hR.vF b hb)) }
theorem KN (l m:List AV) (j:Nat) (h:j<l.length):nth (l++m) j=nth l j:=by
 rw [pQ,pQ]; simp [List.getElem?_append_left h]
theorem KO (l m:List AV) (j:Nat) (h:l.length≤j):nth (l++m) j=nth m (j - l.length):=by
 rw [pQ,pQ]; simp [List.getElem?_append_right h]
theorem acw (hR:Rel cfg cx H D w I O) (hn:PO D nid) {c:Call} {f:Operand} (ho:o.op=.call c) (hcl:c.callee=.value f) (hf:Rep w I O D (ρ f) (a.eval f)) (hx:∀x∈c.args.toList,Rep w I O D (ρ x) (a.eval x))
  (h:dQ (Spec P cfg) H (eP cfg nid (.call c) ρ) v ups r):dR P cfg cx H D w I O nid o a v ups:=by
 simp only [eP,hcl] at h;split at h
 ·rename_i g caps e;rw [e] at hf;obtain ⟨cvs,hfv,hcl1,hcr⟩:=hf.FC;have hrun:∀fn,P.funcs[g]? = some fn→fn.body.isNone=false→(fn.name == "runtime.NumGoroutine")=false→(execOp a.eval o).run P w=.ok (.enter g (c.args.map a.eval++cvs)) w:=by
   intro fn h1 h2 h3;simp only [execOp,ho,hcl,resolve,hfv,Deferred.ofValue,Sem.run_bind,Sem.run_pure,Result.andThen_ok,invoke,callFunc,program,Sem.run,h1,h2,h3,Bool.false_eq_true,if_false];simp
  have hvl:(c.args.map a.eval++cvs).size=(c.args.toList.map ρ++caps).length:=by simp [hcl1]
  have hva:∀j,j<(c.args.toList.map ρ++caps).length→Rep w I O D (nth (c.args.toList.map ρ++caps) j) ((c.args.map a.eval++cvs).getD j Go.undef):=by
   intro j hj;by_cases hlt:j<(c.args.toList.map ρ).length
   ·rw [KN _ _ _ hlt];have h1:=X6 (a:=a) hx j hlt;have hlt':j<(c.args.map a.eval).size:=by simpa using hlt
    have e1:(c.args.map a.eval++cvs).getD j Go.undef=(c.args.map a.eval).getD j Go.undef:=by
     simp only [Array.getD_eq_getD_getElem?, Array.getElem?_append_left hlt']
    rw [e1];simpa using h1
   ·have hge:(c.args.toList.map ρ).length≤j:=by omega
    rw [KO _ _ _ hge];have hge':(c.args.map a.eval).size≤j:=by simpa using hge
    have e1:(c.args.map a.eval++cvs).getD j Go.undef=cvs.getD (j - (c.args.map a.eval).size) Go.undef:=by
     simp only [Array.getD_eq_getD_getElem?, Array.getElem?_append_right hge']
    rw [e1];have e2:(c.args.map a.eval).size=(c.args.toList.map ρ).length:=by simp
    rw [e2];exact hcr _ (by simp at hj hge ⊢; omega)
  unfold Z9 at h;split at h
  ·split at h
   ·exact Xd hR hrun hvl hva h
   ·exact U8 hR hn hrun hvl hva h
  ·exact U8 hR hn hrun hvl hva h
 ·exact (dQ.aR h).elim
def adt (w:World) (I:Nat→Prop) (O:OM) (D:Nat→Prop) (a:Act) (ρ:Operand→AV) (op:Op):Prop:=
 match op with
 | .pick c x y=>Rep w I O D (ρ c) (a.eval c)∧(∀b,ρ c=.bool b→b=true→Rep w I O D (ρ x) (a.eval x))∧(∀b,ρ c=.bool b→b=false→Rep w I O D (ρ y) (a.eval y))
 | op=>∀x∈op.operands.toList,Rep w I O D (ρ x) (a.eval x)
theorem aaL (hc:fq P cfg) (hR:Rel cfg cx H D w I O) (hF:PO D nid) (hρ:∀c,ρ (.const c)=ofConst c) (hx:adt w I O D a ρ o.op) (h:dQ (Spec P cfg) H (eP cfg nid o.op ρ) v ups r):dR P cfg cx H D w I O nid o a v ups:=by
 have hn:=hF.one;generalize ho:o.op=op at hx h;cases op with
 | move x=>obtain ⟨rfl,rfl⟩:=h.dN; exact acd hR ho (hx x (by simp [Op.operands]))
 | assign x=>obtain ⟨rfl,rfl⟩:=h.dN; exact YD hR ho (hx x (by simp [Op.operands]))
 | pick c x y=>
  obtain ⟨h1,h2,h3⟩:=hx;exact ace hR ho h1 h2 h3 (fun c e=>by subst e; exact ⟨hρ c,rfl⟩) (fun c e=>by subst e; exact ⟨hρ c,rfl⟩) h
 | alloc t=>exact aau hc hR hn ho h
 | box t x=>exact adR hR hn ho (hx x (by simp [Op.operands])) h
 | build t parts=>
  refine aaw hc hR ho (fun p hp=>hx p.2 ?_) h;simp only [Op.operands,List.mem_map];exact ⟨p,hp,rfl⟩
 | buildSlice t len parts=>
  refine Rq hc hR hn ho (fun p hp=>hx p.2 ?_) h;simp only [Op.operands,List.mem_map];exact ⟨p,hp,rfl⟩
 | load t x=>exact acj hc hR ho (hx x (by simp [Op.operands])) h
 | store t x y=>exact aaz hc hR ho (hx x (by simp [Op.operands])) (hx y (by simp [Op.operands])) h
 | nilCheck x=>exact UN hR ho (hx x (by simp [Op.operands])) h
 | binOp op t x y t'=>exact aao hc hR ho (hx x (by simp [Op.operands])) (hx y (by simp [Op.operands])) h
 | unOp op t x=>exact aci hR ho (hx x (by simp [Op.operands])) h
 | convert s d x=>exact WQ hc hR ho (hx x (by simp [Op.operands])) h
 | makeFunc fn first cap=>exact UO hR ho (fun x hm=>hx x (by simp only [Op.operands,Array.toList_append,List.mem_append]; exact .inr hm)) h
 | makeSlice t l c=>exact TJ hc hR hn ho (hx l (by simp [Op.operands])) h
 | slice t x lo hi mx=>
  refine aat hc hR ho (hx x (by simp [Op.operands])) (fun y e=>hx y ?_) (fun y e=>hx y ?_) (fun y e=>hx y ?_) h
  ·subst e; simp [Op.operands]
  ·subst e; simp [Op.operands]
  ·subst e; simp [Op.operands]
 | fieldAddr s x f=>exact TG hc hR ho (hx x (by simp [Op.operands])) h
 | field s x f=>exact aap hc hR ho (hx x (by simp [Op.operands])) h
 | indexAddr t x ix=>exact TI hc hR ho (hx x (by simp [Op.operands])) (hx ix (by simp [Op.operands])) h
 | extract t i=>exact WH hR ho (hx t (by simp [Op.operands])) h
 | index t x ix=>exact aaH hc hR ho (hx x (by simp [Op.operands])) (hx ix (by simp [Op.operands])) h
 | makeMap t r=>
  cases r with
  | none=>exact Xc hR hn ho h
  | some r=>exact (dQ.aR h).elim
 | lookup t x ix ok=>
  cases ok with
  | false=>exact YQ hc hR ho (hx x (by simp [Op.operands])) (hx ix (by simp [Op.operands])) h
  | true=>exact (dQ.aR h).elim
 | mapUpdate t x ix y=>exact TN hc hR ho (hx x (by simp [Op.operands])) (hx ix (by simp [Op.operands])) (hx y (by simp [Op.operands])) h
 | call c=>
  have harg:∀x∈c.args.toList,Rep w I O D (ρ x) (a.eval x):=fun x hm=>hx x (by simp only [Op.operands,Call.operands,Array.toList_append,List.mem_append]; exact .inr hm);cases hcl:c.callee with
  | value f=>exact acw hR hF ho hcl (hx f (by simp [Op.operands,Call.operands,hcl])) harg h
  | invoke x m=>simp only [eP,hcl] at h; exact (dQ.aR h).elim
  | builtin b=>
   cases b with
   | len=>exact adN hc hR ho hcl harg h
   | append=>exact YJ hc hR hn ho hcl harg h
   | copy=>exact acp hc hR ho hcl harg h
   | clear=>exact aaD hc hR ho hcl harg h
   | min=>exact adO hR ho hcl harg h
   | max=>exact adP hR ho hcl harg h
   | _=>simp only [eP,hcl] at h; exact (dQ.aR h).elim
 | _=>exact (dQ.aR h).elim
end
end Go.Ab

namespace Go.Ab
structure TE where
 ex:Bool
 v:AV
 ups:jh
 rds:List Nat
def jE {α:Type} (T:Nat→α) (d:Option Nat) (v:α):Nat→α:=match d with
 | some k=>fun t=>if t=k then v else T t
 | none=>T
def isB (b:Bool):AV→Bool
 | .bool c=>c==b
 | _=>false
def iN (all:List Oper) (T:Nat→AV) (V:Nat→Bool) (o:Oper):Bool:=match o.guard with
 | none=>true
 | some (j,b)=>match NA all j with
  | some d=>V d&&isB b (T d)
  | none=>false
def jT (all:List Oper) (T:Nat→AV) (o:Oper):Prop:=match o.guard with
 | none=>True
 | some (j,_)=>∃d c,NA all j=some d∧T d=.bool c
def Tr (cfg:rU) (Sp:kY) (all:List Oper) (nx:Nat):List Oper→Nat→(Nat→AV)→(Nat→Bool)→(Nat→Option cB)→List TE→Prop
 | [],_,_,_,_,[]=>True
 | o::rest,i,T,V,H,e::tr=>jT all T o∧e.ex=iN all T V o∧(e.ex=true→dQ Sp H (eP cfg (nx+stride*i) o.op (Pz cfg T)) e.v e.ups e.rds)∧(e.ex=false→e.ups=[])∧
   Tr cfg Sp all nx rest (i+1) (jE T o.dst e.v) (jE V o.dst e.ex) (jQ H e.ups) tr
 | _,_,_,_,_,_=>False
section
variable {P:Program} {cfg:rU} {cx:Ctx} {N:Nat} {ds:List Deferred}
structure uH (N:Nat) (ds:List Deferred) (T:Nat→AV) (V:Nat→Bool) (a:Act) (w:World) (I:Nat→Prop) (O:OM) (D:Nat→Prop):Prop where
 defers:a.defers=ds
 size:a.tmps.size=N
 rep:∀t,V t=true→Rep w I O D (T t) (a.tmps.getD t Go.undef)
 gone:∀t,V t=false→a.tmps.getD t Go.undef=Go.undef
theorem fB (tm:Array Value) (d t:Nat) (x:Value) (h:d<tm.size):(tm.setIfInBounds d x).getD t Go.undef=if t=d then x else tm.getD t Go.undef:=by
 by_cases e:t=d
 ·subst e; simp [h]
 ·rw [if_neg e];have:d≠t:=fun h=>e h.symm;simp [Array.getElem?_setIfInBounds_ne this]
theorem uH.put {T:Nat→AV} {V:Nat→Bool} {a:Act} {w w':World} {I I':Nat→Prop} {O O':OM} {D D':Nat→Prop} (h:uH N ds T V a w I O D) (keep:∀u y,Rep w I O D u y→Rep w' I' O' D' u y) (d:Option Nat) (hd:∀k,d=some k→k<N)
  (v:AV) (x:Value) (ex:Bool) (hx:ex=true→Rep w' I' O' D' v x) (hx':ex=false→x=Go.undef):uH N ds (jE T d v) (jE V d ex) (a.put d x) w' I' O' D':=by
 cases d with
 | none=>exact ⟨h.defers,h.size,fun t ht=>keep _ _ (h.rep t ht),h.gone⟩
 | some k=>
  have hk:=hd k rfl;have hs:=h.size;refine ⟨h.defers,by simp [Act.put,hs],fun t ht=>?_,fun t ht=>?_⟩
  ·show Rep _ _ _ _ (if t=k then v else T t) ((a.tmps.setIfInBounds k x).getD t Go.undef);rw [fB _ _ _ _ om];simp only [jE] at ht;by_cases e:t=k
   ·rw [if_pos e,if_pos e]; exact hx (by simpa [e] using ht)
   ·rw [if_neg e,if_neg e]; exact keep _ _ (h.rep t (by simpa [e] using ht))
  ·show (a.tmps.setIfInBounds k x).getD t Go.undef=_;rw [fB _ _ _ _ om];simp only [jE] at ht;by_cases e:t=k
   ·rw [if_pos e]; exact hx' (by simpa [e] using ht)
   ·rw [if_neg e]; exact h.gone t (by simpa [e] using ht)
theorem qc {H:Nat→Option cB} {D:Nat→Prop} {w:World} {I:Nat→Prop} {O:OM} {T:Nat→AV} {V:Nat→Bool} {a:Act} (hR:Rel cfg cx H D w I O) (hT:uH N ds T V a w I O D) (x:Operand) (hv:∀t,x=.tmp t→V t=true):Rep w I O D (Pz cfg T x) (a.eval x):=by
 cases x with
 | tmp t=>exact hT.rep t (hv t rfl)
 | const c=>exact WE c
 | global g=>
  simp only [Pz,Act.eval];cases hg:look cfg.glob g with
  | some cs=>exact .pure (hR.glob g cs hg)
  | none=>exact .pure (.undef _)
 | func f=>exact .pure (.fn (by simp) (fun j hj=>by simp at hj))
def zC (T:Nat→AV) (V:Nat→Bool) (op:Op):Prop:=match op with
 | .pick c x y=>(∀t,c=.tmp t→V t=true)∧(rhoB T c=some true→∀t,x=.tmp t→V t=true)∧(rhoB T c=some false→∀t,y=.tmp t→V t=true)
 | op=>∀t,Operand.tmp t∈op.operands.toList→V t=true
 where rhoB (T:Nat→AV):Operand→Option Bool
 | .tmp t=>match T t with | .bool b=>some b | _=>none
 | .const (.bool b)=>some b
 | _=>none
theorem TP {k:Value} {b:Bool} (h:ofConst k=.bool b):k=.bool b:=by
 unfold ofConst at h;split at h<;>first | (cases h; rfl) | cases h
theorem aaN {H:Nat→Option cB} {D:Nat→Prop} {w:World} {I:Nat→Prop} {O:OM} {T:Nat→AV} {V:Nat→Bool} {a:Act} (hR:Rel cfg cx H D w I O) (hT:uH N ds T V a w I O D) {op:Op} (h:zC T V op):adt w I O D a (Pz cfg T) op:=by
 have hb:∀(c:Operand) (b:Bool),Pz cfg T c=.bool b→zC.rhoB T c=some b:=by
  intro c b e;cases c with
  | tmp t=>simp only [Pz] at e; simp [zC.rhoB,e]
  | const k=>simp only [Pz] at e; rw [TP e]; rfl
  | global g=>simp only [Pz] at e; split at e<;>cases e
  | func f=>cases e
 cases op with
 | pick c x y=>
  obtain ⟨h1,h2,h3⟩:=h;exact ⟨qc hR hT c h1,fun b e e'=>qc hR hT x (h2 (by rw [hb c b e,e'])),fun b e e'=>qc hR hT y (h3 (by rw [hb c b e,e']))⟩
 | _=>exact fun x hx=>qc hR hT x (fun t e=>h t (e ▸ hx))
theorem YR (hc:fq P cfg) {H:Nat→Option cB} {D:Nat→Prop} {w:World} {I:Nat→Prop} {O:OM} {T:Nat→AV} {V:Nat→Bool} {a:Act} {nid:Nat} {o:Oper} {v:AV} {ups:jh} {rds:List Nat}
  (hR:Rel cfg cx H D w I O) (hT:uH N ds T V a w I O D) (hn:PO D nid) (hval:zC T V o.op) (hd:∀k,o.dst=some k→k<N) (hev:dQ (Spec P cfg) H (eP cfg nid o.op (Pz cfg T)) v ups rds)
  {next:Act→World→Prop} {Q:Exit→Act→World→Prop} (hnx:∀a' w' I' O',Rel cfg cx (jQ H ups) (xY D nid) w' I' O'→uH N ds (jE T o.dst v) (jE V o.dst true) a' w' I' O' (xY D nid)→next a' w'):o.wp P a w next Q:=by
 refine aaL hc hR hn (fun _=>rfl) (aaN hR hT hval) hev next Q fun x w' I' O' hR' hk hv=>hnx _ w' I' O' hR' (hT.put hk o.dst hd v x true (fun _=>hv) (fun h=>by cases h))
theorem Qb (l:List Oper) (j:Nat):Sq l j=l[j]? := by
 induction l generalizing j with
 | nil=>rfl
 | cons o l ih=>cases j with
  | zero=>rfl
  | succ j=>simpa [Sq] using ih j
theorem YS {D:Nat→Prop} {w:World} {I:Nat→Prop} {O:OM} {T:Nat→AV} {V:Nat→Bool} {a:Act} {ops:Array Oper} (hT:uH N ds T V a w I O D) (o:Oper) (hg:jT ops.toList T o):Region.wanted o (yielded ops a.tmps)=iN ops.toList T V o:=by
 unfold Region.wanted iN;unfold jT at hg;cases hgu:o.guard with
 | none=>rfl
 | some g=>
  obtain ⟨j,b⟩:=g;rw [hgu] at hg;simp only at hg;obtain ⟨d,c,h1,h2⟩:=hg;simp only [h1,h2,isB];have hd:((ops[j]?).bind (·.dst))=some d:=by
   unfold NA at h1;rw [Qb] at h1;have e:ops.toList[j]? = ops[j]? := by simp
   rw [e] at h1;cases ho:ops[j]? with
   | none=>rw [ho] at h1; cases h1
   | some o'=>rw [ho] at h1; simpa using h1
  have hy:yielded ops a.tmps j=if V d then some c else none:=by
   unfold yielded;rw [hd];simp only [Option.bind_some];cases hv:V d with
   | true=>
    have:=hT.rep d hv;rw [h2] at this;have hx:=this.jw;rcases Nat.lt_or_ge d a.tmps.size with hlt | hge
    ·simp [hlt] at hx; simp [hlt,hx]
    ·simp [Array.getElem?_eq_none hge,Go.undef] at hx
   | false=>
    have:=hT.gone d hv;rcases Nat.lt_or_ge d a.tmps.size with hlt | hge
    ·simp [hlt] at this; simp [hlt,this,Go.undef]
    ·simp [Array.getElem?_eq_none hge]
  rw [hy];cases V d<;>simp
theorem Mv (t:Nat):∀(l:List Oper) (i k:Nat),k∈p9 t l i↔∃o,i≤k∧l[k - i]? = some o∧o.dst=some t:=by
 intro l;induction l with
 | nil=>intro i k; simp [p9]
 | cons o l ih=>
  intro i k;have hd:X4 o.dst t=true↔o.dst=some t:=by
   unfold X4;cases o.dst with
   | none=>simp
   | some x=>simp
  unfold p9;cases hb:X4 o.dst t with
  | true=>
   simp only [List.mem_cons,ih];constructor
   ·rintro (h | ⟨o',h1,h2,h3⟩)
    ·subst h; exact ⟨o,Nat.le_refl _,by simp,hd.1 hb⟩
    ·refine ⟨o',by omega,?_,h3⟩;have:k - i=(k - (i+1))+1:=by omega
     rw [this]; simpa using h2
   ·rintro ⟨o',h1,h2,h3⟩;by_cases hk:k=i
    ·exact .inl hk
    ·refine .inr ⟨o',by omega,?_,h3⟩;have:k - i=(k - (i+1))+1:=by omega
     rw [this] at h2; simpa using h2
  | false=>
   simp only [ih];constructor
   ·rintro ⟨o',h1,h2,h3⟩;refine ⟨o',by omega,?_,h3⟩;have:k - i=(k - (i+1))+1:=by omega
    rw [this]; simpa using h2
   ·rintro ⟨o',h1,h2,h3⟩;by_cases hk:k=i
    ·subst hk;simp at h2;subst h2;rw [hd.2 h3] at hb;cases hb
    ·refine ⟨o',by omega,?_,h3⟩;have:k - i=(k - (i+1))+1:=by omega
     rw [this] at h2; simpa using h2
theorem qI (all:List Oper) (t k:Nat):k∈writers all t↔∃o,all[k]? = some o∧o.dst=some t:=by
 unfold writers;rw [Mv];simp
structure Known (all:List Oper) (k:Nat) (T:Nat→AV) (V:Nat→Bool) (ex:Nat→Bool) (val:Nat→AV):Prop where
 one:∀i t,i<k→writers all t=[i]→V t=ex i∧T t=val i
 free:∀t,(∀i,i<k→i∈writers all t→PD all i=none)→V t=true
 guard:∀i j b,i<k→PD all i=some (j,b)→j<i∧ex i=(ex j&&isB b (val j))
theorem Known.chain {all:List Oper} {k:Nat} {T:Nat→AV} {V:Nat→Bool} {ex:Nat→Bool} {val:Nat→AV} (hK:Known all k T V ex val):∀(f:Nat) (g:Option (Nat×Bool)),(∀j b,g=some (j,b)→j<k∧ex j=true∧isB b (val j)=true)→
  ∀j b,ab7 j b (Ab.chain all f g)=true→j<k∧ex j=true∧isB b (val j)=true:=by
 intro f;induction f with
 | zero=>intro g _ j b h; cases h
 | succ f ih=>
  intro g hg j b h;cases g with
  | none=>cases h
  | some g=>
   obtain ⟨j',b'⟩:=g;obtain ⟨h1,h2,h3⟩:=hg j' b' rfl;simp only [Ab.chain,ab7] at h;split at h
   ·rename_i e1 e2;have e1:=Nat.eq_of_beq_eq_true e1;subst e1;have:b=b':=by cases b<;>cases b'<;>simp [eqB] at e2<;>rfl
    subst this;exact ⟨h1,h2,h3⟩
   ·refine ih _ (fun j2 b2 e=>?_) j b h;obtain ⟨q1,q2⟩:=hK.guard j' j2 b2 h1 e;rw [h2] at q2;simp at q2;exact ⟨by omega,q2.1,q2.2⟩
theorem TQ {all:List Oper} {l:List Nat} (h:OY all l=true):∀i∈l,PD all i=none:=by
 induction l with
 | nil=>intro i hi; cases hi
 | cons x l ih=>
  intro i hi;unfold OY at h;cases hg:PD all x with
  | some g=>simp [hg] at h
  | none=>
   simp only [hg] at h;rcases List.mem_cons.1 hi with e | e
   ·subst e; exact hg
   ·exact ih h i e
theorem KP {all:List Oper} {k:Nat} {T:Nat→AV} {V:Nat→Bool} {ex:Nat→Bool} {val:Nat→AV} (hK:Known all k T V ex val) {g:Option (Nat×Bool)} (hg:∀j b,g=some (j,b)→j<k∧ex j=true∧isB b (val j)=true) {t:Nat} (h:Tz all k g t=true):V t=true:=by
 unfold Tz at h;split at h
 ·rename_i i hw;cases hgi:PD all i with
  | none=>exact hK.free t fun i' _ hi'=>by rw [hw] at hi'; simp at hi'; subst hi'; exact hgi
  | some q=>
   obtain ⟨j,b⟩:=q;simp only [hgi] at h;cases hlt:Nat.blt i k with
   | false=>simp [hlt] at h
   | true=>
    simp only [hlt] at h;have hik:i<k:=by simpa using hlt
    obtain ⟨h1,h2,h3⟩:=hK.chain 20 g hg j b h;rw [(hK.one i t hik hw).1,(hK.guard i j b hik hgi).2,h2,h3];rfl
 ·exact hK.free t fun i _ hi=>TQ h i hi
end
end Go.Ab

namespace Go.Ab
section
variable {P:Program} {cfg:rU} {cx:Ctx} {N:Nat}
theorem JX {N:Nat} {all:List Oper}:∀(l:List Oper) (i:Nat),nK N all l i=true→∀k o,l[k]? = some o→UL all (i+k) o=true∧∀d,o.dst=some d→d<N:=by
 intro l;induction l with
 | nil=>intro i _ k o h; simp at h
 | cons x l ih=>
  intro i h k o hk;unfold nK at h;split at h
  ·rename_i h1 h2;cases k with
   | zero=>
    simp at hk;subst hk;refine ⟨h1,fun d hd=>?_⟩;rw [hd] at h2;simpa using h2
   | succ k=>
    have:=ih (i+1) h k o (by simpa using hk);rwa [Nat.add_assoc,Nat.add_comm 1 k] at this
  ·cases h
theorem NM {all:List Oper} {k:Nat} {T:Nat→AV} {V:Nat→Bool} {ex:Nat→Bool} {val:Nat→AV} (hK:Known all k T V ex val) {o:Oper} (hok:UL all k o=true):
  (iN all T V o=true→∀j b,o.guard=some (j,b)→j<k∧ex j=true∧isB b (val j)=true)∧(∀j b,o.guard=some (j,b)→j<k∧iN all T V o=(ex j&&isB b (val j))):=by
 have key:∀j b,o.guard=some (j,b)→j<k∧iN all T V o=(ex j&&isB b (val j)):=by
  intro j b hg;unfold UL at hok;rw [hg] at hok;simp only at hok;split at hok
  ·rename_i h1;split at h1
   ·rename_i hlt;split at h1
    ·rename_i d hd;split at h1
     ·rename_i j' hw;have hjk:j<k:=by simpa using hlt
      have e:=Nat.eq_of_beq_eq_true h1;subst e;refine ⟨hjk,?_⟩;obtain ⟨q1,q2⟩:=hK.one j' d hjk hw;unfold iN;rw [hg];simp only [hd];rw [q1,q2]
     ·cases h1
    ·cases h1
   ·cases h1
  ·cases hok
 refine ⟨fun h j b hg=>?_,key⟩;obtain ⟨h1,h2⟩:=key j b hg;rw [h] at h2;have:=h2.symm;simp at this;exact ⟨h1,this.1,this.2⟩
theorem Xe {all:List Oper} {k:Nat} {T:Nat→AV} {V:Nat→Bool} {ex:Nat→Bool} {val:Nat→AV} (hK:Known all k T V ex val) {o:Oper} (hok:UL all k o=true) (hg:iN all T V o=true):zC T V o.op:=by
 have hgs:=(NM hK hok).1 hg;have hopd:∀x,Ia all k o.guard x=true→∀t,x=.tmp t→V t=true:=by
  intro x h t e;subst e;exact KP hK hgs h
 unfold UL at hok;split at hok
 ·split at hok
  ·rename_i c x y hop;rw [hop];split at hok
   ·rename_i hc hx;have hcv:=hopd c hc;have arm:∀(pol:Bool) (z:Operand),X5 all k o.guard c pol z=true→zC.rhoB T c=some pol→∀t,z=.tmp t→V t=true:=by
     intro pol z hz hb t e;subst e;unfold X5 at hz;simp only at hz;split at hz
     ·rename_i hr;exact KP hK hgs hr
     ·split at hz
      ·rename_i ct i hwt;split at hz
       ·rename_i j b jc hgi hwc hlt;split at hz
        ·rename_i e1 e2;have e1:=Nat.eq_of_beq_eq_true e1;subst e1;have hik:i<k:=by simpa using hlt
         have hjk:j<k:=by simpa using e2
         obtain ⟨q1,q2⟩:=hK.one i t hik hwt;obtain ⟨q3,q4⟩:=hK.one j ct hjk hwc;have q5:=(hK.guard i j b hik hgi).2;have hbp:b=pol:=by cases b<;>cases pol<;>simp [eqB] at hz<;>rfl
         subst hbp;have hT:T ct=.bool b:=by
          simp only [zC.rhoB] at hb;split at hb
          ·rename_i b' hb'; cases hb; exact hb'
          ·cases hb
         rw [q1,q5,← q3,hcv ct rfl,← q4,hT];simp [isB]
        ·cases hz
       ·cases hz
      ·cases hz
    exact ⟨hcv,arm true x hx,arm false y hok⟩
   ·cases hok
  ·rename_i hnp;have hall:∀(l:List Operand),CB all k o.guard l=true→∀x∈l,Ia all k o.guard x=true:=by
    intro l;induction l with
    | nil=>intro _ x hx; cases hx
    | cons y l ih=>
     intro h x hx;unfold CB at h;split at h
     ·rename_i hy;rcases List.mem_cons.1 hx with e | e
      ·subst e; exact hy
      ·exact ih h x e
     ·cases h
   have main:∀t,Operand.tmp t∈o.op.operands.toList→V t=true:=fun t ht=>hopd _ (hall _ hok _ ht) t rfl;unfold zC;split
   ·rename_i c x y hop;exact absurd hop (hnp c x y)
   ·exact main
 ·cases hok
theorem Known.step {all:List Oper} {k:Nat} {T:Nat→AV} {V:Nat→Bool} {ex:Nat→Bool} {val:Nat→AV} (hK:Known all k T V ex val) {o:Oper} (hk:all[k]? = some o) (hok:UL all k o=true) (e:TE) (he:e.ex=iN all T V o):
  Known all (k+1) (jE T o.dst e.v) (jE V o.dst e.ex) (fun i=>if i=k then e.ex else ex i) (fun i=>if i=k then e.v else val i):=by
 have hgl:PD all k=o.guard:=by unfold PD; rw [Qb,hk]
 have upd:∀ {α:Type} (F:Nat→α) (x:α) (t:Nat),jE F o.dst x t=if o.dst=some t then x else F t:=by
  intro α F x t;unfold jE;cases hd:o.dst with
  | none=>simp
  | some d=>
   by_cases h:t=d
   ·subst h; simp
   ·have:¬ d=t:=fun e=>h e.symm;simp [h,this]
 refine ⟨fun i t hi hw=>?_,fun t ht=>?_,fun i j b hi hg=>?_⟩
 ·rw [upd,upd];by_cases hik:i=k
  ·subst hik;have:i∈writers all t:=by rw [hw]; simp
   obtain ⟨o',h1,h2⟩:=(qI all t i).1 this;rw [hk] at h1;cases h1;simp [h2]
  ·have hne:¬ o.dst=some t:=fun h=>by
    have:k∈writers all t:=(qI all t k).2 ⟨o,hk,h⟩;rw [hw] at this;simp at this;omega
   simp only [if_neg hne,if_neg hik];exact hK.one i t om hw
 ·rw [upd];by_cases hd:o.dst=some t
  ·rw [if_pos hd,he];have:=ht k om ((qI all t k).2 ⟨o,hk,hd⟩);rw [hgl] at this;unfold iN;rw [this]
  ·rw [if_neg hd];exact hK.free t fun i hi hw=>ht i om hw
 ·by_cases hik:i=k
  ·subst hik;rw [hgl] at hg;obtain ⟨h1,h2⟩:=(NM hK hok).2 j b hg;refine ⟨h1,?_⟩;rw [if_pos rfl,if_neg om,if_neg om,he,h2]
  ·obtain ⟨h1,h2⟩:=hK.guard i j b om hg;refine ⟨h1,?_⟩;rw [if_neg hik,if_neg om,if_neg om,h2]
section sel
variable {α:Type} (wr:Nat→Nat→Bool) (g:Nat→Nat→α)
def sel (p:Nat→Bool):Nat→(Nat→α)→Nat→α
 | 0,F,t=>F t
 | m+1,F,t=>if p m&&wr m t then g m t else sel p m F t
theorem Qc (p:Nat→Bool) (m:Nat) (F:Nat→α) (t:Nat):sel wr g p (m+1) F t=if p m&&wr m t then g m t else sel wr g p m F t:=rfl
theorem Bc (p q:Nat→Bool) (F:Nat→α) (t:Nat):∀m,(∀k,k<m→wr k t=true→p k=q k)→sel wr g p m F t=sel wr g q m F t:=by
 intro m;induction m with
 | zero=>intro _; rfl
 | succ m ih=>
  intro h;unfold sel;rw [ih fun k hk=>h k om];cases hw:wr m t with
  | false=>simp
  | true=>rw [h m om hw]
theorem nL (F:Nat→α) (t k:Nat):∀m,k≤m→sel wr g (fun j=>decide (j<k)) m F t=sel wr g (fun _=>true) k F t:=by
 intro m;induction m with
 | zero=>
  intro h; have:k=0:=by omega
  subst this; rfl
 | succ m ih=>
  intro h;by_cases hk:k=m+1
  ·subst hk;exact Bc wr g _ _ F t _ fun j hj _=>by simp [hj]
  ·rw [Qc,ih om];simp [show ¬ m<k by omega]
theorem TR (p:Nat→Bool) (F:Nat→α) (t i:Nat) (hi:wr i t=true→∀k,i<k→p k=true→wr k t=false):∀m,i<m→sel wr g (fun j=>p j||decide (j=i)) m F t=if wr i t then g i t else sel wr g p m F t:=by
 intro m;induction m with
 | zero=>intro h; omega
 | succ m ih=>
  intro h;by_cases him:i=m
  ·subst him;unfold sel;have e:sel wr g (fun j=>p j||decide (j=i)) i F t=sel wr g p i F t:=Bc wr g _ _ F t _ fun j hj _=>by simp [show ¬ j=i by omega]
   rw [e];cases hw:wr i t with
   | true=>simp
   | false=>simp
  ·have:=ih om;unfold sel;rw [this];cases hw:wr i t with
   | true=>
    have hne:¬ m=i:=fun e=>him e.symm;simp only [hne,decide_false,Bool.or_false,if_true];cases hp:p m with
    | false=>simp
    | true=>simp [hi hw m om hp]
   | false=>
    have hne:¬ m=i:=fun e=>him e.symm;simp [hne]
end sel
end
end Go.Ab

namespace Go.Ab
section
variable {P:Program} {cfg:rU} {cx:Ctx} {N:Nat} {ds:List Deferred}
def Ya (all:List Oper) (k t:Nat):Bool:=match all[k]? with
 | some o=>decide (o.dst=some t)
 | none=>false
def ZU (ent:Nat→TE) (k o:Nat):Bool:=(look (ent k).ups o).isSome
def gH (ent:Nat→TE) (k o:Nat):Option cB:=match look (ent k).ups o with
 | some x=>x
 | none=>none
def Bd (all:List Oper) (ent:Nat→TE) (p:Nat→Bool) (m:Nat) (T0:Nat→AV):Nat→AV:=sel (Ya all) (fun k _=>(ent k).v) p m T0
def IK (all:List Oper) (ent:Nat→TE) (p:Nat→Bool) (m:Nat):Nat→Bool:=sel (Ya all) (fun k _=>(ent k).ex) p m (fun _=>true)
def Kz (ent:Nat→TE) (p:Nat→Bool) (m:Nat) (H0:Nat→Option cB):Nat→Option cB:=sel (ZU ent) (gH ent) p m H0
def yes:Nat→Bool:=fun _=>true
def TrI (cfg:rU) (Sp:kY) (all:List Oper) (nx:Nat) (T0:Nat→AV) (H0:Nat→Option cB) (ent:Nat→TE):Prop:=
 ∀k o,all[k]? = some o→jT all (Bd all ent yes k T0) o∧(ent k).ex=iN all (Bd all ent yes k T0) (IK all ent yes k) o∧
  ((ent k).ex=true→dQ Sp (Kz ent yes k H0) (eP cfg (nx+stride*k) o.op (Pz cfg (Bd all ent yes k T0))) (ent k).v (ent k).ups (ent k).rds)∧((ent k).ex=false→(ent k).ups=[])
theorem Ig {α:Type} {all:List Oper} {o:Oper} {k:Nat} (hk:all[k]? = some o) (g:Nat→Nat→α) (p:Nat→Bool) (hp:p k=true) (F:Nat→α) (v:α) (hg:∀t,g k t=v):jE (sel (Ya all) g p k F) o.dst v=sel (Ya all) g p (k+1) F:=by
 funext t;have hw:Ya all k t=decide (o.dst=some t):=by unfold Ya; rw [hk]
 rw [Qc,hp,hg,hw];cases hd:o.dst with
 | none=>simp [jE]
 | some d=>
  by_cases h:t=d
  ·subst h; simp [jE]
  ·have:¬ d=t:=fun e=>h e.symm;simp [jE,h,this]
theorem Vb {ent:Nat→TE} {k:Nat} (p:Nat→Bool) (hp:p k=true) (H:Nat→Option cB):jQ (sel (ZU ent) (gH ent) p k H) (ent k).ups=sel (ZU ent) (gH ent) p (k+1) H:=by
 funext o;have hw:ZU ent k o=(look (ent k).ups o).isSome:=rfl;have hg:gH ent k o=match look (ent k).ups o with | some x=>x | none=>none:=rfl
 rw [Qc,hp,hw,hg];unfold jQ;cases look (ent k).ups o<;>simp
theorem TrI.acy {Sp:kY} {all:List Oper} {nx:Nat} {T0:Nat→AV} {H0:Nat→Option cB} {ent:Nat→TE}:∀(rest:List Oper) (i:Nat) (tr:List TE),(∀j,rest[j]? = all[i+j]?)→(∀j e,tr[j]? = some e→ent (i+j)=e)→
  Tr cfg Sp all nx rest i (Bd all ent yes i T0) (IK all ent yes i) (Kz ent yes i H0) tr→∀k o,i≤k→all[k]? = some o→jT all (Bd all ent yes k T0) o∧(ent k).ex=iN all (Bd all ent yes k T0) (IK all ent yes k) o∧
  ((ent k).ex=true→dQ Sp (Kz ent yes k H0) (eP cfg (nx+stride*k) o.op (Pz cfg (Bd all ent yes k T0))) (ent k).v (ent k).ups (ent k).rds)∧((ent k).ex=false→(ent k).ups=[]):=by
 intro rest;induction rest with
 | nil=>
  intro i tr hr _ _ k o hik hk;have:=hr (k - i);rw [show i+(k - i)=k by omega,hk] at this;simp at this
 | cons x rest ih=>
  intro i tr hr he h k o hik hk;cases tr with
  | nil=>exact h.elim
  | cons e tr=>
   obtain ⟨h1,h2,h3,h4,h5⟩:=h;have hx:all[i]? = some x:=by simpa using (hr 0).symm
   have he0:ent i=e:=by simpa using he 0 e rfl
   by_cases hki:k=i
   ·subst hki;rw [hx] at hk;cases hk;subst he0;exact ⟨h1,h2,h3,h4⟩
   ·subst he0;have e1:jE (Bd all ent yes i T0) x.dst (ent i).v=Bd all ent yes (i+1) T0:=Ig hx _ yes rfl T0 _ fun _=>rfl;have e2:jE (IK all ent yes i) x.dst (ent i).ex=IK all ent yes (i+1):=Ig hx _ yes rfl _ _ fun _=>rfl;have e3:jQ (Kz ent yes i H0) (ent i).ups=Kz ent yes (i+1) H0:=Vb yes rfl H0;rw [e1,e2,e3] at h5;refine ih (i+1) tr (fun j=>?_) (fun j e' hj=>?_) h5 k o om hk
    ·have:=hr (j+1);rw [show i+(j+1)=i+1+j by omega] at this;simpa using this
    ·have:=he (j+1) e' (by simpa using hj);rwa [show i+(j+1)=i+1+j by omega] at this
theorem TrI.known {Sp:kY} {all:List Oper} {nx:Nat} {T0:Nat→AV} {H0:Nat→Option cB} {ent:Nat→TE} (h:TrI cfg Sp all nx T0 H0 ent) {N:Nat} (hok:nK N all all 0=true):∀k,k≤all.length→Known all k (Bd all ent yes k T0) (IK all ent yes k) (fun i=>(ent i).ex) (fun i=>(ent i).v):=by
 intro k;induction k with
 | zero=>exact fun _=>⟨fun i t hi=>by omega,fun t _=>rfl,fun i j b hi=>by omega⟩
 | succ k ih=>
  intro hk;have hlt:k<all.length:=by omega
  have hx:all[k]? = some all[k]:=List.getElem?_eq_getElem hlt;obtain ⟨h1,h2,_,_⟩:=h k _ hx;have hop:=(JX all 0 hok k _ hx).1;rw [Nat.zero_add] at hop;have:=(ih om).step hx hop (ent k) h2;have e1:jE (Bd all ent yes k T0) (all[k]).dst (ent k).v=Bd all ent yes (k+1) T0:=Ig hx _ yes rfl T0 _ fun _=>rfl;have e2:jE (IK all ent yes k) (all[k]).dst (ent k).ex=IK all ent yes (k+1):=Ig hx _ yes rfl _ _ fun _=>rfl;rw [e1,e2] at this;have e4:(fun i=>if i=k then (ent k).ex else (ent i).ex)=fun i=>(ent i).ex:=by
   funext i;by_cases hi:i=k<;>simp [hi]
  have e5:(fun i=>if i=k then (ent k).v else (ent i).v)=fun i=>(ent i).v:=by
   funext i;by_cases hi:i=k<;>simp [hi]
  rw [e4,e5] at this;exact this
def Dat (nx m:Nat) (p:Nat→Bool):Nat→Prop:=fun o=>o<nx∨∃k,k<m∧p k=true∧nx+stride*k≤o∧o<nx+stride*k+stride
theorem Rel.Bf {H:Nat→Option cB} {D D':Nat→Prop} {w:World} {I:Nat→Prop} {O:OM} (h:∀o,D o→D' o) (hR:Rel cfg cx H D w I O):Rel cfg cx H D' w I O:=
 { hR with
  used:=fun o p hp=>h o (hR.used o p hp)
  objs:=fun o ob p h1 h2=>(hR.objs o ob p h1 h2).mono (fun _ h=>h) (fun _ _=>rfl) (fun _ _=>.inl rfl) h hR.used (fun _ _ _ _=>rfl)
  Dm:=fun o ho=>h o (hR.Dm o ho) }
theorem uH.Bf {H:Nat→Option cB} {D D':Nat→Prop} {w:World} {I:Nat→Prop} {O:OM} {T:Nat→AV} {V:Nat→Bool} {a:Act} (h:∀o,D o→D' o) (hR:Rel cfg cx H D w I O) (hT:uH N ds T V a w I O D):uH N ds T V a w I O D':=
 ⟨hT.defers,hT.size,fun t ht=>(hT.rep t ht).mono (fun _ h=>h) (fun _ _=>rfl) (fun _ _=>.inl rfl) h hR.used,hT.gone⟩
theorem Vd {T T':Nat→AV} {V V':Nat→Bool} {op:Op} (h:∀t,Operand.tmp t∈op.operands.toList→T' t=T t∧V' t=V t) (hv:zC T V op):zC T' V' op:=by
 cases op with
 | pick c x y=>
  obtain ⟨h1,h2,h3⟩:=hv;have hc:zC.rhoB T' c=zC.rhoB T c:=by
   cases c with
   | tmp t=>simp only [zC.rhoB]; rw [(h t (by simp [Op.operands])).1]
   | const k=>cases k<;>rfl
   | _=>rfl
  refine ⟨fun t e=>?_,fun hb t e=>?_,fun hb t e=>?_⟩
  ·rw [(h t (by subst e; simp [Op.operands])).2]; exact h1 t e
  ·rw [(h t (by subst e; simp [Op.operands])).2]; rw [hc] at hb; exact h2 hb t e
  ·rw [(h t (by subst e; simp [Op.operands])).2]; rw [hc] at hb; exact h3 hb t e
 | _=>exact fun t ht=>by rw [(h t ht).2]; exact hv t ht
theorem dQ.adS {Sp:kY} {H H':Nat→Option cB} {pg:Pg} {v:AV} {ups:jh} {r:List Nat} (h:dQ Sp H pg v ups r):(∀o,o∈r→H' o=H o)→dQ Sp H' pg v ups r:=by
 induction h with
 | ret v ups=>exact fun _=>.ret v ups
 | need hp _ ih=>exact fun hr=>.need hp (ih hr)
 | rd ho _ ih=>exact fun hr=>.rd ((hr _ (by simp)).trans ho) (ih fun o ho=>hr o (List.mem_cons_of_mem _ ho))
 | call hs _ ih=>exact fun hr=>.call hs (ih hr)
theorem Xf {nid:Nat} {op:Op} {ρ ρ':Operand→AV} (h:∀x∈op.operands.toList,ρ' x=ρ x):eP cfg nid op ρ'=eP cfg nid op ρ:=by
 have pairs:∀ps:List (Nat×Operand),(∀p∈ps,ρ' p.2=ρ p.2)→(ps.map fun p=>(p.1,ρ' p.2))=ps.map fun p=>(p.1,ρ p.2):=fun ps hp=>List.map_congr_left fun p hm=>by rw [hp p hm]
 cases op with
 | move x=>simp only [eP]; rw [h x (by simp [Op.operands])]
 | assign x=>simp only [eP]; rw [h x (by simp [Op.operands])]
 | pick c x y=>simp only [eP]; rw [h x (by simp [Op.operands]),h y (by simp [Op.operands]),h c (by simp [Op.operands])]
 | box t x=>simp only [eP]; rw [h x (by simp [Op.operands])]
 | build t parts=>simp only [eP]; rw [pairs parts.toList fun p hp=>h p.2 (by simp only [Op.operands,List.mem_map]; exact ⟨p,hp,rfl⟩)]
 | buildSlice t len parts=>simp only [eP]; rw [pairs parts.toList fun p hp=>h p.2 (by simp only [Op.operands,List.mem_map]; exact ⟨p,hp,rfl⟩)]
 | load t x=>simp only [eP]; rw [h x (by simp [Op.operands])]
 | store t x y=>simp only [eP]; rw [h x (by simp [Op.operands]),h y (by simp [Op.operands])]
 | nilCheck x=>simp only [eP]; rw [h x (by simp [Op.operands])]
 | binOp op t x y t'=>simp only [eP]; rw [h x (by simp [Op.operands]),h y (by simp [Op.operands])]
 | unOp op t x=>simp only [eP]; rw [h x (by simp [Op.operands])]
 | convert s d x=>simp only [eP]; rw [h x (by simp [Op.operands])]
 | makeFunc fn first cap=>
  simp only [eP];have:cap.toList.map ρ'=cap.toList.map ρ:=List.map_congr_left fun x hx=>h x (by simp only [Op.operands,Array.toList_append,List.mem_append]; exact .inr hx);rw [this]
 | makeSlice t l c=>simp only [eP]; rw [h l (by simp [Op.operands])]
 | slice t x lo hi mx=>
  have h1:lo.map ρ'=lo.map ρ:=by
   cases lo with
   | none=>rfl
   | some y=>simp only [Option.map_some]; rw [h y (by simp [Op.operands])]
  have h2:hi.map ρ'=hi.map ρ:=by
   cases hi with
   | none=>rfl
   | some y=>simp only [Option.map_some]; rw [h y (by simp [Op.operands])]
  have h3:∀k,Yy ρ' hi mx k=Yy ρ hi mx k:=fun k=>by
   unfold Yy;cases mx with
   | none=>rfl
   | some m=>cases hi with
    | none=>rfl
    | some y=>
     simp only
     rw [h y (by simp [Op.operands]),h m (by simp [Op.operands])]
  have h4:mx.map ρ'=mx.map ρ:=by
   cases mx with
   | none=>rfl
   | some y=>simp only [Option.map_some]; rw [h y (by simp [Op.operands])]
  simp only [eP];rw [h x (by simp [Op.operands]),h1,h2,h4];simp only [h3]
 | fieldAddr s x f=>simp only [eP]; rw [h x (by simp [Op.operands])]
 | field s x f=>simp only [eP]; rw [h x (by simp [Op.operands])]
 | indexAddr t x ix=>simp only [eP]; rw [h x (by simp [Op.operands]),h ix (by simp [Op.operands])]
 | extract t i=>simp only [eP]; rw [h t (by simp [Op.operands])]
 | index t x ix=>simp only [eP]; rw [h x (by simp [Op.operands]),h ix (by simp [Op.operands])]
 | makeMap t r=>cases r<;>rfl
 | lookup t x ix ok=>
  cases ok with
  | false=>simp only [eP]; rw [h x (by simp [Op.operands]),h ix (by simp [Op.operands])]
  | true=>rfl
 | mapUpdate t x ix y=>simp only [eP]; rw [h x (by simp [Op.operands]),h ix (by simp [Op.operands]),h y (by simp [Op.operands])]
 | call c=>
  have h1:c.args.toList.map ρ'=c.args.toList.map ρ:=List.map_congr_left fun x hx=>h x (by simp only [Op.operands,Call.operands,Array.toList_append,List.mem_append]; exact .inr hx);simp only [eP];rw [h1];cases hc:c.callee with
  | value f=>simp only; rw [h f (by simp [Op.operands,Call.operands,hc])]
  | builtin b=>cases b<;>rfl
  | invoke x m=>rfl
 | _=>rfl
end
end Go.Ab


namespace Go.Ab
section
variable {P:Program} {cfg:rU} {cx:Ctx} {N:Nat} {ds:List Deferred}
def FW (r:Option Nat):Fence:={ Fence.wide with round:=r }
theorem JY {r:Option Nat} {n:Nat} {f:FuncId} {args:Array Value} {w:World} {R:Ending→World→Prop} (h:Calls P f args w R):CallsIn (FW r) n P f args w R:=(callsIn_wide (n:=n)).2 h
theorem YT {r:Option Nat} {n:Nat} {row:String} {args:Array Value} {w:World} {R:Value→World→Prop} (h:Rows P row args w R):RowsIn (FW r) n P row args w R:=by
 intro c cs _;obtain ⟨v,w',h1,h2⟩:=h c cs;exact ⟨v,w',h1,stepsIn_wide.2 h2⟩
theorem TS {r:Option Nat} {n:Nat} {o:Oper} {a:Act} {w:World} {K:Act→World→Prop} {Q:Exit→Act→World→Prop} (ho:∀c,o.op≠.defer c) (h:o.wp P a w K Q):o.wpIn (FW r) n P a w K Q:=by
 refine ⟨fun _ _=>trivial,?_⟩;rw [Oper.semAt_eq _ _ _ ho];unfold Oper.wp at h;generalize (execOp a.eval o).run P w=res at h;cases res with
 | ok x w'=>
  cases x with
  | value v=>exact h
  | skip=>exact h
  | defer d=>exact h
  | enter f args=>exact ⟨(fun h=>by cases h),JY h⟩
  | row s args=>exact ⟨(fun h=>by cases h),YT h⟩
  | _=>exact h.elim
 | halt x w'=>
  cases x with
  | panic v=>exact h
  | _=>exact h.elim
theorem Ve (hc:fq P cfg) {r:Option Nat} {n0:Nat} {ops:Array Oper} {nx:Nat} {T0:Nat→AV} {H0:Nat→Option cB} {ent:Nat→TE} (htr:TrI cfg (Spec P cfg) ops.toList nx T0 H0 ent) (hok:nK N ops.toList ops.toList 0=true)
  {p:Nat→Bool} {i:Nat} {o:Oper} (hi:ops[i]? = some o) (hpi:p i=false)
  (hT:∀t,t∈looks ops.toList o→Bd ops.toList ent p ops.size T0 t=Bd ops.toList ent yes i T0 t∧IK ops.toList ent p ops.size t=IK ops.toList ent yes i t)
  (hH:(ent i).ex=true→∀b,b∈(ent i).rds→Kz ent p ops.size H0 b=Kz ent yes i H0 b)
  (hTa:∀t,Ya ops.toList i t=true→∀k,i<k→p k=true→Ya ops.toList k t=false) (hHa:∀b,ZU ent i b=true→∀k,i<k→p k=true→ZU ent k b=false)
  {a:Act} {w:World} {I:Nat→Prop} {O:OM} (hR:Rel cfg cx (Kz ent p ops.size H0) (Dat nx ops.size p) w I O) (hTR:uH N ds (Bd ops.toList ent p ops.size T0) (IK ops.toList ent p ops.size) a w I O (Dat nx ops.size p))
  {K:Act→World→Prop} {Q:Exit→Act→World→Prop}
  (hK:∀a' w' I' O',Rel cfg cx (Kz ent (fun j=>p j||decide (j=i)) ops.size H0) (Dat nx ops.size (fun j=>p j||decide (j=i))) w' I' O'→
    uH N ds (Bd ops.toList ent (fun j=>p j||decide (j=i)) ops.size T0) (IK ops.toList ent (fun j=>p j||decide (j=i)) ops.size) a' w' I' O' (Dat nx ops.size (fun j=>p j||decide (j=i)))→K a' w'):
  wpOpIn (FW r) n0 P ops Q i K a w:=by
 have hlt:i<ops.size:=(Array.getElem?_eq_some_iff.1 hi).1;have hil:ops.toList[i]? = some o:=by simpa using hi
 obtain ⟨h1,h2,h3,h4⟩:=htr i o hil;obtain ⟨hop,hdN⟩:=JX ops.toList 0 hok i o hil;rw [Nat.zero_add] at hop;have hKn:=htr.known hok i (by simp; omega);have hTT:∀t,Ya ops.toList i t=decide (o.dst=some t):=fun t=>by unfold Ya; rw [hil]
 have e1:Bd ops.toList ent (fun j=>p j||decide (j=i)) ops.size T0=jE (Bd ops.toList ent p ops.size T0) o.dst (ent i).v:=by
  funext t;unfold Bd;rw [TR _ _ p T0 t i (hTa t) ops.size hlt,hTT];cases hd:o.dst with
  | none=>simp [jE]
  | some d=>
   by_cases h:t=d
   ·subst h; simp [jE]
   ·have:¬ d=t:=fun e=>h e.symm;simp [jE,h,this]
 have e2:IK ops.toList ent (fun j=>p j||decide (j=i)) ops.size=jE (IK ops.toList ent p ops.size) o.dst (ent i).ex:=by
  funext t;unfold IK;rw [TR _ _ p _ t i (hTa t) ops.size hlt,hTT];cases hd:o.dst with
  | none=>simp [jE]
  | some d=>
   by_cases h:t=d
   ·subst h; simp [jE]
   ·have:¬ d=t:=fun e=>h e.symm;simp [jE,h,this]
 have e3:Kz ent (fun j=>p j||decide (j=i)) ops.size H0=jQ (Kz ent p ops.size H0) (ent i).ups:=by
  funext b;unfold Kz;rw [TR _ _ p H0 b i (hHa b) ops.size hlt];have hw:ZU ent i b=(look (ent i).ups b).isSome:=rfl;have hg:gH ent i b=match look (ent i).ups b with | some x=>x | none=>none:=rfl
  rw [hw,hg];unfold jQ;cases look (ent i).ups b<;>simp
 have hD:∀b,xY (Dat nx ops.size p) (nx+stride*i) b→Dat nx ops.size (fun j=>p j||decide (j=i)) b:=by
  rintro b ((h | ⟨k,q1,q2,q3⟩) | h)
  ·exact .inl h
  ·exact .inr ⟨k,q1,by simp [q2],q3⟩
  ·exact .inr ⟨i,hlt,by simp,h⟩
 have hnD:PO (Dat nx ops.size p) (nx+stride*i):=by
  rintro b hb1 hb2 (h | ⟨k,q1,q2,q3,q4⟩)
  ·omega
  ·have:k=i:=by
    rcases Nat.lt_trichotomy k i with e | e | e
    ·have:=Nat.mul_le_mul_left stride (show k+1≤i from e);rw [Nat.mul_add,Nat.mul_one] at this;omega
    ·exact e
    ·have:=Nat.mul_le_mul_left stride (show i+1≤k from e);rw [Nat.mul_add,Nat.mul_one] at this;omega
   subst this;rw [hpi] at q2;cases q2
 have hseen:jT ops.toList (Bd ops.toList ent p ops.size T0) o:=by
  unfold jT at h1 ⊢;cases hg:o.guard with
  | none=>trivial
  | some g=>
   obtain ⟨j,b⟩:=g;rw [hg] at h1;obtain ⟨d,c,q1,q2⟩:=h1;refine ⟨d,c,q1,?_⟩;rw [(hT d (by unfold looks; rw [hg]; simp [q1])).1];exact q2
 have hgon:iN ops.toList (Bd ops.toList ent p ops.size T0) (IK ops.toList ent p ops.size) o=(ent i).ex:=by
  rw [h2];unfold iN;cases hg:o.guard with
  | none=>rfl
  | some g=>
   obtain ⟨j,b⟩:=g;simp only;cases hd:NA ops.toList j with
   | none=>rfl
   | some d=>
    simp only;obtain ⟨q1,q2⟩:=hT d (by unfold looks; rw [hg]; simp [hd]);rw [q1,q2]
 unfold wpOpIn;rw [hi];simp only;rw [YS hTR o hseen,hgon];cases hex:(ent i).ex with
 | true=>
  rw [if_pos rfl];have hnd:∀c,o.op≠.defer c:=fun c hc=>by
   have:=h3 hex;rw [hc] at this;exact (dQ.aR this).elim
  refine TS hnd ?_;have hopr:∀t,Operand.tmp t∈o.op.operands.toList→t∈looks ops.toList o:=fun t ht=>by
   unfold looks;rw [List.mem_append];exact .inl (List.mem_filterMap.2 ⟨.tmp t,ht,rfl⟩)
  have hval:zC (Bd ops.toList ent p ops.size T0) (IK ops.toList ent p ops.size) o.op:=
   Vd (fun t ht=>hT t (hopr t ht)) (Xe hKn hop (by rw [← h2]; exact hex))
  have hev:dQ (Spec P cfg) (Kz ent p ops.size H0) (eP cfg (nx+stride*i) o.op (Pz cfg (Bd ops.toList ent p ops.size T0))) (ent i).v (ent i).ups (ent i).rds:=by
   have hcong:eP cfg (nx+stride*i) o.op (Pz cfg (Bd ops.toList ent p ops.size T0))=eP cfg (nx+stride*i) o.op (Pz cfg (Bd ops.toList ent yes i T0)):=Xf fun x hx=>by
    cases x with
    | tmp t=>exact (hT t (hopr t hx)).1
    | _=>rfl
   rw [hcong];exact (h3 hex).adS (hH hex)
  refine YR hc hR hTR hnD hval hdN hev fun a' w' I' O' hR' hT'=>hK a' w' I' O' ?_ ?_
  ·rw [e3]; exact hR'.Bf hD
  ·rw [e1,e2,hex]; exact hT'.Bf hD hR'
 | false=>
  rw [if_neg (by simp)];have hu:=h4 hex;have hR2:Rel cfg cx (Kz ent (fun j=>p j||decide (j=i)) ops.size H0) (Dat nx ops.size (fun j=>p j||decide (j=i))) w I O:=by
   rw [e3,hu,xZ];exact hR.Bf fun b h=>hD b (.inl h)
  refine ⟨fun _ _=>trivial,hK _ w I O hR2 ?_⟩;rw [e1,e2,hex];refine uH.put (hTR.Bf (fun b h=>hD b (.inl h)) hR) (fun _ _ h=>h) o.dst hdN _ _ false (fun h=>by cases h) (fun _=>rfl)
theorem Vf (hc:fq P cfg) {r:Option Nat} {n0:Nat} {ops:Array Oper} {id nx:Nat} {T0:Nat→AV} {H0:Nat→Option cB} {ent:Nat→TE} (htr:TrI cfg (Spec P cfg) ops.toList nx T0 H0 ent) (hok:nK N ops.toList ops.toList 0=true)
  {a:Act} {w:World} {I:Nat→Prop} {O:OM} (hR:Rel cfg cx H0 (fun o=>o<nx) w I O) (hTR:uH N ds T0 (fun _=>true) a w I O (fun o=>o<nx)) {Q:Exit→Act→World→Prop}
  (hQ:∀a' w' I' O',Rel cfg cx (Kz ent yes ops.size H0) (fun o=>o<nx+stride*ops.size) w' I' O'→uH N ds (Bd ops.toList ent yes ops.size T0) (IK ops.toList ent yes ops.size) a' w' I' O' (fun o=>o<nx+stride*ops.size)→Q .normal a' w'):
  (Code.region id ops false).wpIn (FW r) n0 P Q a w:=by
 refine wpIn_region ?_;have key:∀(n k:Nat),k+n=ops.size→∀(a:Act) (w:World) (I:Nat→Prop) (O:OM),Rel cfg cx (Kz ent (fun j=>decide (j<k)) ops.size H0) (Dat nx ops.size (fun j=>decide (j<k))) w I O→
   uH N ds (Bd ops.toList ent (fun j=>decide (j<k)) ops.size T0) (IK ops.toList ent (fun j=>decide (j<k)) ops.size) a w I O (Dat nx ops.size (fun j=>decide (j<k)))→wpOpsIn (FW r) n0 P ops Q (List.range' k n) a w:=by
  intro n
  induction n with
  | zero=>
   intro k hk a w I O hR hT
   have hkn:k=ops.size:=by omega
   subst hkn
   have e1:Kz ent (fun j=>decide (j<ops.size)) ops.size H0=Kz ent yes ops.size H0:=funext fun t=>nL _ _ _ t _ _ (Nat.le_refl _)
   have e2:Bd ops.toList ent (fun j=>decide (j<ops.size)) ops.size T0=Bd ops.toList ent yes ops.size T0:=funext fun t=>nL _ _ _ t _ _ (Nat.le_refl _)
   have e3:IK ops.toList ent (fun j=>decide (j<ops.size)) ops.size=IK ops.toList ent yes ops.size:=funext fun t=>nL _ _ _ t _ _ (Nat.le_refl _)
   rw [e1] at hR
   rw [e2,e3] at hT
   have hD:∀o,Dat nx ops.size (fun j=>decide (j<ops.size)) o→o<nx+stride*ops.size:=by
    rintro o (h | ⟨k,q1,_,q3,q4⟩)
    ·omega
    ·have:=Nat.mul_le_mul_left stride (show k+1≤ops.size from q1)
     rw [Nat.mul_add,Nat.mul_one] at this
     omega
   exact hQ a w I O (hR.Bf hD) (hT.Bf hD hR)
  | succ n ih=>
   intro k hk a w I O hR hT
   have hlt:k<ops.size:=by omega
   rw [List.range'_succ,wpOpsIn_cons]
   have hp:(fun j=>decide (j<k)||decide (j=k))=fun j=>decide (j<k+1):=by
    funext j
    by_cases h1:j<k
    ·simp [h1,show j<k+1 by omega]
    ·by_cases h2:j=k
     ·simp [h2]
     ·simp [h1,h2,show ¬ j<k+1 by omega]
   refine Ve hc htr hok (Array.getElem?_eq_getElem hlt) (p:=fun j=>decide (j<k)) (by simp) (fun t _=>⟨nL _ _ _ t _ _ om,nL _ _ _ t _ _ om⟩) (fun _ b _=>nL _ _ _ b _ _ om)
    (fun t _ j hj hpj=>by simp at hpj; omega) (fun b _ j hj hpj=>by simp at hpj; omega) hR hT fun a' w' I' O' hR' hT'=>?_
   rw [hp] at hR' hT'
   exact ih (k+1) om a' w' I' O' hR' hT'
 have e0:∀ {α:Type} (wr:Nat→Nat→Bool) (g:Nat→Nat→α) (F:Nat→α),sel wr g (fun j=>decide (j<0)) ops.size F=F:=fun wr g F=>funext fun t=>nL wr g F t 0 ops.size (Nat.zero_le _);rw [List.range_eq_range'];refine key ops.size 0 om a w I O ?_ ?_
 ·unfold Kz;rw [e0];exact hR.Bf fun o h=>.inl h
 ·unfold Bd IK;rw [e0,e0];exact hTR.Bf (fun o h=>.inl h) hR
end
end Go.Ab

namespace Go.Ab
section
variable {P:Program} {cfg:rU} {cx:Ctx} {N:Nat} {ds:List Deferred}
def Closed (ops:Array Oper) (listed:Array Bool):Prop:=∀(j:Nat) (o:Oper),ops[j]? = some o→listed.getD j false=true→∀e∈o.after,Region.binds .any e=true→listed.getD e.on false=true
theorem Jj {ops:Array Oper} {listed:Array Bool} (hcl:Closed ops listed):∀(f i j:Nat),before ops.toList f i j=true→(∀o,ops[j]? = some o→∀e∈o.after,Region.binds .any e=true→listed.getD e.on false=true)→listed.getD i false=true:=by
 intro f;induction f with
 | zero=>intro i j h; cases h
 | succ f ih=>
  intro i j h hj;unfold before at h;rw [Qb] at h;cases ho:ops[j]? with
  | none=>rw [show ops.toList[j]? = none by simpa using ho] at h; cases h
  | some o=>
   rw [show ops.toList[j]? = some o by simpa using ho] at h;simp only [List.any_eq_true,Bool.and_eq_true,Bool.or_eq_true] at h;obtain ⟨e,he,⟨hb,_⟩,h2⟩:=h;have hl:=hj o ho e (by simpa using he) hb;rcases h2 with h2 | h2
   ·rw [← Nat.eq_of_beq_eq_true h2]; exact hl
   ·exact ih i e.on h2 fun o' ho'=>hcl e.on o' ho' hl
theorem NP {all:List Oper}:∀(l:List Oper) (i:Nat),Mf all l i=true→∀k o,l[k]? = some o→TA o (i+k)=true∧Fx all (i+k) o all 0=true:=by
 intro l;induction l with
 | nil=>intro i _ k o h; simp at h
 | cons x l ih=>
  intro i h k o hk;simp only [Mf,Bool.and_eq_true] at h;cases k with
  | zero=>simp at hk; subst hk; exact h.1
  | succ k=>
   have:=ih (i+1) h.2 k o (by simpa using hk);rwa [Nat.add_assoc,Nat.add_comm 1 k] at this
theorem Rv {all:List Oper} {j:Nat} {oj:Oper}:∀(l:List Oper) (i:Nat),Fx all j oj l i=true→∀k o,l[k]? = some o→i+k<j→PE all o oj=true∨before all 40 (i+k) j=true:=by
 intro l;induction l with
 | nil=>intro i _ k o h; simp at h
 | cons x l ih=>
  intro i h k o hk hlt;unfold Fx at h;have hij:Nat.blt i j=true:=by simp; omega
  simp only [hij,Bool.and_eq_true,Bool.or_eq_true] at h;cases k with
  | zero=>simp at hk; subst hk; exact h.1
  | succ k=>
   have:=ih (i+1) h.2 k o (by simpa using hk) om;rwa [Nat.add_assoc,Nat.add_comm 1 k] at this
theorem SG {x:Nat} {l:List Nat} (h:x∈l):wK x l=true:=by
 induction l with
 | nil=>cases h
 | cons b l ih=>
  unfold wK;cases hb:Nat.beq x b with
  | true=>rfl
  | false=>
   rcases List.mem_cons.1 h with e | e
   ·subst e; simp at hb
   ·exact ih e
theorem FL {all:List Oper} {x y:Oper} (h:PE all x y=true):(∀d,x.dst=some d→d ∉ looks all y)∧(∀d,y.dst=some d→d ∉ looks all x)∧(∀d,x.dst=some d→y.dst≠some d):=by
 unfold PE at h;simp only [Bool.and_eq_true,Bool.not_eq_true'] at h;obtain ⟨⟨h1,h2⟩,h3⟩:=h;refine ⟨fun d hd hm=>?_,fun d hd hm=>?_,fun d hd hm=>?_⟩
 ·rw [hd] at h1; simp only [isIn] at h1; rw [SG hm] at h1; cases h1
 ·rw [hd] at h2; simp only [isIn] at h2; rw [SG hm] at h2; cases h2
 ·rw [hd,hm] at h3; simp [isIn,wK] at h3
theorem Vg {l:List Nat} {p:Nat→Bool} {i:Nat} (hi:i∈l) (hp:p i=true):(l.filter fun k=>p k&&!decide (k=i)).length<(l.filter p).length:=by
 have le:∀l:List Nat,(l.filter fun k=>p k&&!decide (k=i)).length≤(l.filter p).length:=by
  intro l;induction l with
  | nil=>exact Nat.le_refl _
  | cons x l ih=>
   rw [List.filter_cons,List.filter_cons];cases hx:p x with
   | true=>
    rw [if_pos rfl];split
    ·simp only [List.length_cons]; omega
    ·simp only [List.length_cons]; omega
   | false=>simpa using ih
 induction l with
 | nil=>cases hi
 | cons x l ih=>
  rw [List.filter_cons,List.filter_cons];by_cases hxi:x=i
  ·subst hxi;rw [hp,if_pos rfl,if_neg (by simp)];have:=le l;simp only [List.length_cons];omega
  ·have hil:i∈l:=by rcases List.mem_cons.1 hi with e | e; exact absurd e.symm hxi; exact e
   have:=ih hil;cases hx:p x with
   | true=>
    rw [if_pos rfl,if_pos (by simp [hxi])];simp only [List.length_cons];omega
   | false=>simpa using this
def adv (ops:Array Oper) (ent:Nat→TE):Prop:=∀i j,i<j→j<ops.size→before ops.toList 40 i j=true∨
 ((∀b,ZU ent i b=true→(ent j).ex=true→b ∉ (ent j).rds)∧(∀b,ZU ent j b=true→(ent i).ex=true→b ∉ (ent i).rds)∧(∀b,ZU ent i b=true→ZU ent j b=false))
theorem Vh (hc:fq P cfg) {r:Option Nat} {n0:Nat} {ops:Array Oper} {id nx:Nat} {T0:Nat→AV} {H0:Nat→Option cB} {ent:Nat→TE} (htr:TrI cfg (Spec P cfg) ops.toList nx T0 H0 ent) (hok:nK N ops.toList ops.toList 0=true)
  (hdr:Mf ops.toList ops.toList 0=true) (hdyn:adv ops ent)
  {a:Act} {w:World} {I:Nat→Prop} {O:OM} (hR:Rel cfg cx H0 (fun o=>o<nx) w I O) (hTR:uH N ds T0 (fun _=>true) a w I O (fun o=>o<nx)) {Q:Exit→Act→World→Prop}
  (hQ:∀a' w' I' O',Rel cfg cx (Kz ent yes ops.size H0) (fun o=>o<nx+stride*ops.size) w' I' O'→uH N ds (Bd ops.toList ent yes ops.size T0) (IK ops.toList ent yes ops.size) a' w' I' O' (fun o=>o<nx+stride*ops.size)→Q .normal a' w'):
  (Code.region id ops true).wpIn (FW r) n0 P Q a w:=by
 refine wpIn_region_any hc.mixed ?_;have edges:∀k o,ops[k]? = some o→∀e∈o.after,Region.binds .any e=true→e.on<k:=by
  intro k o ho e he hb;obtain ⟨h1,_⟩:=NP ops.toList 0 hdr k o (by simpa using ho);unfold TA at h1;rw [Nat.zero_add,List.all_eq_true] at h1;have:=h1 e (by simpa using he);simpa [hb] using this
 have tmps:∀i j oi oj,i<j→ops[i]? = some oi→ops[j]? = some oj→PE ops.toList oi oj=true∨before ops.toList 40 i j=true:=by
  intro i j oi oj hij hi hj;obtain ⟨_,h2⟩:=NP ops.toList 0 hdr j oj (by simpa using hj);rw [Nat.zero_add] at h2;have:=Rv ops.toList 0 h2 i oi (by simpa using hi) om;rwa [Nat.zero_add] at this
 have wrTs:∀k t,Ya ops.toList k t=true→∃o,ops[k]? = some o∧o.dst=some t:=by
  intro k t h;unfold Ya at h;split at h
  ·rename_i o ho;exact ⟨o,by simpa using ho,by simpa using h⟩
  ·cases h
 have key:∀(fuel:Nat) (listed:Array Bool) (a:Act) (w:World) (I:Nat→Prop) (O:OM),listed.size=ops.size→Closed ops listed→((List.range ops.size).filter fun k=>!listed.getD k false).length≤fuel→
   Rel cfg cx (Kz ent (fun k=>listed.getD k false) ops.size H0) (Dat nx ops.size (fun k=>listed.getD k false)) w I O→
   uH N ds (Bd ops.toList ent (fun k=>listed.getD k false) ops.size T0) (IK ops.toList ent (fun k=>listed.getD k false) ops.size) a w I O (Dat nx ops.size (fun k=>listed.getD k false))→wpAnyIn (FW r) n0 P .any ops Q fuel listed a w:=by
  intro fuel
  have done:∀(listed:Array Bool) (a:Act) (w:World) (I:Nat→Prop) (O:OM),(∀k,k<ops.size→listed.getD k false=true)→
    Rel cfg cx (Kz ent (fun k=>listed.getD k false) ops.size H0) (Dat nx ops.size (fun k=>listed.getD k false)) w I O→
    uH N ds (Bd ops.toList ent (fun k=>listed.getD k false) ops.size T0) (IK ops.toList ent (fun k=>listed.getD k false) ops.size) a w I O (Dat nx ops.size (fun k=>listed.getD k false))→Q .normal a w:=by
   intro listed a w I O hall hR hT
   have e:∀ {α:Type} (wr:Nat→Nat→Bool) (g:Nat→Nat→α) (F:Nat→α),sel wr g (fun k=>listed.getD k false) ops.size F=sel wr g yes ops.size F:=fun wr g F=>funext fun t=>Bc wr g _ _ F t _ fun k hk _=>hall k hk
   unfold Kz at hR
   unfold Bd IK at hT
   rw [e] at hR
   rw [e,e] at hT
   have hD:∀o,Dat nx ops.size (fun k=>listed.getD k false) o→o<nx+stride*ops.size:=by
    rintro o (h | ⟨k,q1,_,q3,q4⟩)
    ·omega
    ·have:=Nat.mul_le_mul_left stride (show k+1≤ops.size from q1)
     rw [Nat.mul_add,Nat.mul_one] at this
     omega
   exact hQ a w I O (hR.Bf hD) (hT.Bf hD hR)
  have full:∀(listed:Array Bool),listed.size=ops.size→Region.ready .any ops listed=[]→∀k,k<ops.size→listed.getD k false=true:=by
   intro listed hls hr k
   induction k using Nat.strongRecOn with
   | _ k ih=>
    intro hk
    cases hl:listed.getD k false with
    | true=>rfl
    | false=>
     have:k∈Region.ready .any ops listed:=mem_ready.2 ⟨by
      have hlt:k<listed.size:=by omega
      simp [hlt] at hl ⊢; exact hl,ops[k],Array.getElem?_eq_getElem hk,fun e he hb=>ih e.on (edges k _ (Array.getElem?_eq_getElem hk) e he hb) (Nat.lt_trans (edges k _ (Array.getElem?_eq_getElem hk) e he hb) hk)⟩
     rw [hr] at this
     cases this
  induction fuel with
  | zero=>
   intro listed a w I O hls hcl hcnt hR hT
   have hall:∀k,k<ops.size→listed.getD k false=true:=by
    intro k hk
    cases hl:listed.getD k false with
    | true=>rfl
    | false=>
     have:k∈(List.range ops.size).filter fun k=>!listed.getD k false:=List.mem_filter.2 ⟨List.mem_range.2 hk,by rw [hl]; rfl⟩
     have:=List.length_pos_of_mem this
     omega
   refine ⟨?_,done listed a w I O hall hR hT⟩
   rw [List.eq_nil_iff_forall_not_mem]
   intro k hk
   obtain ⟨h1,o,h2,_⟩:=mem_ready.1 hk
   have hlt:k<ops.size:=(Array.getElem?_eq_some_iff.1 h2).1
   have:=hall k hlt
   have hlt':k<listed.size:=by omega
   simp [hlt'] at this h1
   rw [this] at h1
   cases h1
  | succ fuel ih=>
   intro listed a w I O hls hcl hcnt hR hT
   refine ⟨fun hr=>done listed a w I O (full listed hls hr) hR hT,fun i hi=>?_⟩
   obtain ⟨h1,o,ho,hed⟩:=mem_ready.1 hi
   have hlt:i<ops.size:=(Array.getElem?_eq_some_iff.1 ho).1
   have hpi:listed.getD i false=false:=by
    have hlt':i<listed.size:=by omega
    simp [hlt'] at h1 ⊢; exact h1
   have hedi:∀o',ops[i]? = some o'→∀e∈o'.after,Region.binds .any e=true→listed.getD e.on false=true:=fun o' ho'=>by rw [ho] at ho'; cases ho'; exact hed
   have before_i:∀k,before ops.toList 40 k i=true→listed.getD k false=true:=fun k h=>Jj hcl 40 k i h hedi
   have after_i:∀k,before ops.toList 40 i k=true→listed.getD k false=false:=fun k h=>by
    cases hk:listed.getD k false with
    | false=>rfl
    | true=>
     have:=Jj hcl 40 i k h fun o' ho'=>hcl k o' ho' hk
     rw [hpi] at this
     cases this
   have hp:(fun j=>listed.getD j false||decide (j=i))=fun j=>(listed.setIfInBounds i true).getD j false:=by
    funext j
    by_cases hj:j=i
    ·subst hj
     have:j<listed.size:=by omega
     simp [this]
    ·rw [getD_set_ne false (fun e=>hj e.symm)]
     simp [hj]
   have eqAt:∀ {α:Type} (wr:Nat→Nat→Bool) (g:Nat→Nat→α) (F:Nat→α) (t:Nat),(∀k,k<ops.size→wr k t=true→k≠i→before ops.toList 40 (min k i) (max k i)=true)→
     sel wr g (fun j=>listed.getD j false) ops.size F t=sel wr g yes i F t:=by
    intro α wr g F t h
    refine (Bc wr g _ (fun j=>decide (j<i)) F t _ fun k hk hw=>?_).trans (nL wr g F t i ops.size om)
    by_cases hki:k=i
    ·subst hki; simpa using hpi
    ·have hb:=h k hk hw hki
     rcases Nat.lt_or_gt_of_ne hki with hlt' | hgt
     ·rw [Nat.min_eq_left om,Nat.max_eq_right om] at hb
      rw [before_i k hb]; simp [hlt']
     ·rw [Nat.min_eq_right om,Nat.max_eq_left om] at hb
      rw [after_i k hb]; simp; omega
   refine Ve hc htr hok ho (p:=fun j=>listed.getD j false) hpi (fun t ht=>?_) (fun hex b hb=>?_) (fun t ht k hik hpk=>?_) (fun b hb k hik hpk=>?_) hR hT fun a' w' I' O' hR' hT'=>?_
   ·have cond:∀k,k<ops.size→Ya ops.toList k t=true→k≠i→before ops.toList 40 (min k i) (max k i)=true:=by
     intro k hk hw hki
     obtain ⟨ok,hok',hdk⟩:=wrTs k t hw
     rcases Nat.lt_or_gt_of_ne hki with hlt' | hgt
     ·rw [Nat.min_eq_left om,Nat.max_eq_right om]
      rcases tmps k i ok o hlt' hok' ho with h | h
      ·exact absurd ht ((FL h).1 t hdk)
      ·exact h
     ·rw [Nat.min_eq_right om,Nat.max_eq_left om]
      rcases tmps i k o ok hgt ho hok' with h | h
      ·exact absurd ht ((FL h).2.1 t hdk)
      ·exact h
    exact ⟨eqAt _ _ _ t cond,eqAt _ _ _ t cond⟩
   ·refine eqAt _ _ _ b fun k hk hw hki=>?_
    rcases Nat.lt_or_gt_of_ne hki with hlt' | hgt
    ·rw [Nat.min_eq_left om,Nat.max_eq_right om]
     rcases hdyn k i hlt' hlt with h | h
     ·exact h
     ·exact absurd hb (h.1 b hw hex)
    ·rw [Nat.min_eq_right om,Nat.max_eq_left om]
     rcases hdyn i k hgt hk with h | h
     ·exact h
     ·exact absurd hb (h.2.1 b hw hex)
   ·cases hw:Ya ops.toList k t with
    | false=>rfl
    | true=>
     obtain ⟨oi,hoi,hdi⟩:=wrTs i t ht
     obtain ⟨ok,hok',hdk⟩:=wrTs k t hw
     rcases tmps i k oi ok hik hoi hok' with h | h
     ·exact absurd hdk ((FL h).2.2 t hdi)
     ·rw [after_i k h] at hpk; cases hpk
   ·by_cases hk:k<ops.size
    ·rcases hdyn i k hik hk with h | h
     ·rw [after_i k h] at hpk; cases hpk
     ·exact h.2.2 b hb
    ·have:listed.getD k false=false:=by simp [Array.getElem?_eq_none (show listed.size≤k by omega)]
     rw [this] at hpk; cases hpk
   ·rw [hp] at hR' hT'
    refine ih (listed.setIfInBounds i true) a' w' I' O' (by simp [hls]) ?_ ?_ hR' hT'
    ·intro j oj hj hl e he hb
     by_cases hji:j=i
     ·subst hji
      rw [ho] at hj
      cases hj
      exact getD_set_true (hed e he hb)
     ·rw [getD_set_ne false (fun e=>hji e.symm)] at hl
      exact getD_set_true (hcl j oj hj hl e he hb)
    ·have hlt':i<listed.size:=by omega
     have:=Vg (l:=List.range ops.size) (p:=fun k=>!listed.getD k false) (i:=i) (List.mem_range.2 hlt) (by rw [hpi]; rfl)
     have e2:((List.range ops.size).filter fun k=>!(listed.setIfInBounds i true).getD k false)=(List.range ops.size).filter fun k=>!listed.getD k false&&!decide (k=i):=by
      congr 1
      funext k
      rw [← congrFun hp k]
      simp
     rw [e2]
     omega
 have e0:(fun k=>(Array.replicate ops.size false).getD k false)=fun _=>false:=by
  funext k;rcases Nat.lt_or_ge k ops.size with h | h
  ·simp [h]
  ·simp [h]
 have e1:∀ {α:Type} (wr:Nat→Nat→Bool) (g:Nat→Nat→α) (F:Nat→α),sel wr g (fun _=>false) ops.size F=F:=fun wr g F=>funext fun t=>by
  have:=nL wr g F t 0 ops.size (Nat.zero_le _);refine (Bc wr g _ (fun j=>decide (j<0)) F t _ fun k _ _=>?_).trans this;simp
 refine key ops.size (Array.replicate ops.size false) a { w with drawn:=w.drawn+1 } I O (by simp) ?_ ?_ ?_ ?_
 ·intro j o _ h;rw [congrFun e0 j] at h;cases h
 ·exact Nat.le_trans (List.length_filter_le _ _) (by simp)
 ·rw [e0];unfold Kz;rw [e1];exact (Rel.CK (w:=w) (w':={ w with drawn:=w.drawn+1 }) rfl (eZ.heap rfl rfl rfl rfl) hR).Bf fun o h=>.inl h
 ·rw [e0];unfold Bd IK;rw [e1,e1];have hR1:=Rel.CK (w:=w) (w':={ w with drawn:=w.drawn+1 }) rfl (eZ.heap rfl rfl rfl rfl) hR;have:uH N ds T0 (fun _=>true) a { w with drawn:=w.drawn+1 } I O (fun o=>o<nx):=⟨hTR.defers,hTR.size,fun t ht=>Rep.CK (w:=w) (w':={ w with drawn:=w.drawn+1 }) rfl hR (hTR.rep t ht),hTR.gone⟩;exact this.Bf (fun o h=>.inl h) hR1
end
end Go.Ab

namespace Go.Ab
section
variable {P:Program} {cfg:rU} {cx:Ctx} {N:Nat} {Sp:kY}
theorem SH:∀(l:List AV) (K:List AV→Prop),Fh l K↔K l:=by
 intro l;induction l with
 | nil=>intro K; exact Iff.rfl
 | cons v l ih=>
  intro K;unfold Fh;rw [ih];cases v<;>exact Iff.rfl
theorem force_eq (v:AV) (K:AV→Prop):force v K↔K v:=by
 cases v<;>first | exact Iff.rfl | exact SH _ _
theorem Vi:∀(l:jh) (K:jh→Prop),xV l K↔K l:=by
 intro l;induction l with
 | nil=>intro K; exact Iff.rfl
 | cons u l ih=>
  intro K;obtain ⟨o,x⟩:=u;cases x with
  | none=>exact ih _
  | some x=>cases x with
   | box cs=>simp only [xV]; rw [SH]; exact ih _
   | row es n g=>exact ih _
   | map kd z f=>exact ih _
theorem Yb (H:jh):∀(ups:jh) (K:jh→Prop),aah ups H K↔K (ups++H):=by
 intro ups;induction ups with
 | nil=>intro K; exact Iff.rfl
 | cons u l ih=>intro K; unfold aah; exact ih _
theorem Ih (p:PC):∀(l:List PC) (K:List PC→Prop),JR l p K↔K (l++[p]):=by
 intro l;induction l with
 | nil=>intro K; exact Iff.rfl
 | cons q l ih=>intro K; unfold JR; exact ih _
theorem YU:∀(l:List PC) (j:Nat) (K:PC→Prop),WA l j K↔K (Fw l j):=by
 intro l;induction l with
 | nil=>intro j K; exact Iff.rfl
 | cons p l ih=>intro j K; cases j with
  | zero=>exact Iff.rfl
  | succ j=>exact ih j K
def holds (pc:PC):Prop:=∀q∈pc,q.1=q.2
theorem Ii:∀(pc:PC) (p:Prop) (K:Prop→Prop),YC pc p K→∃q:Prop,K q∧(q→holds pc→p):=by
 intro pc;induction pc with
 | nil=>intro p K h; exact ⟨p,h,fun h _=>h⟩
 | cons x l ih=>
  intro p K h;obtain ⟨c,b⟩:=x;obtain ⟨q,h1,h2⟩:=ih _ _ h;exact ⟨q,h1,fun hq hh=>h2 hq (fun y hy=>hh y (List.mem_cons_of_mem _ hy)) (hh (c,b) (by simp))⟩
theorem O7 (pc:PC) (H:Nat→Option cB):∀(pg:Pg) (rds:List Nat) (K:AV→jh→List Nat→Prop),ev Sp pc H pg rds K→∃v ups rds',K v ups rds'∧(∀x∈rds,x∈rds')∧(holds pc→∃r,dQ Sp H pg v ups r∧∀x∈r,x∈rds'):=by
 intro pg;induction pg with
 | ret v ups=>
  intro rds K h;unfold ev at h;rw [force_eq,Vi] at h;exact ⟨v,ups,rds,h,fun _ h=>h,fun _=>⟨[],.ret v ups,fun x hx=>by cases hx⟩⟩
 | need p k ih=>
  intro rds K h;unfold ev at h;obtain ⟨q,⟨h1,h2⟩,h3⟩:=Ii pc p _ h;obtain ⟨v,ups,rds',h4,h5,h6⟩:=ih rds K h2;refine ⟨v,ups,rds',h4,h5,fun hh=>?_⟩;obtain ⟨r,h7,h8⟩:=h6 hh;exact ⟨r,.need (h3 h1 hh) h7,h8⟩
 | rd o k ih=>
  intro rds K h;unfold ev at h;split at h
  ·rename_i x hx;obtain ⟨v,ups,rds',h4,h5,h6⟩:=ih x (o::rds) K h;refine ⟨v,ups,rds',h4,fun y hy=>h5 y (List.mem_cons_of_mem _ hy),fun hh=>?_⟩;obtain ⟨r,h7,h8⟩:=h6 hh;refine ⟨o::r,.rd hx h7,fun y hy=>?_⟩;rcases List.mem_cons.1 hy with e | e
   ·subst e; exact h5 y (by simp)
   ·exact h8 y e
  ·obtain ⟨q,⟨h1,h2⟩,h3⟩:=Ii pc False _ h;exact ⟨_,_,rds,h2,fun _ h=>h,fun hh=>(h3 h1 hh).elim⟩
 | call f args obs k ih=>
  intro rds K h;unfold ev at h;obtain ⟨r,obs',h⟩:=h;obtain ⟨q,⟨h1,h2⟩,h3⟩:=Ii pc _ _ h;obtain ⟨v,ups,rds',h4,h5,h6⟩:=ih r obs' rds K h2;refine ⟨v,ups,rds',h4,h5,fun hh=>?_⟩;obtain ⟨r',h7,h8⟩:=h6 hh;exact ⟨r',.call (h3 h1 hh) h7,h8⟩
 | fail=>
  intro rds K h;unfold ev at h;obtain ⟨q,⟨h1,h2⟩,h3⟩:=Ii pc False _ h;exact ⟨_,_,rds,h2,fun _ h=>h,fun hh=>(h3 h1 hh).elim⟩
def YV:List Oper→List TE→(Nat→AV)→Nat→AV
 | o::rest,e::tr,T=>YV rest tr (jE T o.dst e.v)
 | _,_,T=>T
def YW:List Oper→List TE→(Nat→Bool)→Nat→Bool
 | o::rest,e::tr,V=>YW rest tr (jE V o.dst e.ex)
 | _,_,V=>V
def YX:List TE→(Nat→Option cB)→Nat→Option cB
 | e::tr,H=>YX tr (jQ H e.ups)
 | [],H=>H
theorem sP (T:List (Nat×AV)) (d:Nat) (v:AV):tget ((d,v)::T)=jE (tget T) (some d) v:=by
 funext t;unfold tget jE;simp only [look];cases hb:Nat.beq d t with
 | true=>have:=Nat.eq_of_beq_eq_true hb; subst this; simp
 | false=>
  have:t≠d:=fun e=>by subst e; simp at hb
  simp [this]
theorem NQ (ups H:jh):hget (ups++H)=jQ (hget H) ups:=by
 funext o;unfold hget jQ;rw [FK];cases look ups o with
 | none=>rfl
 | some x=>cases x<;>rfl
theorem O8 (dst:Option Nat) (v u:AV) (T U:List (Nat×AV)) (K:List (Nat×AV)→List (Nat×AV)→Prop) (h:aai dst v u T U K):∃T' U',K T' U'∧tget T'=jE (tget T) dst v∧tget U'=jE (tget U) dst u:=by
 cases dst with
 | none=>exact ⟨T,U,h,rfl,rfl⟩
 | some d=>exact ⟨_,_,h,sP T d v,sP U d u⟩
def Yc:List TE→List Log→List Log→Prop
 | [],l,l0=>l=l0
 | e::tr,l,l0=>∃g:Log,(e.ex=true→(∀x∈e.rds,x∈g.rds))∧(∀x,(look e.ups x).isSome=true→x∈g.Wz)∧Yc tr l (g::l0)
theorem Vj (ups:jh) (x:Nat) (h:(look ups x).isSome=true):x∈ids ups:=by
 induction ups with
 | nil=>cases h
 | cons u l ih=>
  obtain ⟨o,y⟩:=u;simp only [look] at h;simp only [ids,List.mem_cons];cases hb:Nat.beq o x with
  | true=>exact .inl (Nat.eq_of_beq_eq_true hb).symm
  | false=>simp only [hb] at h; exact .inr (ih h)
theorem Xg (l:List PC) (p:PC) (j:Nat):Fw (l++[p]) j=if j<l.length then Fw l j else if j=l.length then p else []:=by
 induction l generalizing j with
 | nil=>cases j<;>simp [Fw]
 | cons q l ih=>
  cases j with
  | zero=>simp [Fw]
  | succ j=>
   simp only [List.cons_append,Fw,ih,List.length_cons];by_cases h1:j<l.length
   ·simp [h1]
   ·by_cases h2:j=l.length
    ·simp [h2]
    ·simp [h1,h2]
theorem upd_ne {α:Type} (F:Nat→α) (d:Option Nat) (x:α) (t:Nat) (h:d≠some t):jE F d x t=F t:=by
 cases d with
 | none=>rfl
 | some k=>
  have:t≠k:=fun e=>h (by rw [e]);simp [jE,this]
theorem JZ {α:Type} (F:Nat→α) (t:Nat) (x:α):jE F (some t) x t=x:=by simp [jE]
theorem Xh {all:List Oper} {nx:Nat} (hok:nK N all all 0=true):∀(rest:List Oper) (i:Nat) (T U:List (Nat×AV)) (H:jh) (pcs:List PC) (log:List Log) (K:St→List Log→Prop) (V:Nat→Bool),
  (∀j,rest[j]? = all[i+j]?)→pcs.length=i→(∀j d,j<i→writers all d=[j]→(V d=true↔holds (Fw pcs j)))→(∀t,tget U t=.undef∨(V t=true∧tget U t=tget T t))→
  UK cfg Sp all nx rest i T U H pcs log K→∃tr s log',Tr cfg Sp all nx rest i (tget T) V (hget H) tr∧tr.length=rest.length∧K s log'∧s.nx=nx+stride*(i+rest.length)∧hget s.heap=YX tr (hget H)∧
   (∀t,tget s.tmps t=.undef∨(YW rest tr V t=true∧tget s.tmps t=YV rest tr (tget T) t))∧Yc tr log' log:=by
 intro rest;induction rest with
 | nil=>
  intro i T U H pcs log K V _ _ _ hU h;exact ⟨[],_,log,trivial,rfl,h,rfl,rfl,hU,rfl⟩
 | cons o rest ih=>
  intro i T U H pcs log K V hr hpl hpc hU h;have hi:all[i]? = some o:=by simpa using (hr 0).symm
  have hop:=(JX all 0 hok i o hi).1;rw [Nat.zero_add] at hop;have hr':∀j,rest[j]? = all[i+1+j]? := fun j=>by
   have:=hr (j+1);rw [show i+(j+1)=i+1+j by omega] at this;simpa using this
  have go:∀(v u:AV) (ups:jh) (ex:Bool) (r:List Nat) (g:Log) (pc:PC) (T' U':List (Nat×AV)) (H':jh),jT all (tget T) o→ex=iN all (tget T) V o→(ex=true→dQ Sp (hget H) (eP cfg (nx+stride*i) o.op (Pz cfg (tget T))) v ups r)→(ex=false→ups=[])→
    tget T'=jE (tget T) o.dst v→tget U'=jE (tget U) o.dst u→hget H'=jQ (hget H) ups→(u=.undef∨(ex=true∧u=v))→(ex=true↔holds pc)→(ex=true→(∀x∈r,x∈g.rds))→(∀x,(look ups x).isSome=true→x∈g.Wz)→
    UK cfg Sp all nx rest (i+1) T' U' H' (pcs++[pc]) (g::log) K→∃tr s log',Tr cfg Sp all nx (o::rest) i (tget T) V (hget H) tr∧tr.length=(o::rest).length∧K s log'∧s.nx=nx+stride*(i+(o::rest).length)∧hget s.heap=YX tr (hget H)∧
     (∀t,tget s.tmps t=.undef∨(YW (o::rest) tr V t=true∧tget s.tmps t=YV (o::rest) tr (tget T) t))∧Yc tr log' log:=by
   intro v u ups ex r g pc T' U' H' g1 g2 g3 g4 g5 g6 g7 g8 g9 g10 g11 g12
   have hpc':∀j d,j<i+1→writers all d=[j]→(jE V o.dst ex d=true↔holds (Fw (pcs++[pc]) j)):=by
    intro j d hj hw
    rw [Xg,hpl]
    by_cases hji:j=i
    ·subst hji
     have:j∈writers all d:=by rw [hw]; simp
     obtain ⟨o',h1,h2⟩:=(qI all d j).1 this
     rw [hi] at h1
     cases h1
     rw [h2,JZ]
     simpa using g9
    ·have hne:o.dst≠some d:=fun e=>by
      have:i∈writers all d:=(qI all d i).2 ⟨o,hi,e⟩
      rw [hw] at this
      simp at this
      omega
     rw [upd_ne _ _ _ _ hne,if_pos om]
     exact hpc j d om hw
   have hU':∀t,tget U' t=.undef∨(jE V o.dst ex t=true∧tget U' t=tget T' t):=by
    intro t
    rw [g5,g6]
    by_cases hd:o.dst=some t
    ·rw [hd,JZ,JZ,JZ]
     rcases g8 with e | ⟨e1,e2⟩
     ·exact .inl e
     ·exact .inr ⟨e1,e2⟩
    ·rw [upd_ne _ _ _ _ hd,upd_ne _ _ _ _ hd,upd_ne _ _ _ _ hd]
     exact hU t
   obtain ⟨tr,s,log',q1,q2,q3,q4,q5,q6,q7⟩:=ih (i+1) T' U' H' (pcs++[pc]) (g::log) K (jE V o.dst ex) hr' (by simp [hpl]) hpc' hU' g12
   rw [g5,g7] at q1
   rw [g7] at q5
   rw [g5] at q6
   exact ⟨⟨ex,v,ups,r⟩::tr,s,log',⟨g1,g2,g3,g4,q1⟩,by simp [q2],q3,by rw [q4,show i+1+rest.length=i+(o::rest).length by simp; omega],q5,q6,g,g10,g11,q7⟩
  unfold UK at h;cases hg:o.guard with
  | none=>
   rw [hg] at h;simp only at h;obtain ⟨v,ups,rds',h1,_,h2⟩:=O7 _ _ _ _ _ h;obtain ⟨r,h3,h4⟩:=h2 (fun q hq=>by cases hq);obtain ⟨T',U',h5,h6,h7⟩:=O8 _ _ _ _ _ _ h1;rw [Yb,Ih] at h5;have hs:jT all (tget T) o:=by unfold jT; rw [hg]; trivial
   have hon:iN all (tget T) V o=true:=by unfold iN; rw [hg]
   exact go v v ups true r _ [] T' U' _ hs hon.symm (fun _=>h3) (fun e=>by cases e) h6 h7 (NQ ups H) (.inr ⟨rfl,rfl⟩) ⟨fun _ q hq=>by (cases hq),fun _=>rfl⟩ (fun _=>h4) (fun x hx=>Vj ups x hx) h5
  | some gu=>
   obtain ⟨j,b⟩:=gu;rw [hg] at h;simp only at h;cases hd:NA all j with
   | none=>rw [hd] at h; exact h.elim
   | some d=>
    rw [hd] at h;simp only at h;cases hT:tget T d with
    | bool c=>
     rw [hT] at h;simp only at h;have hjd:j<i∧writers all d=[j]:=by
      unfold UL at hop;rw [hg] at hop;simp only at hop;split at hop
      ·rename_i h1;split at h1
       ·rename_i hlt;rw [hd] at h1;simp only at h1;split at h1
        ·rename_i j' hw;have e:=Nat.eq_of_beq_eq_true h1;subst e;exact ⟨by simpa using hlt,hw⟩
        ·cases h1
       ·cases h1
      ·cases hop
     have hVd:=hpc j d hjd.1 hjd.2;have hs:jT all (tget T) o:=by unfold jT; rw [hg]; exact ⟨d,c,hd,hT⟩
     have hon:iN all (tget T) V o=(V d&&(c==b)):=by unfold iN; rw [hg]; simp only [hd,hT,isB]
     cases hq:X3 cfg o.op with
     | true=>
      rw [hq] at h;simp only at h;rw [YU] at h;obtain ⟨v,ups,rds',h1,_,h2⟩:=O7 _ _ _ _ _ h;cases ups with
      | cons u l=>exact h1.elim
      | nil=>
       simp only at h1;obtain ⟨T',U',h5,h6,h7⟩:=O8 _ _ _ _ _ _ h1;rw [Ih] at h5;have hiff:iN all (tget T) V o=true↔holds ((c,b)::Fw pcs j):=by
        rw [hon];simp only [Bool.and_eq_true,beq_iff_eq,hVd];constructor
        ·rintro ⟨q1,q2⟩ q hq;rcases List.mem_cons.1 hq with e | e
         ·subst e; exact q2
         ·exact q1 q e
        ·intro q;exact ⟨fun y hy=>q y (List.mem_cons_of_mem _ hy),q (c,b) (by simp)⟩
       cases hex:iN all (tget T) V o with
       | true=>
        obtain ⟨r,h3,h4⟩:=h2 (hiff.1 hex);exact go v .undef [] true r _ _ T' U' H hs hex.symm (fun _=>h3) (fun e=>by cases e) h6 h7 (by rw [xZ]) (.inl rfl) ⟨fun _=>hiff.1 hex,fun _=>rfl⟩ (fun _=>h4) (fun x hx=>by cases hx) h5
       | false=>
        exact go v .undef [] false [] _ _ T' U' H hs hex.symm (fun e=>by cases e) (fun _=>rfl) h6 h7 (by rw [xZ]) (.inl rfl) (by rw [← hex]; exact hiff) (fun e=>by cases e) (fun x hx=>by cases hx) h5
     | false=>
      rw [hq] at h;simp only at h;split at h
      ·rename_i hnil;have hV:V d=true:=hVd.2 (by rw [hnil]; exact fun q hq=>by cases hq);rw [hV,Bool.true_and] at hon;cases hcb:(c==b) with
       | true=>
        rw [hcb] at h;simp only [Sn] at h;obtain ⟨v,ups,rds',h1,_,h2⟩:=O7 _ _ _ _ _ h;obtain ⟨r,h3,h4⟩:=h2 (fun q hq=>by cases hq);obtain ⟨T',U',h5,h6,h7⟩:=O8 _ _ _ _ _ _ h1;rw [Yb,Ih] at h5;exact go v v ups true r _ [] T' U' _ hs (by rw [hon,hcb]) (fun _=>h3) (fun e=>by cases e) h6 h7 (NQ ups H) (.inr ⟨rfl,rfl⟩) ⟨fun _ q hq=>by (cases hq),fun _=>rfl⟩ (fun _=>h4) (fun x hx=>Vj ups x hx) h5
       | false=>
        rw [hcb] at h;simp only [Sn] at h;obtain ⟨T',U',h5,h6,h7⟩:=O8 _ _ _ _ _ _ h;rw [Ih] at h5;refine go .undef .undef [] false [] _ _ T' U' H hs (by rw [hon,hcb]) (fun e=>by cases e) (fun _=>rfl) h6 h7 (by rw [xZ]) (.inl rfl) ⟨fun e=>by (cases e),fun q=>?_⟩ (fun e=>by cases e) (fun x hx=>by cases hx) h5;have:=q (c,b) (by simp);simp at hcb;exact absurd this hcb
      ·exact h.elim
    | _=>rw [hT] at h; exact h.elim
end
end Go.Ab


namespace Go.Ab
section
variable {P:Program} {cfg:rU} {cx:Ctx} {N:Nat}
def markOf (D:Nat):Deferred:={ target:=.collected D,args:=#[] }
def Marks (cx:Ctx) (w:World) (ds:List Deferred):Prop:=∃ms:List Nat,ms.Nodup∧(cx.rd=true→ms=[])∧ds=ms.map markOf∧∀D∈ms,cx.w0.heap.size≤D∧w.heap[D]? = some (.deferred (some []))
def Ctx.also (cx:Ctx) (ms:List Nat):Ctx:={ cx with K:=fun k o=>cx.K k o∨(k∈ms∧o=.deferred (some [])) }
theorem Rel.also {H:Nat→Option cB} {D:Nat→Prop} {w:World} {I:Nat→Prop} {O:OM} (hR:Rel cfg cx H D w I O) {ms:List Nat} (h:∀D∈ms,w.heap[D]? = some (.deferred (some []))):Rel cfg (cx.also ms) H D w I O:=
 { hR with
  env:=⟨hR.env.same,fun k o hk=>hk.elim (hR.env.kept k o) fun ⟨h1,h2⟩=>by subst h2; exact ⟨h k h1,rfl⟩⟩
  maps:=fun o kd z f p b bo sz h1 h2 h3=>⟨(hR.maps o kd z f p b bo sz h1 h2 h3).1,fun ob hk=>hk.elim ((hR.maps o kd z f p b bo sz h1 h2 h3).2 ob) fun ⟨h4,_⟩=>by
   obtain ⟨_,b',bo',sz',es,clock,h5,h6,_⟩:=hR.objs o _ p h1 h2;rw [h3] at h5;cases h5;rw [h b h4] at h6;cases h6⟩ }
theorem Rel.aaO {H:Nat→Option cB} {D:Nat→Prop} {w:World} {I:Nat→Prop} {O:OM} {ms:List Nat} (hR:Rel cfg (cx.also ms) H D w I O):Rel cfg cx H D w I O∧∀D∈ms,w.heap[D]? = some (.deferred (some [])):=
 ⟨{ hR with
  env:=⟨hR.env.same,fun k o hk=>hR.env.kept k o (.inl hk)⟩
  maps:=fun o kd z f p b bo sz h1 h2 h3=>⟨(hR.maps o kd z f p b bo sz h1 h2 h3).1,fun ob hk=>(hR.maps o kd z f p b bo sz h1 h2 h3).2 ob (.inl hk)⟩ },fun D hD=>(hR.env.kept D _ (.inr ⟨hD,rfl⟩)).1⟩
structure gQ (cfg:rU) (N m:Nat) (cx:Ctx) (s:St) (a:Act) (w:World) (I:Nat→Prop) (O:OM):Prop where
 m:cx.m=m
 rel:Rel cfg cx (hget s.heap) (fun o=>o<s.nx) w I O
 tmps:uH N a.defers (tget s.tmps) (fun _=>true) a w I O (fun o=>o<s.nx)
 marks:Marks cx w a.defers
def Good (P:Program) (cfg:rU) (N:Nat) (r:Option Nat) (m:Nat) (c:Code) (s:St) (K:Exit→St→Prop):Prop:=
 ∀(n:Nat) (cx:Ctx) (a:Act) (w:World) (I:Nat→Prop) (O:OM),gQ cfg N m cx s a w I O→cx.rd=r.isSome→c.wpIn (FW r) n P (fun e a' w'=>∃s' I' O',K e s'∧gQ cfg N m cx s' a' w' I' O') a w
structure Loops (P:Program) (cfg:rU) (N:Nat) (r:Option Nat) (m:Nat) (c:Code) (s:St) (K:Exit→St→Prop):Prop where
 ok:Good P cfg N r m c s K
theorem Xi:∀(tr:List TE) (l l0:List Log),Yc tr l l0→∃gs:List Log,gs.length=tr.length∧l=gs.reverse++l0∧∀(k:Nat) (e:TE) (g:Log),tr[k]? = some e→gs[k]? = some g→(e.ex=true→∀x∈e.rds,x∈g.rds)∧∀x,(look e.ups x).isSome=true→x∈g.Wz:=by
 intro tr;induction tr with
 | nil=>intro l l0 h; exact ⟨[],rfl,h,fun k e g h=>by simp at h⟩
 | cons e tr ih=>
  intro l l0 h;obtain ⟨g,h1,h2,h3⟩:=h;obtain ⟨gs,q1,q2,q3⟩:=ih l (g::l0) h3;refine ⟨g::gs,by simp [q1],by simp [q2],fun k e' g' hk hg=>?_⟩;cases k with
  | zero=>simp at hk hg; subst hk; subst hg; exact ⟨h1,h2⟩
  | succ k=>exact q3 k e' g' (by simpa using hk) (by simpa using hg)
theorem FM {l m:List Nat} (h:meets l m=false):∀x∈l,x ∉ m:=by
 induction l with
 | nil=>intro x hx; cases hx
 | cons y l ih=>
  intro x hx;unfold meets at h;cases hm:wK y m with
  | true=>simp [hm] at h
  | false=>
   simp only [hm] at h;rcases List.mem_cons.1 hx with e | e
   ·subst e; exact sO hm
   ·exact ih h x e
theorem CP {α:Type} {motive:List α→Prop} (nil:motive []) (append_singleton:∀l x,motive l→motive (l++[x])):∀l,motive l:=by
 intro l;have:∀m:List α,motive m.reverse:=by
  intro m;induction m with
  | nil=>exact nil
  | cons x m ih=>rw [List.reverse_cons]; exact append_singleton _ x ih
 have:=this l.reverse;rwa [List.reverse_reverse] at this
theorem Vk {all:List Oper} {j:Nat} {x:Log}:∀(gs:List Log),Mg all j x gs.reverse gs.length=true→∀i g,gs[i]? = some g→(meets x.Wz g.rds=false∧meets g.Wz x.rds=false∧meets g.Wz x.Wz=false)∨before all 40 i j=true:=by
 intro gs;induction gs using CP with
 | nil=>intro _ i g h; simp at h
 | append_singleton gs y ih=>
  intro h i g hg;rw [List.reverse_append,List.length_append] at h;simp only [List.reverse_cons,List.reverse_nil,List.nil_append,List.cons_append,List.length_cons,List.length_nil,Nat.zero_add] at h;unfold Mg at h;have rest:Mg all j x gs.reverse gs.length=true:=by
   split at h
   ·exact h
   ·split at h
    ·exact h
    ·cases h
  by_cases hi:i<gs.length
  ·exact ih rest i g (by rwa [List.getElem?_append_left hi] at hg)
  ·have hil:i=gs.length:=by
    have:=(List.getElem?_eq_some_iff.1 hg).1;simp at this;omega
   subst hil;simp at hg;subst hg;split at h
   ·rename_i e1 e2 e3;exact .inl ⟨e1,e2,e3⟩
   ·split at h
    ·rename_i hb; exact .inr hb
    ·cases h
theorem aaP {all:List Oper}:∀(gs:List Log),Cv all gs.reverse gs.length=true→∀j x,gs[j]? = some x→∀i g,i<j→gs[i]? = some g→(meets x.Wz g.rds=false∧meets g.Wz x.rds=false∧meets g.Wz x.Wz=false)∨before all 40 i j=true:=by
 intro gs;induction gs using CP with
 | nil=>intro _ j x h; simp at h
 | append_singleton gs y ih=>
  intro h j x hx i g hij hg;rw [List.reverse_append,List.length_append] at h;simp only [List.reverse_cons,List.reverse_nil,List.nil_append,List.cons_append,List.length_cons,List.length_nil,Nat.zero_add] at h;unfold Cv at h;split at h
  ·rename_i hone;have hjl:j<(gs++[y]).length:=(List.getElem?_eq_some_iff.1 hx).1;simp at hjl;have hi:i<gs.length:=by omega
   have hg':gs[i]? = some g:=by rwa [List.getElem?_append_left hi] at hg
   by_cases hj:j<gs.length
   ·exact ih h j x (by rwa [List.getElem?_append_left hj] at hx) i g hij hg'
   ·have:j=gs.length:=by omega
    subst this;simp at hx;subst hx;exact Vk gs hone i g hg'
  ·cases h
theorem acz {all:List Oper} {T0:Nat→AV} {H0:Nat→Option cB} {ent:Nat→TE}:∀(rest:List Oper) (i:Nat) (tr:List TE),(∀j,rest[j]? = all[i+j]?)→(∀j e,tr[j]? = some e→ent (i+j)=e)→tr.length=rest.length→
  YV rest tr (Bd all ent yes i T0)=Bd all ent yes (i+rest.length) T0∧YW rest tr (IK all ent yes i)=IK all ent yes (i+rest.length)∧YX tr (Kz ent yes i H0)=Kz ent yes (i+rest.length) H0:=by
 intro rest;induction rest with
 | nil=>
  intro i tr _ _ hl;have:tr=[]:=List.eq_nil_of_length_eq_zero (by simpa using hl);subst this;exact ⟨rfl,rfl,rfl⟩
 | cons x rest ih=>
  intro i tr hr he hl;cases tr with
  | nil=>simp at hl
  | cons e tr=>
   have hx:all[i]? = some x:=by simpa using (hr 0).symm
   have he0:ent i=e:=by simpa using he 0 e rfl
   subst he0;have e1:jE (Bd all ent yes i T0) x.dst (ent i).v=Bd all ent yes (i+1) T0:=Ig hx _ yes rfl T0 _ fun _=>rfl;have e2:jE (IK all ent yes i) x.dst (ent i).ex=IK all ent yes (i+1):=Ig hx _ yes rfl _ _ fun _=>rfl;have e3:jQ (Kz ent yes i H0) (ent i).ups=Kz ent yes (i+1) H0:=Vb yes rfl H0;simp only [YV,YW,YX];rw [e1,e2,e3];have:=ih (i+1) tr (fun j=>by
    have:=hr (j+1);rw [show i+(j+1)=i+1+j by omega] at this;simpa using this) (fun j e' hj=>by
    have:=he (j+1) e' (by simpa using hj);rwa [show i+(j+1)=i+1+j by omega] at this) (by simpa using hl)
   rw [show i+1+rest.length=i+(x::rest).length by simp; omega] at this;exact this
theorem Vl (hc:fq P cfg) {N:Nat} {r:Option Nat} {m id:Nat} {ct:List Nat} {ops:Array Oper} {draw:Bool} {T:List (Nat×AV)} {H:jh} {nx:Nat} {K:Exit→St→Prop}
  (h:jD cfg (Spec P cfg) ct (Loops P cfg N r m) (.region id ops draw) ⟨T,H,nx⟩ K) (hok:aaj N ops.toList draw=true):
  Good P cfg N r m (.region id ops draw) ⟨T,H,nx⟩ K:=by
 intro n0 cx a w I O hS hrd;obtain ⟨ms,hnd,hrm,hds,hms⟩:=hS.marks;have hS1:=hS.rel.also (fun D hD=>(hms D hD).2);simp only [jD] at h;unfold aaj at hok;simp only [Bool.and_eq_true,Bool.or_eq_true,Bool.not_eq_true'] at hok;obtain ⟨hok1,hok2⟩:=hok;obtain ⟨tr,s,log',q1,q2,q3,q4,q5,q6,q7⟩:=Xh hok1 ops.toList 0 T T H [] [] _ (fun _=>true) (fun j=>by simp) rfl (fun j d hj=>by omega) (fun t=>.inr ⟨rfl,rfl⟩) h;let ent:Nat→TE:=fun k=>tr.getD k ⟨true,.undef,[],[]⟩
 have hent:∀j e,tr[j]? = some e→ent (0+j)=e:=fun j e he=>by show tr.getD (0+j) _=e; simp [he]
 have htr:TrI cfg (Spec P cfg) ops.toList nx (tget T) (hget H) ent:=fun k o hk=>TrI.acy ops.toList 0 tr (fun j=>by simp) hent q1 k o (Nat.zero_le _) hk;obtain ⟨e1,e2,e3⟩:=acz (all:=ops.toList) (T0:=tget T) (H0:=hget H) ops.toList 0 tr (fun j=>by simp) hent q2;simp only [Nat.zero_add,Array.length_toList] at e1 e2 e3 q4;have hfin:∀a' w' I' O',K .normal s→Rel cfg (cx.also ms) (Kz ent yes ops.size (hget H)) (fun o=>o<nx+stride*ops.size) w' I' O'→uH N a.defers (Bd ops.toList ent yes ops.size (tget T)) (IK ops.toList ent yes ops.size) a' w' I' O' (fun o=>o<nx+stride*ops.size)→
   ∃s' I' O',K .normal s'∧gQ cfg N m cx s' a' w' I' O':=by
  intro a' w' I' O' hK hR1' hT'
  obtain ⟨hR',hms'⟩:=hR1'.aaO
  have hda:a'.defers=a.defers:=hT'.defers
  refine ⟨s,I',O',hK,hS.m,?_,?_,⟨ms,hnd,hrm,hda.trans hds,fun D hD=>⟨(hms D hD).1,hms' D hD⟩⟩⟩
  ·rw [q5,q4]
   show Rel cfg cx (YX tr (Kz ent yes 0 (hget H))) _ w' I' O'
   rw [e3]
   exact hR'
  ·rw [q4]
   refine ⟨rfl,hT'.size,fun t _=>?_,fun t h=>by cases h⟩
   rcases q6 t with e | ⟨e4,e5⟩
   ·rw [e]; exact .pure (.undef _)
   ·have e4':YW ops.toList tr (IK ops.toList ent yes 0) t=true:=e4
    have e5':tget s.tmps t=YV ops.toList tr (Bd ops.toList ent yes 0 (tget T)) t:=e5
    rw [e2] at e4'
    rw [e1] at e5'
    rw [e5']
    exact hT'.rep t e4'
 cases draw with
 | false=>
  simp only at q3;exact Vf hc htr hok1 hS1 hS.tmps fun a' w' I' O' hR' hT'=>hfin a' w' I' O' q3 hR' hT'
 | true=>
  simp only at q3;split at q3
  ·rename_i hchk;have hdr:Mf ops.toList ops.toList 0=true:=by simpa using hok2
   obtain ⟨gs,g1,g2,g3⟩:=Xi tr log' [] q7;rw [List.append_nil] at g2;have hlen:gs.length=ops.toList.length:=by rw [g1,q2]
   rw [g2,← hlen] at hchk;have hspec:=aaP gs hchk;have hdyn:adv ops ent:=by
    intro i j hij hj;have hjg:j<gs.length:=by rw [hlen]; simpa using hj
    have hig:i<gs.length:=by omega
    have htj:tr[j]? = some (ent j):=by
     have hlt:j<tr.length:=by omega
     show tr[j]? = some (tr.getD j _);simp [hlt]
    have hti:tr[i]? = some (ent i):=by
     have hlt:i<tr.length:=by omega
     show tr[i]? = some (tr.getD i _);simp [hlt]
    obtain ⟨a1,a2⟩:=g3 j _ _ htj (List.getElem?_eq_getElem hjg);obtain ⟨b1,b2⟩:=g3 i _ _ hti (List.getElem?_eq_getElem hig);rcases hspec j _ (List.getElem?_eq_getElem hjg) i _ hij (List.getElem?_eq_getElem hig) with ⟨c1,c2,c3⟩ | hb
    ·refine .inr ⟨fun b hw hex hm=>FM c2 b (b2 b hw) (a1 hex b hm),fun b hw hex hm=>FM c1 b (a2 b hw) (b1 hex b hm),fun b hw=>?_⟩;cases hwj:ZU ent j b with
     | false=>rfl
     | true=>exact absurd (a2 b hwj) (FM c3 b (b2 b hw))
    ·exact .inl hb
   exact Vh hc htr hok1 hdr hdyn hS1 hS.tmps fun a' w' I' O' hR' hT'=>hfin a' w' I' O' q3 hR' hT'
  ·exact q3.elim
theorem Good.mono {N:Nat} {r:Option Nat} {m:Nat} {c:Code} {s:St} {K K':Exit→St→Prop} (h:Good P cfg N r m c s K) (hk:∀e s,K e s→K' e s):Good P cfg N r m c s K':=fun n0 cx a w I O hS hrd=>
 wpIn_mono (h n0 cx a w I O hS hrd) fun e _ _ ⟨s',I',O',h1,h2⟩=>⟨s',I',O',hk e s' h1,h2⟩
theorem yj {N:Nat} {r:Option Nat} {m:Nat} {x y:Code} {s:St} {K:Exit→St→Prop} (h:Good P cfg N r m x s fun e s'=>match e with | .normal=>Good P cfg N r m y s' K | e=>K e s'):Good P cfg N r m (.seq x y) s K:=by
 intro n0 cx a w I O hS hrd;refine wpIn_seq (wpIn_mono (h n0 cx a w I O hS hrd) ?_);intro e a' w' ⟨s',I',O',h1,h2⟩;cases e with
 | normal=>exact h1 n0 cx a' w' I' O' h2 hrd
 | exit id=>exact ⟨s',I',O',h1,h2⟩
 | goto l=>exact ⟨s',I',O',h1,h2⟩
 | ret=>exact ⟨s',I',O',h1,h2⟩
 | panic ch=>exact ⟨s',I',O',h1,h2⟩
 | outgrown=>exact ⟨s',I',O',h1,h2⟩
theorem Xj {N:Nat} {r:Option Nat} {m id:Nat} {x:Code} {s:St} {K:Exit→St→Prop} (h:Good P cfg N r m x s fun e s'=>match e with | .exit i=>(match Nat.beq i id with | true=>K .normal s' | false=>K (.exit i) s') | e=>K e s'):Good P cfg N r m (.block id x) s K:=by
 intro n0 cx a w I O hS hrd;refine wpIn_block (wpIn_mono (h n0 cx a w I O hS hrd) ?_);intro e a' w' ⟨s',I',O',h1,h2⟩;cases e with
 | exit i=>
  simp only [Exit.inBlock];simp only at h1;by_cases hi:i=id
  ·subst hi;have hb:Nat.beq i i=true:=by simp
   rw [hb] at h1;rw [if_pos rfl];exact ⟨s',I',O',h1,h2⟩
  ·have hb:Nat.beq i id=false:=by
    cases hb:Nat.beq i id with
    | false=>rfl
    | true=>exact absurd (Nat.eq_of_beq_eq_true hb) hi
   rw [hb] at h1;rw [if_neg hi];exact ⟨s',I',O',h1,h2⟩
 | normal=>exact ⟨s',I',O',h1,h2⟩
 | goto l=>exact ⟨s',I',O',h1,h2⟩
 | ret=>exact ⟨s',I',O',h1,h2⟩
 | panic ch=>exact ⟨s',I',O',h1,h2⟩
 | outgrown=>exact ⟨s',I',O',h1,h2⟩
theorem SI {N:Nat} {r:Option Nat} {m:Nat} {c:Operand} {x y:Code} {s:St} {K:Exit→St→Prop} {b:Bool} (hb:Pz cfg (tget s.tmps) c=.bool b) (h1:b=true→Good P cfg N r m x s K) (h2:b=false→Good P cfg N r m y s K):Good P cfg N r m (.cond c x y) s K:=by
 intro n0 cx a w I O hS hrd;have hr:=qc hS.rel hS.tmps c (fun t _=>rfl);rw [hb] at hr;refine wpIn_cond_split hr.jw (fun h=>h1 h n0 cx a w I O hS hrd) (fun h=>h2 h n0 cx a w I O hS hrd)
theorem jU (hc:fq P cfg) {N:Nat} {r:Option Nat} {m:Nat} {ct:List Nat}:∀(c:Code) (s:St) (K:Exit→St→Prop),fZ N c=true→jD cfg (Spec P cfg) ct (Loops P cfg N r m) c s K→Good P cfg N r m c s K:=by
 intro c;induction c with
 | skip=>intro s K _ h n0 cx a w I O hS _; exact wpIn_skip ⟨s,I,O,h,hS⟩
 | region id ops draw=>
  intro s K hok h;obtain ⟨T,H,nx⟩:=s;exact Vl hc h hok
 | seq x y ihx ihy=>
  intro s K hok h;simp only [fZ,Bool.and_eq_true] at hok;unfold jD at h;split at h
  ·exact h.ok
  refine yj ((ihx s _ hok.1 h).mono fun e s' h'=>?_);cases e with
  | normal=>exact ihy s' K hok.2 h'
  | _=>exact h'
 | cond c x y ihx ihy=>
  intro s K hok h;simp only [fZ,Bool.and_eq_true] at hok;simp only [jD] at h;split at h
  ·rename_i b hb;refine SI hb (fun e=>?_) (fun e=>?_)
   ·subst e; exact ihx s K hok.1 h
   ·subst e; exact ihy s K hok.2 h
  ·exact h.elim
 | block id x ih=>
  intro s K hok h;exact Xj (ih s _ hok h)
 | loop x ih=>intro s K hok h; exact h.ok
 | rangeFunc g ps x y ihx ihy=>intro s K hok h; exact h.ok
 | exit id=>intro s K _ h n0 cx a w I O hS _; exact wpIn_exit ⟨s,I,O,h,hS⟩
 | ret=>intro s K _ h n0 cx a w I O hS _; exact wpIn_ret ⟨s,I,O,h,hS⟩
 | _=>intro s K hok h; cases hok
end
end Go.Ab


namespace Go.Ab
section
variable {P:Program} {cfg:rU} {cx:Ctx} {N:Nat}
def kN (ρ:List (Nat×Option Nat)) (H':jh) (O:OM):OM:=fun o'=>match hget H' o' with
 | none=>none
 | some y=>match oJ ρ o' with
  | some o=>O o
  | none=>match y with
   | .row es _ _=>some ⟨es,0,none⟩
   | .box _=>none
   | .map .. => none
theorem SK {H:jh} {o:Nat}:PG H o=true↔∃x,hget H o=some x:=by
 unfold PG;cases hget H o with
 | none=>simp
 | some x=>simp
theorem Bg {α:Type}:∀(l:List (Nat×α)) (k:Nat) (x:α),look l k=some x→(k,x)∈l:=by
 intro l;induction l with
 | nil=>intro k x h; cases h
 | cons p l ih=>
  intro k x h;obtain ⟨k',y⟩:=p;simp only [look] at h;cases hb:Nat.beq k' k with
  | true=>simp only [hb] at h; cases h; rw [Nat.eq_of_beq_eq_true hb]; simp
  | false=>simp only [hb] at h; exact List.mem_cons_of_mem _ (ih k x h)
theorem xP {H:jh} {o:Nat} {x:cB} (h:hget H o=some x):look H o=some (some x):=by
 unfold hget at h;split at h
 ·rename_i y hy; cases h; exact hy
 ·cases h
theorem Yd {ρ:List (Nat×Option Nat)} {H' H:jh}:∀(l:jh),aak ρ H' H l→∀o' y,(o',some y)∈l→
  (match oJ ρ o' with
  | some o=>∃x,hget H o=some x∧UM ρ H' x y
  | none=>∃es g,y=.row es 0 g):=by
 intro l;induction l with
 | nil=>intro _ o' y h; cases h
 | cons p l ih=>
  intro h o' y hm;obtain ⟨k,z⟩:=p;cases z with
  | none=>
   rcases List.mem_cons.1 hm with e | e
   ·cases e
   ·exact ih h o' y e
  | some z=>
   obtain ⟨h1,h2⟩:=h;rcases List.mem_cons.1 hm with e | e
   ·cases e;split
    ·rename_i o ho;rw [ho] at h1;simp only at h1;split at h1
     ·rename_i x hx; exact ⟨x,hx,h1⟩
     ·exact h1.elim
    ·rename_i ho;rw [ho] at h1;simp only at h1;split at h1
     ·rename_i es n g; subst h1; exact ⟨es,g,rfl⟩
     ·exact h1.elim
   ·exact ih h2 o' y e
structure acA (ρ:List (Nat×Option Nat)) (H' H:jh):Prop where
 ren:∀o' y o,hget H' o'=some y→oJ ρ o'=some o→∃x,hget H o=some x
 ghost:∀o' y,hget H' o'=some y→oJ ρ o'=none→∃es g,y=.row es 0 g
structure acB (ρ:List (Nat×Option Nat)) (H' H:jh):Prop where
 ren:∀o' y o,hget H' o'=some y→oJ ρ o'=some o→∃x,hget H o=some x∧UM ρ H' x y
 ghost:∀o' y,hget H' o'=some y→oJ ρ o'=none→∃es g,y=.row es 0 g
theorem Ye {ρ:List (Nat×Option Nat)} {H' H:jh} (h:aak ρ H' H H'):acB ρ H' H where
 ren:=fun o' y o hy ho=>by
  have:=Yd H' h o' y (Bg _ _ _ (xP hy));rw [ho] at this;exact this
 ghost:=fun o' y hy ho=>by
  have:=Yd H' h o' y (Bg _ _ _ (xP hy));rw [ho] at this;exact this
theorem acB.x {ρ:List (Nat×Option Nat)} {H' H:jh} (h:acB ρ H' H):acA ρ H' H where
 ren:=fun o' y o h1 h2=>let ⟨x,h3,_⟩:=h.ren o' y o h1 h2; ⟨x,h3⟩
 ghost:=h.ghost
theorem Mw {ρ:List (Nat×Option Nat)} {H':jh}:∀(f:Nat) (l m:List AV),jY.embL ρ H' f l m→l.length=m.length∧∀j,j<m.length→∃f',f'<f∧jY ρ H' f' (nth l j) (nth m j):=by
 intro f;induction f with
 | zero=>intro l m h; exact absurd h (by simp [jY.embL])
 | succ f ih=>
  intro l m h;cases l with
  | nil=>cases m with
   | nil=>exact ⟨rfl,fun j hj=>by cases hj⟩
   | cons v m=>exact absurd h (by simp [jY.embL])
  | cons u l=>cases m with
   | nil=>exact absurd h (by simp [jY.embL])
   | cons v m=>
    simp only [jY.embL] at h
    obtain ⟨h1,h2⟩:=ih l m h.2
    refine ⟨by simp [h1],fun j hj=>?_⟩
    cases j with
    | zero=>exact ⟨f,Nat.lt_succ_self _,h.1⟩
    | succ j=>
     obtain ⟨f',h3,h4⟩:=h2 j (by simpa using hj)
     exact ⟨f',by omega,h4⟩
theorem KQ {ρ:List (Nat×Option Nat)} {H' H:jh} {w:World} {I:Nat→Prop} {O:OM} {D D':Nat→Prop} (hd:∀o,O o=none↔hget H o=none) (hW:acA ρ H' H):
  ∀(f:Nat) (u v:AV) (x:Value),Rep w I O D u x→jY ρ H' f u v→Rep w I (kN ρ H' O) D' v x:=by
 have live:∀o' o,PG H' o'=true→oJ ρ o'=some o→∃p,O o=some p∧kN ρ H' O o'=some p:=by
  intro o' o h1 h2;obtain ⟨y,hy⟩:=SK.1 h1;obtain ⟨z,hz⟩:=hW.ren o' y o hy h2;cases ho:O o with
  | none=>rw [(hd o).1 ho] at hz; cases hz
  | some p=>exact ⟨p,rfl,by unfold kN; rw [hy,h2]; exact ho⟩
 intro f;induction f using Nat.strongRecOn with
 | ind f ih=>
  intro u v x hr he;cases f with
  | zero=>exact absurd he (by simp [jY])
  | succ f=>
   have many:∀(cs cs':List AV) (vs:Array Value),vs.size=cs.length→(∀j,j<cs.length→Rep w I O D (nth cs j) (vs.getD j Go.undef))→jY.embL ρ H' f cs cs'→
     vs.size=cs'.length∧∀j,j<cs'.length→Rep w I (kN ρ H' O) D' (nth cs' j) (vs.getD j Go.undef):=by
    intro cs cs' vs h1 h2 h3
    obtain ⟨h4,h5⟩:=Mw f cs cs' h3
    refine ⟨by omega,fun j hj=>?_⟩
    obtain ⟨f',h6,h7⟩:=h5 j hj
    exact ih f' om _ _ _ (h2 j om) h7
   cases v with
   | undef=>exact .pure (.undef x)
   | bool b'=>
    cases u<;>simp only [jY] at he;subst he;rw [hr.jw]; exact .pure (.bool _)
   | int k n=>
    cases u<;>simp only [jY] at he;obtain ⟨rfl,rfl⟩:=he;rw [hr.fP]; exact .pure (.int _ _)
   | str s=>
    cases u<;>simp only [jY] at he;subst he;rw [hr.wM]; exact .pure (.str _)
   | zm=>
    cases u<;>simp only [jY] at he;cases hr with | pure h=>exact .pure h
   | ro cs=>
    cases u<;>simp only [jY] at he;exact (Le.roL he).rep (.pure hr.PS)
   | sl es' n' f' g'=>
    cases u<;>simp only [jY] at he;rename_i es n fu g;obtain ⟨h0,h1,h2,h3⟩:=he;exact (Le.sl h0 h1 h2 h3).rep (.pure hr.Aj)
   | ptr o' i' off'=>
    cases u<;>simp only [jY] at he;rename_i o i off;obtain ⟨h1,h2,rfl,rfl⟩:=he;obtain ⟨p,hp,hp'⟩:=live o' o h1 h2;obtain ⟨b,bo,sz,h3,h4,rfl⟩:=hr.lF hp;exact .ptr hp' h3 h4
   | dh o' i' n' f'=>
    cases u<;>simp only [jY] at he
    ·rename_i es n fu g;obtain ⟨h1,hren,rfl,rfl,rfl,rfl⟩:=he;obtain ⟨y,hy⟩:=SK.1 h1;obtain ⟨es',g',rfl⟩:=hW.ghost o' y hy hren;have hp:kN ρ H' O o'=some ⟨es',0,none⟩:=by unfold kN; rw [hy,hren]
     cases hr.Aj with
     | sl b off vs hcap hfull ha hes hm hone hrr=>
      have hc:=hfull rfl;exact .dh hp (Nat.le_refl _) hcap (fun _=>hc) (fun h=>absurd hc h) (Nat.zero_le _)
    ·rename_i o i n fu;obtain ⟨h1,h2,rfl,rfl,h3⟩:=he;obtain ⟨p,hp,hp'⟩:=live o' o h1 h2;obtain ⟨a,cap,rfl,h4,h5,h6,h7⟩:=hr.kG hp;exact .dh hp' h4 h5 (fun h=>h6 (h3 h)) h7 (hr.zA hp)
   | mref o'=>
    cases u<;>simp only [jY] at he;rename_i o;obtain ⟨h1,h2⟩:=he;obtain ⟨p,hp,hp'⟩:=live o' o h1 h2;obtain ⟨b,bo,sz,h3,rfl⟩:=hr.PU hp;exact .mref hp' h3
   | agg cs'=>
    cases u<;>simp only [jY] at he;obtain ⟨vs,rfl,h1,h2⟩:=hr.qH;obtain ⟨h3,h4⟩:=many _ cs' vs h1 h2 he;exact .agg h3 h4
   | jX cs'=>
    cases u<;>simp only [jY] at he;obtain ⟨vs,rfl,h1,h2⟩:=hr.CG;obtain ⟨h3,h4⟩:=many _ cs' vs h1 h2 he;exact .jX h3 h4
   | fn g cs'=>
    cases u<;>simp only [jY] at he;obtain ⟨rfl,he⟩:=he;obtain ⟨vs,rfl,h1,h2⟩:=hr.FC;obtain ⟨h3,h4⟩:=many _ cs' vs h1 h2 he;exact .fn h3 h4
theorem acC {ρ:List (Nat×Option Nat)} {H' H:jh} {w:World} {I:Nat→Prop} {O:OM} {D D':Nat→Prop} (hd:∀o,O o=none↔hget H o=none) (hW:acB ρ H' H) {x y:cB} {p:Own} (h:fM w I O D p x) (he:UM ρ H' x y):
  fM w I (kN ρ H' O) D' p y:=by
 cases x with
 | box cs=>
  cases y with
  | row es n g=>exact he.elim
  | map kd z f=>exact he.elim
  | box cs'=>
   obtain ⟨h1,b,bo,sz,hp,ha,hl,hr⟩:=h;obtain ⟨h2,h3⟩:=Mw _ cs cs' he;refine ⟨h1,b,bo,sz,hp,ha,by omega,fun j hj=>?_⟩;obtain ⟨f',_,h4⟩:=h3 j hj;exact KQ hd hW.x f' _ _ _ (hr j om) h4
 | row es n g=>
  cases y with
  | box cs'=>exact he.elim
  | map kd z f=>exact he.elim
  | row es' n' g'=>
   have hO:fM w I (kN ρ H' O) D' p (.row es n g):=by
    obtain ⟨h1,h2,h3,h4⟩:=h;refine ⟨h1,h2,h3,?_⟩;rcases h4 with h4 | ⟨b,bo,sz,hp,ha,hl,hr⟩
    ·exact .inl h4
    ·exact .inr ⟨b,bo,sz,hp,ha,hl,hr⟩
   exact LeO.rep (x:=.row es n g) (y:=.row es' n' g') he hO
 | map kd z f=>
  cases y with
  | box cs'=>exact he.elim
  | row es n g=>exact he.elim
  | map kd' z' f'=>
   obtain ⟨rfl,rfl,rfl⟩:=he;exact h
theorem Vm {m nx:Nat} {ρ:List (Nat×Option Nat)}:∀(H:jh),JU m nx ρ H=true→∀p∈H,p.1<nx∧(p.1<m→oJ ρ p.1=some p.1):=by
 intro H;induction H with
 | nil=>intro _ p h; cases h
 | cons q H ih=>
  intro h p hp;obtain ⟨o',z⟩:=q;unfold JU at h;cases h1:Nat.blt o' nx with
  | false=>simp [h1] at h
  | true=>
   simp only [h1] at h;have hlt:o'<nx:=by simpa using h1
   have rest:JU m nx ρ H=true∧(o'<m→oJ ρ o'=some o'):=by
    split at h
    ·rename_i o ho;split at h
     ·rename_i hb;have:=Nat.eq_of_beq_eq_true hb;subst this;exact ⟨h,fun _=>ho⟩
     ·split at h
      ·rename_i hle;have hle':=Nat.le_of_ble_eq_true hle;exact ⟨h,fun hlt=>by omega⟩
      ·cases h
    ·split at h
     ·rename_i hle;have hle':=Nat.le_of_ble_eq_true hle;exact ⟨h,fun hlt=>by omega⟩
     ·cases h
   rcases List.mem_cons.1 hp with e | e
   ·subst e; exact ⟨hlt,rest.2⟩
   ·exact ih rest.1 p e
theorem Vn {ρ:List (Nat×Option Nat)}:∀(H:jh) (o' o:Nat) (y:cB),(o',some y)∈H→oJ ρ o'=some o→o∈PI ρ H:=by
 intro H;induction H with
 | nil=>intro o' o y h; cases h
 | cons q H ih=>
  intro o' o y h hr;obtain ⟨k,z⟩:=q;rcases List.mem_cons.1 h with e | e
  ·cases e;simp only [PI,hr];simp
  ·have:=ih o' o y e hr;cases z with
   | none=>exact this
   | some z=>
    simp only [PI];split
    ·exact List.mem_cons_of_mem _ this
    ·exact this
theorem aaQ {ρ:List (Nat×Option Nat)}:∀(H:jh),lD (PI ρ H)=true→∀o1 o2 o y1 y2,(o1,some y1)∈H→(o2,some y2)∈H→oJ ρ o1=some o→oJ ρ o2=some o→o1=o2:=by
 intro H;induction H with
 | nil=>intro _ o1 o2 o y1 y2 h; cases h
 | cons q H ih=>
  intro hnd o1 o2 o y1 y2 h1 h2 hr1 hr2;obtain ⟨k,z⟩:=q;have tail:lD (PI ρ H)=true∧∀y,z=some y→∀o,oJ ρ k=some o→o ∉ PI ρ H:=by
   cases z with
   | none=>exact ⟨hnd,fun y h=>by cases h⟩
   | some z=>
    simp only [PI] at hnd;split at hnd
    ·rename_i oo hoo;unfold lD at hnd;split at hnd
     ·cases hnd
     ·rename_i hm;refine ⟨hnd,fun y _ o ho=>?_⟩;rw [hoo] at ho;cases ho;exact sO hm
    ·rename_i hnone;exact ⟨hnd,fun y _ o ho=>by rw [hnone] at ho; cases ho⟩
  rcases List.mem_cons.1 h1 with e1 | e1<;>rcases List.mem_cons.1 h2 with e2 | e2
  ·cases e1; cases e2; rfl
  ·cases e1; exact absurd (Vn H o2 o y2 e2 hr2) (tail.2 _ rfl o hr1)
  ·cases e2; exact absurd (Vn H o1 o y1 e1 hr1) (tail.2 _ rfl o hr2)
  ·exact ih tail.1 o1 o2 o y1 y2 e1 e2 hr1 hr2
theorem embT_get {ρ:List (Nat×Option Nat)} {H':jh} {T:List (Nat×AV)}:∀(l:List (Nat×AV)),adM ρ H' T l→∀t,tget l t=.undef∨jY ρ H' fuel (tget T t) (tget l t):=by
 intro l;induction l with
 | nil=>intro _ t; exact .inl rfl
 | cons p l ih=>
  intro h t;obtain ⟨k,v⟩:=p;obtain ⟨h1,h2⟩:=h;unfold tget;simp only [look];cases hb:Nat.beq k t with
  | true=>
   have:=Nat.eq_of_beq_eq_true hb;subst this;exact .inr h1
  | false=>exact ih h2 t
theorem Bh {m:Nat} {ρ:List (Nat×Option Nat)} {s s':St} {a:Act} {w:World} {I:Nat→Prop} {O:OM} (hS:gQ cfg N m cx s a w I O) (h:Emb m ρ s s'):gQ cfg N m cx s' a w I (kN ρ s'.heap O):=by
 obtain ⟨hchk,htm,hhp⟩:=h;obtain ⟨hm,hR,hT,hMk⟩:=hS;have hW:=Ye hhp;unfold WB at hchk;split at hchk
 ·rename_i hk hnd hun;have hle:m≤s'.nx:=Nat.le_of_ble_eq_true hchk;have hkeys:=Vm _ hk;have inv:∀o' p,kN ρ s'.heap O o'=some p→∃y,hget s'.heap o'=some y∧((∃o,oJ ρ o'=some o∧O o=some p)∨p.pl=none):=by
   intro o' p hp;unfold kN at hp;split at hp
   ·cases hp
   ·rename_i y hy;refine ⟨y,hy,?_⟩;split at hp
    ·rename_i o ho; exact .inl ⟨o,ho,hp⟩
    ·split at hp
     ·cases hp; exact .inr rfl
     ·cases hp
     ·cases hp
  refine ⟨hm,⟨?_,?_,?_,?_,?_,?_,hR.vF,hR.size,hR.frame,?_,hR.glob,hR.KE,hR.NC,?_,?_,hR.env,fun o' kd z f p b bo sz q1 q2 q3=>?_⟩,⟨rfl,hT.size,fun t _=>?_,fun t h=>by cases h⟩,hMk⟩
  ·intro o';constructor
   ·intro h;cases hy:hget s'.heap o' with
    | none=>rfl
    | some y=>
     exfalso;unfold kN at h;rw [hy] at h;simp only at h;split at h
     ·rename_i o ho;obtain ⟨x,hx,_⟩:=hW.ren o' y o hy ho;rw [(hR.dom o).1 h] at hx;cases hx
     ·rename_i ho;obtain ⟨es,g,rfl⟩:=hW.ghost o' y hy ho;cases h
   ·intro h;unfold kN;rw [h]
  ·intro o' p hp;obtain ⟨y,hy,_⟩:=inv o' p hp;exact (hkeys _ (Bg _ _ _ (xP hy))).1
  ·intro o' y p hy hp;unfold kN at hp;rw [hy] at hp;simp only at hp;split at hp
   ·rename_i o ho;obtain ⟨x,hx,he⟩:=hW.ren o' y o hy ho;exact acC hR.dom hW (hR.objs o x p hx hp) he
   ·rename_i ho;obtain ⟨es,g,rfl⟩:=hW.ghost o' y hy ho;cases hp;exact ⟨rfl,rfl,fun i hi=>absurd hi (Nat.not_lt_zero i),.inl ⟨rfl,rfl⟩⟩
  ·intro o1 o2 p1 p2 b bo sz b' bo' sz' h1 h2 hp1 hp2 hne;obtain ⟨y1,hy1,e1⟩:=inv o1 p1 h1;obtain ⟨y2,hy2,e2⟩:=inv o2 p2 h2;rcases e1 with ⟨q1,hr1,ho1⟩ | e1
   ·rcases e2 with ⟨q2,hr2,ho2⟩ | e2
    ·refine hR.inj q1 q2 p1 p2 b bo sz b' bo' sz' ho1 ho2 hp1 hp2 fun e=>?_;subst e;exact hne (aaQ _ hnd o1 o2 q1 y1 y2 (Bg _ _ _ (xP hy1)) (Bg _ _ _ (xP hy2)) hr1 hr2)
    ·rw [e2] at hp2; cases hp2
   ·rw [e1] at hp1; cases hp1
  ·intro o p b bo sz h hp;obtain ⟨y,hy,⟨q,hr,ho⟩ | e⟩:=inv o p h
   ·exact hR.lZ q p b bo sz ho hp
   ·rw [e] at hp; cases hp
  ·intro o p b bo sz h hp;obtain ⟨y,hy,⟨q,hr,ho⟩ | e⟩:=inv o p h
   ·exact hR.lt q p b bo sz ho hp
   ·rw [e] at hp; cases hp
  ·intro o p b bo sz h hp;obtain ⟨y,hy,⟨q,hr,ho⟩ | e⟩:=inv o p h
   ·exact hR.new q p b bo sz ho hp
   ·rw [e] at hp; cases hp
  ·intro o hlt;rw [hm] at hlt;cases hy:hget s'.heap o with
   | none=>exact .inr (by unfold kN; rw [hy])
   | some y=>
    have:=(hkeys _ (Bg _ _ _ (xP hy))).2 hlt;have e:kN ρ s'.heap O o=O o:=by unfold kN; rw [hy,this]
    rw [e];exact hR.PN o (by rw [hm]; exact hlt)
  ·intro o hlt;rw [hm] at hlt;exact Nat.lt_of_lt_of_le hlt hle
  ·obtain ⟨y,hy,⟨q,hr,ho⟩ | e⟩:=inv o' p q2
   ·obtain ⟨x,hx,hxe⟩:=hW.ren o' _ q q1 hr;cases x with
    | box=>exact hxe.elim
    | row=>exact hxe.elim
    | map kd' z' f'=>exact hR.maps q kd' z' f' p b bo sz hx ho q3
   ·rw [e] at q3; cases q3
  ·rcases embT_get _ htm t with e | e
   ·rw [e]; exact .pure (.undef _)
   ·exact KQ hR.dom hW.x _ _ _ _ (hT.rep t rfl) e
 ·cases hchk
end
end Go.Ab



namespace Go.Ab
section
variable {P:Program} {cfg:rU} {N:Nat} {cx:Ctx}
structure nM (w' w:World):Prop where
 cell:∀a v,w.cell? a=some v→w'.cell? a=some v
 frozen:∀a,(w.cell? a).isSome=true→w'.frozen? a=w.frozen? a
 size:w.heap.size≤w'.heap.size
 maps:∀(b:Nat) (es:Array MapEntry) (c:Nat),w.heap[b]? = some (Obj.map es c)→w'.heap[b]? = some (Obj.map es c)
theorem PRep.turn {w w':World} (h:nM w' w) {I:Nat→Prop} {v:AV} {x:Value} (hp:PRep w I v x):PRep w' I v x:=by
 induction hp with
 | undef x=>exact .undef x
 | bool b=>exact .bool b
 | int k n=>exact .int k n
 | str s=>exact .str s
 | zm=>exact .zm
 | sl b off vs hcap hfull ha hes hm h1 hr ih=>exact .sl b off vs hcap hfull ha hes (fun i j hi hj=>h.cell _ _ (hm i j hi hj)) h1 ih
 | ro b off vs hI hm hr ih=>exact .ro b off vs hI (fun j hj=>h.cell _ _ (hm j hj)) ih
 | agg hl hr ih=>exact .agg hl ih
 | fn hl hr ih=>exact .fn hl ih
 | jX hl hr ih=>exact .jX hl ih
theorem Rep.turn {w w':World} (h:nM w' w) {I:Nat→Prop} {O:OM} {D:Nat→Prop} {v:AV} {x:Value} (hp:Rep w I O D v x):Rep w' I O D v x:=by
 induction hp with
 | pure hp=>exact .pure (hp.turn h)
 | ptr ho hp hi=>exact .ptr ho hp hi
 | dh ho hi hcap hfull hpl hext=>exact .dh ho hi hcap hfull hpl hext
 | xX ho hd h1=>exact .xX ho hd h1
 | wB ho hd h1=>exact .wB ho hd h1
 | mref ho hp=>exact .mref ho hp
 | KD ho hd h1=>exact .KD ho hd h1
 | agg hl hr ih=>exact .agg hl ih
 | fn hl hr ih=>exact .fn hl ih
 | jX hl hr ih=>exact .jX hl ih
theorem fM.turn {w w':World} (h:nM w' w) {I:Nat→Prop} {O:OM} {D:Nat→Prop} {p:Own} {x:cB} (hp:fM w I O D p x):fM w' I O D p x:=by
 have hal:∀b sz,Fy w b sz→Fy w' b sz:=fun b sz ha j hj=>by
  obtain ⟨h1,h2⟩:=ha j hj;obtain ⟨v,hv⟩:=Option.isSome_iff_exists.1 h1;rw [h.cell _ _ hv,h.frozen _ h1];exact ⟨rfl,h2⟩
 have hca:∀b sz j,Fy w b sz→j<sz→cellAt w' b j=cellAt w b j:=fun b sz j ha hj=>by
  obtain ⟨v,hv⟩:=Option.isSome_iff_exists.1 (ha j hj).1;unfold cellAt;rw [h.cell _ _ hv,hv]
 cases x with
 | box cs=>
  obtain ⟨h1,b,bo,sz,h2,h3,h4,h5⟩:=hp;exact ⟨h1,b,bo,sz,h2,hal b sz h3,h4,fun j hj=>by rw [hca b sz _ h3 om]; exact (h5 j hj).turn h⟩
 | row es n g=>
  obtain ⟨h1,h2,h3,h4⟩:=hp;refine ⟨h1,h2,h3,h4.imp id ?_⟩;rintro ⟨b,bo,sz,q1,q2,q3,q4⟩;exact ⟨b,bo,sz,q1,hal b sz q2,q3,fun i j hi hj=>by
   have hlt:i*es+j<n*es:=by
    have:(i+1)*es≤n*es:=Nat.mul_le_mul_right _ hi;rw [Nat.add_mul] at this;omega
   rw [hca b sz _ q2 om];exact ⟨(q4 i j hi hj).1.turn h,(q4 i j hi hj).2⟩⟩
 | map kd z f=>
  obtain ⟨h1,b,bo,sz,es,clock,q1,q2,q3⟩:=hp;exact ⟨h1,b,bo,sz,es,clock,q1,h.maps b es clock q2,q3⟩
theorem Rel.turn {H:Nat→Option cB} {D:Nat→Prop} {w w':World} {I:Nat→Prop} {O:OM} (h:nM w' w) (hfr:∀b,b<cx.w0.heap.size→w'.heap[b]? = w.heap[b]?) (he:A8 cx w') (hR:Rel cfg cx H D w I O):Rel cfg cx H D w' I O where
 dom:=hR.dom
 used:=hR.used
 objs:=fun o ob p h1 h2=>(hR.objs o ob p h1 h2).turn h
 inj:=hR.inj
 lZ:=hR.lZ
 lt:=fun o p b bo sz h1 h2=>Nat.lt_of_lt_of_le (hR.lt o p b bo sz h1 h2) h.size
 vF:=fun b hb=>Nat.lt_of_lt_of_le (hR.vF b hb) h.size
 size:=Nat.le_trans hR.size h.size
 frame:=fun b h1 h2=>by rw [hfr b h1]; exact hR.frame b h1 h2
 new:=hR.new
 glob:=fun g cs hg=>(hR.glob g cs hg).turn h
 KE:=hR.KE
 NC:=hR.NC
 PN:=hR.PN
 Dm:=hR.Dm
 maps:=hR.maps
 env:=he
theorem gQ.turn {m:Nat} {s:St} {a a':Act} {w w':World} {I:Nat→Prop} {O:OM} (h:nM w' w) (hfr:∀b,b<cx.w0.heap.size→w'.heap[b]? = w.heap[b]?) (he:A8 cx w') (ha:a'.tmps=a.tmps) (hm:Marks cx w' a'.defers) (hS:gQ cfg N m cx s a w I O):gQ cfg N m cx s a' w' I O:=
 ⟨hS.m,hS.rel.turn h hfr he,⟨rfl,by rw [ha]; exact hS.tmps.size,fun t ht=>by rw [ha]; exact (hS.tmps.rep t ht).turn h,fun t ht=>by cases ht⟩,hm⟩
theorem Al {w:World} {D:Nat} {o o':Obj} (h:w.heap[D]? = some o) (ho:Ib o=true) (hnm:∀es c,o≠.map es c:=by intro _ _ h; cases h):nM (w.putObj D o') w:=by
 have hlt:D<w.heap.size:=by
  rcases Nat.lt_or_ge D w.heap.size with h1 | h1
  ·exact h1
  ·rw [Array.getElem?_eq_none h1] at h; cases h
 have hno:∀a:Addr,a.block=D→w.cell? a=none:=fun a e=>by
  unfold World.cell?;rw [e,h];cases o<;>first | rfl | exact absurd ho Bool.false_ne_true
 refine ⟨fun a v hv=>?_,fun a hv=>?_,by simp [World.putObj],fun b es c hb=>?_⟩
 ·by_cases e:a.block=D
  ·rw [hno a e] at hv; cases hv
  ·unfold World.cell? at hv ⊢;rw [World.putObj_heap_other e];exact hv
 ·by_cases e:a.block=D
  ·rw [hno a e] at hv; cases hv
  ·unfold World.frozen?;rw [World.putObj_heap_other e]
 ·by_cases e:b=D
  ·subst e;rw [h] at hb;exact absurd (Option.some.inj hb) (hnm es c)
  ·rw [World.putObj_heap_other e];exact hb
theorem acD {w:World} {D:Nat} {o':Obj} (hD:cx.w0.heap.size≤D) (hK:∀k o,¬ cx.K k o) (he:A8 cx w):A8 cx (w.putObj D o'):=by
 refine ⟨⟨he.same.os,he.same.tape,he.same.output,fun k o hk ho=>?_⟩,fun k o h=>absurd h (hK k o)⟩;have hlt:k<cx.w0.heap.size:=by
  rcases Nat.lt_or_ge k cx.w0.heap.size with h1 | h1
  ·exact h1
  ·rw [Array.getElem?_eq_none h1] at hk; cases hk
 rw [World.putObj_heap_other om];exact he.same.keep k o hk ho
theorem wN {F:Fence} {n m:Nat} {fn:Func} {s:St} {R:Ending→World→Prop} (hK:∀k o,¬ cx.K k o)
  (fin:∀(a:Act) (w:World) (I:Nat→Prop) (O:OM),gQ cfg N m cx s a w I O→∃v,(results fn a.tmps).run P w=.ok v w∧R (.returned v) w):
  ∀(ms:List Nat) (tmps:Array Value) (w:World) (I:Nat→Prop) (O:OM),ms.Nodup→(∀D∈ms,cx.w0.heap.size≤D∧w.heap[D]? = some (.deferred (some [])))→gQ cfg N m cx s ⟨tmps,[]⟩ w I O→LeavesInM F n P fn tmps R (ms.map markOf) .returning w:=by
 intro ms;induction ms with
 | nil=>
  intro tmps w I O _ _ hS;exact fin _ w I O hS
 | cons D ms ih=>
  intro tmps w I O hnd hms hS;obtain ⟨hD1,hD2⟩:=hms D (List.mem_cons_self ..);rw [List.nodup_cons] at hnd;refine ⟨nofun,.inl ⟨D,w.putObj D (.deferred none),rfl,run_takeDeferred hD2,?_⟩⟩;refine ih tmps _ I O hnd.2 (fun D' hD'=>?_) ?_
  ·have hne:D'≠D:=fun e=>hnd.1 (e ▸ hD');rw [World.putObj_heap_other hne];exact hms D' (List.mem_cons_of_mem _ hD')
  ·exact hS.turn (Al hD2 rfl) (fun b hb=>World.putObj_heap_other om) (acD hD1 hK hS.rel.env) rfl ⟨[],List.nodup_nil,fun _=>rfl,rfl,fun _ h=>by cases h⟩
end
end Go.Ab

namespace Go.Ab
section
variable {P:Program} {cfg:rU} {cx:Ctx} {N:Nat}
def Vo (tmps:Array Value):ResultVar→Sem Value
 | .tmp t=>pure (tmps.getD t undef)
 | .cell a t=>do loadVar t (← asAddr (tmps.getD a undef))
theorem Vp (hc:fq P cfg) {m:Nat} {s:St} {a:Act} {w:World} {I:Nat→Prop} {O:OM} (hS:gQ cfg N m cx s a w I O):∀(rs:List ResultVar) (vs:List AV),Dz cfg s rs=some vs→
  ∃xs:List Value,(rs.mapM (Vo a.tmps)).run P w=.ok xs w∧xs.length=vs.length∧∀j,j<vs.length→Rep w I O (fun o=>o<s.nx) (nth vs j) (xs.getD j Go.undef):=by
 intro rs;induction rs with
 | nil=>intro vs h; cases h; exact ⟨[],by simp,rfl,fun j hj=>by cases hj⟩
 | cons q rs ih=>
  intro vs h;cases q with
  | tmp t=>
   simp only [Dz] at h;split at h
   ·rename_i vs' hvs;cases h;obtain ⟨xs,h1,h2,h3⟩:=ih vs' hvs;refine ⟨a.tmps.getD t Go.undef::xs,?_,by simp [h2],fun j hj=>?_⟩
    ·rw [List.mapM_cons];simp [Vo,h1]
    ·cases j with
     | zero=>exact hS.tmps.rep t rfl
     | succ j=>exact h3 j (by simpa using hj)
   ·cases h
  | cell ad ty=>
   simp only [Dz] at h;split at h
   ·rename_i vs' o ti hvs had hty;have key:∀(cs:List AV) (b bo sz:Nat),a.tmps.getD ad Go.undef=.pointer (some ⟨b,bo,none⟩)→Fy w b sz→bo+cs.length≤sz→(∀j,j<cs.length→Rep w I O (fun o=>o<s.nx) (nth cs j) (cellAt w b (bo+j)))→
      ∀v,dQ (fun _ _ _ _ _=>True) (hget s.heap) (vD ti cs) v [] []→∃xs:List Value,((ResultVar.cell ad ty::rs).mapM (Vo a.tmps)).run P w=.ok xs w∧xs.length=(v::vs').length∧∀j,j<(v::vs').length→Rep w I O (fun o=>o<s.nx) (nth (v::vs') j) (xs.getD j Go.undef):=by
     intro cs b bo sz hgd hal hle hcs v hv
     obtain ⟨xs,h1,h2,h3⟩:=ih vs' hvs
     obtain ⟨_,x,hrun,hx⟩:=mR (w:=w) (I:=I) (O:=O) (D:=fun o=>o<s.nx) hc hty hv b bo (fun j=>cellAt w b (bo+j)) (fun j hj=>qb hal om) (fun j hj=>hcs j hj)
     have hrun':(loadVar ty ⟨b,bo,none⟩).run P w=.ok x w:=by
      have:=hrun
      simp [Instr.loadAt,Instr.sureAddr] at this
      exact this
     refine ⟨x::xs,?_,by simp [h2],fun j hj=>?_⟩
     ·rw [List.mapM_cons,Sem.run_bind]
      have e:(Vo a.tmps (.cell ad ty)).run P w=.ok x w:=by
       unfold Vo
       simp only
       rw [hgd]
       simp [asAddr,hrun']
      rw [e]
      simp [h1]
     ·cases j with
      | zero=>exact hx
      | succ j=>exact h3 j (by simpa using hj)
    have hrep:=hS.tmps.rep ad rfl;rw [had] at hrep;split at h
    ·rename_i cs hob;obtain ⟨p,hp,hO⟩:=hS.rel.live hob;obtain ⟨b,bo,sz,hpl,hi,hxv⟩:=hrep.lF hp;obtain ⟨hn,b',bo',sz',hpl',hal,hle,hcs⟩:=hO;rw [hpl] at hpl';cases hpl';simp only [Nat.zero_mul,Nat.add_zero] at hxv;have key:=key cs b bo sz hxv hal hle hcs;split at h
     ·rename_i hag;split at h
      ·rename_i hsz;cases h;refine key _ ?_;unfold vD;rw [hag];simp only [dZ,hsz];exact .ret _ _
      ·cases h
     ·rename_i hag;split at h
      ·cases h;refine key _ ?_;unfold vD;rw [hag];exact .ret _ _
      ·cases h
    ·rename_i es n g hob;obtain ⟨p,hp,hO⟩:=hS.rel.live hob;obtain ⟨b,bo,sz,hpl,hi,hxv⟩:=hrep.lF hp;obtain ⟨hn,hes,hlen,hpl' | ⟨b',bo',sz',hpl',hal,hle,hcs⟩⟩:=hO
     ·rw [hpl] at hpl'; cases hpl'.2
     rw [hpl] at hpl';cases hpl';simp only [Nat.zero_mul,Nat.add_zero] at hxv;obtain ⟨hrl,hrr⟩:=KH hlen hcs;have key:=key (gD n 0 g) b bo sz hxv hal om (fun j hj=>.pure (hrr j hj));split at h
     ·rename_i hag;split at h
      ·rename_i hsz;cases h;refine key _ ?_;unfold vD;rw [hag];simp only [dZ,hsz];exact .ret _ _
      ·cases h
     ·cases h
    ·cases h
   ·cases h
theorem NR (hc:fq P cfg) {m:Nat} {s:St} {a:Act} {w:World} {I:Nat→Prop} {O:OM} (hS:gQ cfg N m cx s a w I O) {fn:Func} {vs:List AV} (h:Dz cfg s fn.results.toList=some vs):
  ∃x,(results fn a.tmps).run P w=.ok x w∧Rep w I O (fun o=>o<s.nx) (oneOf vs) x:=by
 obtain ⟨xs,h1,h2,h3⟩:=Vp hc hS _ _ h;have hrun:(results fn a.tmps).run P w=.ok (if h:xs.toArray.size=1 then xs.toArray[0] else .tuple xs.toArray) w:=by
  have e0:results fn a.tmps=(fn.results.mapM (Vo a.tmps)) >>= fun vs=>pure (if h:vs.size=1 then vs[0] else .tuple vs):=by
   unfold results;congr 1
  have e2:fn.results.mapM (Vo a.tmps)=Functor.map List.toArray (fn.results.toList.mapM (Vo a.tmps)):=by
   rw [← List.mapM_toArray]
  rw [e0,Sem.run_bind,e2,Sem.run_map,h1];rfl
 refine ⟨_,hrun,?_⟩;match xs,vs,h2,h3 with
 | [],[],_,_=>exact .jX rfl fun j hj=>by cases hj
 | [x],[v],_,h3=>exact h3 0 (by simp)
 | x::x'::xs,v::v'::vs,h2,h3=>
  have:¬ (x::x'::xs).toArray.size=1:=by simp
  rw [dif_neg this]
  exact .jX (by simpa using h2) fun j hj=>by simpa using h3 j hj
theorem Vq:∀(obs:List cB) (i o:Nat),hget (CF.obsUps obs i) o=if i≤o then hof obs (o - i) else none:=by
 intro obs;induction obs with
 | nil=>intro i o; simp [CF.obsUps,hget,look,hof]
 | cons x l ih=>
  intro i o;unfold CF.obsUps hget;simp only [look];cases hb:Nat.beq i o with
  | true=>
   have:=Nat.eq_of_beq_eq_true hb;subst this;simp [hof]
  | false=>
   have hne:i≠o:=fun e=>by subst e; simp at hb
   have:=ih (i+1) o;unfold hget at this;simp only;rw [this];by_cases hi:i≤o
   ·rw [if_pos hi,if_pos om,show o - i=(o - (i+1))+1 by omega];rfl
   ·rw [if_neg hi,if_neg om]
theorem CQ (obs:List cB):hget (CF.obsUps obs 0)=hof obs:=by
 funext o;rw [Vq];simp
theorem Qd:∀(l:List AV) (i t:Nat),tget (DC l i) t=if i≤t then nth l (t - i) else .undef:=by
 intro l;induction l with
 | nil=>intro i t; simp [DC,tget,look,nth]
 | cons v l ih=>
  intro i t;unfold DC tget;simp only [look];cases hb:Nat.beq i t with
  | true=>
   have:=Nat.eq_of_beq_eq_true hb;subst this;simp [nth]
  | false=>
   have hne:i≠t:=fun e=>by subst e; simp at hb
   have:=ih (i+1) t;unfold tget at this;simp only;rw [this];by_cases hi:i≤t
   ·rw [if_pos hi,if_pos om,show t - i=(t - (i+1))+1 by omega];rfl
   ·rw [if_neg hi,if_neg om]
theorem YZ:∀(n i:Nat),(upTo n i).length=n∧∀j,j<n→nthN (upTo n i) j=i+j:=by
 intro n;induction n with
 | zero=>intro i; exact ⟨rfl,fun j hj=>by cases hj⟩
 | succ n ih=>
  intro i;obtain ⟨h1,h2⟩:=ih (i+1);refine ⟨by simp [upTo,h1],fun j hj=>?_⟩;cases j with
  | zero=>rfl
  | succ j=>show nthN (upTo n (i+1)) j=_; rw [h2 j om]; omega
theorem Rw (l m:List Nat) (j:Nat) (h:j<l.length):nthN (l++m) j=nthN l j:=by
 induction l generalizing j with
 | nil=>cases h
 | cons x l ih=>cases j with
  | zero=>rfl
  | succ j=>exact ih j (by simpa using h)
theorem Vr {H:jh}:∀(sg:List Nat) (obs:List cB),PK H sg obs→obs.length=sg.length∧∀j,j<sg.length→∃x y,hget H (nthN sg j)=some x∧hof obs j=some y∧OW x=true∧UM [] [] x y:=by
 intro sg;induction sg with
 | nil=>intro obs h; cases obs with
  | nil=>exact ⟨rfl,fun j hj=>by cases hj⟩
  | cons=>exact h.elim
 | cons o sg ih=>intro obs h; cases obs with
  | nil=>exact h.elim
  | cons y obs=>
   obtain ⟨h1,h2⟩:=h
   obtain ⟨h3,h4⟩:=ih obs h2
   refine ⟨by simp [h3],fun j hj=>?_⟩
   cases j with
   | zero=>
    split at h1
    ·rename_i x hx
     split at h1
     ·rename_i hp; exact ⟨x,y,hx,rfl,hp,h1⟩
     ·exact h1.elim
    ·exact h1.elim
   | succ j=>exact h4 j (by simpa using hj)
theorem aaR:acA [] [] [] where
 ren:=fun _ _ _ h=>by cases h
 ghost:=fun _ _ h=>by cases h
theorem fM.adT {w:World} {I I':Nat→Prop} {O O':OM} {D D':Nat→Prop} {p:Own} {x y:cB} (hI:∀b,I b→I' b) (h:fM w I O D p x) (hp:OW x=true) (he:UM [] [] x y):fM w I' O' D' p y:=by
 cases x with
 | box cs=>
  cases y with
  | row es n g=>exact he.elim
  | map kd z f=>exact he.elim
  | box cs'=>
   obtain ⟨h1,b,bo,sz,hpl,ha,hl,hr⟩:=h;obtain ⟨h2,h3⟩:=Mw _ cs cs' he;refine ⟨h1,b,bo,sz,hpl,ha,by omega,fun j hj=>?_⟩;obtain ⟨f',_,h4⟩:=h3 j hj;have hx:=(hr j om).uG (Rs hp j om);have hy:Rep w I (kN [] [] fun _=>none) (fun _=>False) (nth cs' j) (cellAt w b (bo+j)):=KQ (H:=[]) (O:=fun _=>none) (D:=fun _=>False) (fun o=>by simp [hget,look]) aaR f' _ _ _ (.pure hx) h4;have e:(kN [] [] fun _=>none)=(fun _=>none:OM):=by funext o; simp [kN,hget,look]
   rw [e] at hy;exact .pure ((zB hy).mono hI fun _ _=>rfl)
 | row es n g=>
  cases y with
  | box cs'=>exact he.elim
  | map kd z f=>exact he.elim
  | row es' n' g'=>
   have hO:fM w I' O' D' p (.row es n g):=by
    obtain ⟨h1,h2,h3,h4⟩:=h;refine ⟨h1,h2,h3,?_⟩;rcases h4 with h4 | ⟨b,bo,sz,hp,ha,hl,hr⟩
    ·exact .inl h4
    ·exact .inr ⟨b,bo,sz,hp,ha,hl,fun i j hi hj=>⟨(hr i j hi hj).1.mono hI fun _ _=>rfl,(hr i j hi hj).2⟩⟩
   exact LeO.rep (x:=.row es n g) (y:=.row es' n' g') he hO
 | map kd z f=>cases hp
theorem Rel.home {H:Nat→Option cB} {D:Nat→Prop} {w:World} {I:Nat→Prop} {O:OM} (hR:Rel cfg cx H D w I O) {ex ids:List Nat} {obs:List cB} (hnd:lD (upTo cx.m 0++ex)=true) (hdj:Fq ids (upTo cx.m 0++ex)=true) (hl:obs.length=(upTo cx.m 0++ex).length)
  (hobs:∀j,j<(upTo cx.m 0++ex).length→∃x y,H (nthN (upTo cx.m 0++ex) j)=some x∧hof obs j=some y∧OW x=true∧UM [] [] x y):
  Rel cfg cx (hof obs) (fun o=>o<obs.length) w (fun b=>I b∨zl O ids b) (subO O (upTo cx.m 0++ex))∧∀o,o<cx.m→subO O (upTo cx.m 0++ex) o=cx.O0 o:=by
 have hup:=YZ cx.m 0;have hfst:∀j,j<cx.m→j<(upTo cx.m 0++ex).length∧nthN (upTo cx.m 0++ex) j=j:=fun j hj=>by
  refine ⟨by simp [hup.1]; omega,?_⟩;rw [Rw _ _ _ (by rw [hup.1]; exact hj),hup.2 j hj];simp
 generalize hsg:upTo cx.m 0++ex=sg at hnd hdj hl hobs hfst;have hsub:∀ {j p},subO O sg j=some p→j<sg.length∧O (nthN sg j)=some p:=fun h=>by
  unfold subO at h;split at h
  ·exact ⟨by assumption,h⟩
  ·cases h
 have hO0:∀o,o<cx.m→subO O sg o=cx.O0 o:=fun o ho=>by
  obtain ⟨h1,h2⟩:=hfst o ho;obtain ⟨x,y,h3,_⟩:=hobs o h1;rw [h2] at h3;unfold subO;rw [if_pos h1,h2];rcases hR.PN o ho with e | e
  ·exact e
  ·rw [(hR.dom o).1 e] at h3; cases h3
 refine ⟨?_,hO0⟩;exact {
  maps:=fun j kd z f p b bo sz h h' _=>by
   obtain ⟨h1,_⟩:=hsub h'
   obtain ⟨x,y,_,h4,h5,h6⟩:=hobs j h1
   rw [h] at h4
   cases h4
   cases x with
   | map=>cases h5
   | box=>exact h6.elim
   | row=>exact h6.elim
  dom:=fun j=>by
   unfold subO
   by_cases hj:j<sg.length
   ·obtain ⟨x,y,h1,h2,_⟩:=hobs j hj
    obtain ⟨p,hp,_⟩:=hR.live h1
    simp [hj,h2,hp]
   ·rw [if_neg hj,hof_none obs j om]
    simp
  used:=fun j p h=>by have:=(hsub h).1; omega
  objs:=fun j ob p h h'=>by
   obtain ⟨h1,h2⟩:=hsub h'
   obtain ⟨x,y,h3,h4,h5,h6⟩:=hobs j h1
   rw [h] at h4
   cases h4
   exact (hR.objs _ _ p h3 h2).adT (fun _ h=>.inl h) h5 h6
  inj:=fun j j' p p' b bo sz b' bo' sz' h1 h2 h3 h4 h5=>by
   obtain ⟨q1,q2⟩:=hsub h1
   obtain ⟨q3,q4⟩:=hsub h2
   exact hR.inj _ _ p p' b bo sz b' bo' sz' q2 q4 h3 h4 (fun e=>h5 (CO sg hnd j j' q1 q3 e))
  lZ:=fun j p b bo sz h1 h2 h3=>by
   obtain ⟨q1,q2⟩:=hsub h1
   rcases h3 with h3 | ⟨o',p',bo',sz',q3,q4,q5⟩
   ·exact hR.lZ _ p b bo sz q2 h2 h3
   ·exact hR.inj _ o' p p' b bo sz b bo' sz' q2 q4 h2 q5 (fun e=>JW ids sg hdj o' q3 (e ▸ mU sg j q1)) rfl
  lt:=fun j p b bo sz h1 h2=>hR.lt _ p b bo sz (hsub h1).2 h2
  vF:=(hR.freeze ids).vF
  size:=hR.size
  frame:=hR.frame
  env:=hR.env
  new:=fun j p b bo sz h1 h2=>hR.new _ p b bo sz (hsub h1).2 h2
  glob:=(hR.freeze ids).glob
  KE:=fun b h=>.inl (hR.KE b h)
  NC:=(hR.freeze ids).NC
  PN:=fun o ho=>.inl (hO0 o ho)
  Dm:=fun o ho=>by have:=(hfst o ho).1; omega }
theorem TT (hc:fq P cfg) {f:FuncId} {fn:Func} {c:Code} {args:List AV} {obs:List cB} {r:AV} {obs':List cB} (hf:P.funcs[f]? = some fn) (hb:fn.body=some c) (hnm:(fn.name == "runtime.NumGoroutine")=false)
  (hN:args.length≤fn.ntmps) (hle:obs.length≤obs'.length)
  (h:Good P cfg fn.ntmps none obs.length c ⟨DC args 0,CF.obsUps obs 0,obs.length⟩ (CF cfg (Spec P cfg) fn.results.toList obs.length r obs')):Spec P cfg f args obs r obs':=by
 refine ⟨⟨fn,hf,by rw [hb]; rfl,hnm⟩,hle,fun w I O vals hR hvs hrep=>?_⟩;refine (callsIn_wide (n:=0)).1 (callsIn_of_wp_marks hf hb trivial ?_);have hS:gQ cfg fn.ntmps obs.length (EO w I O obs.length) ⟨DC args 0,CF.obsUps obs 0,obs.length⟩ { tmps:=vals++Array.replicate (fn.ntmps - vals.size) undef,defers:=[] } w I O:=by
  refine ⟨rfl,?_,⟨rfl,by simp; omega,fun t _=>?_,fun t h=>by cases h⟩,⟨[],List.nodup_nil,fun _=>rfl,rfl,fun _ h=>by cases h⟩⟩
  ·rw [CQ]; exact hR
  ·rw [Qd];simp only [Nat.zero_le,if_true,Nat.sub_zero];by_cases ht:t<args.length
   ·have e:(vals++Array.replicate (fn.ntmps - vals.size) undef).getD t Go.undef=vals.getD t Go.undef:=by
     have:t<vals.size:=by omega
     simp [Array.getElem?_append_left this]
    rw [e];exact hrep t ht
   ·have e:nth args t=.undef:=by
     rw [pQ];simp [List.getElem?_eq_none (Nat.le_of_not_lt ht)]
    rw [e];exact .pure (.undef _)
 refine wpIn_mono (h 0 _ _ w I O hS rfl) ?_;intro e a0 w0 ⟨s,I0,O0,hK,hS0⟩;have main:∀(a':Act) (w':World) (I':Nat→Prop) (O':OM),gQ cfg fn.ntmps obs.length (EO w I O obs.length) s a' w' I' O'→(∃vs,Dz cfg s fn.results.toList=some vs∧ev (Spec P cfg) [] (hget s.heap) (H9 (upTo obs.length 0++TB obs.length r (oneOf vs)) (oneOf vs) fun v' ids=>dZ (lD (upTo obs.length 0++TB obs.length r (oneOf vs))) (dZ (Fq ids (upTo obs.length 0++TB obs.length r (oneOf vs))) (iJ v'))) []
   fun v' _ _=>jY [] (CF.obsUps obs' 0) fuel v' r∧PK s.heap (upTo obs.length 0++TB obs.length r (oneOf vs)) obs')→∃v,(results fn a'.tmps).run P w'=.ok v w'∧∃x I'' O'',Ending.returned v=.returned x∧Rel cfg (EO w I O obs.length) (zn obs') (fun o=>o<obs'.length) w' I'' O''∧
   Rep w' I'' O'' (fun o=>o<obs'.length) r x:=by
  rintro a' w' I' O' hS' ⟨vs,hvs,hev⟩
  obtain ⟨x,hrun,hx⟩:=NR hc hS' hvs
  refine ⟨x,hrun,x,?_⟩
  obtain ⟨v',ups,rds,⟨h1,h2⟩,_,h3⟩:=O7 _ _ _ _ _ hev
  obtain ⟨rr,h4,_⟩:=h3 (fun q hq=>by cases hq)
  obtain ⟨h5,h6⟩:=Vr _ _ h2
  obtain ⟨u',ids,r',h7,h8⟩:=Ji hS'.rel (fun j hj=>let ⟨x,y,h9,_⟩:=h6 j hj; ⟨x,h9⟩) h4
  obtain ⟨hnd,h7⟩:=h7.bM
  obtain ⟨hdj,h7⟩:=h7.bM
  obtain ⟨rfl,_⟩:=h7.dN
  obtain ⟨h10,h11⟩:=Rel.home hS'.rel hnd hdj h5 h6
  have hgn:zn obs'=hof obs':=ab9 fun j y hy=>by
   have hj:j<(upTo obs.length 0++TB obs.length r (oneOf vs)).length:=by
    rcases Nat.lt_or_ge j obs'.length with h | h
    ·omega
    ·rw [hof_none _ _ h] at hy; cases hy
   obtain ⟨q,y',_,q2,q3,q4⟩:=h6 j hj
   rw [hy] at q2
   cases q2
   cases y with
   | map=>cases q<;>first | exact q4.elim | cases q3
   | _=>rfl
  refine ⟨_,_,rfl,by rw [hgn]; exact h10,?_⟩
  have hdom:=h10.dom
  rw [← CQ obs'] at hdom
  have hX:acA [] (CF.obsUps obs' 0) (CF.obsUps obs' 0):=⟨fun o' y o hy ho=>by cases ho; exact ⟨y,hy⟩,fun o' y hy ho=>by cases ho⟩
  have:=KQ (D':=fun o=>o<obs'.length) hdom hX fuel _ _ x (h8 x hx) h1
  have e:kN [] (CF.obsUps obs' 0) (subO O' (upTo obs.length 0++TB obs.length r (oneOf vs)))=subO O' (upTo obs.length 0++TB obs.length r (oneOf vs)):=by
   funext o
   unfold kN
   split
   ·rename_i hn; exact ((hdom o).2 hn).symm
   ·rfl
  exact e ▸ this
 have hret:∀(a':Act) (w':World) (I':Nat→Prop) (O':OM),gQ cfg fn.ntmps obs.length (EO w I O obs.length) s a' w' I' O'→∀vs,Dz cfg s fn.results.toList=vs→(match vs with
   | some vs=>match oneOf vs with
    | v=>match upTo obs.length 0++TB obs.length r v with
     | sg=>ev (Spec P cfg) [] (hget s.heap) (H9 sg v fun v' ids=>dZ (lD sg) (dZ (Fq ids sg) (iJ v'))) [] fun v' _ _=>jY [] (CF.obsUps obs' 0) fuel v' r∧PK s.heap sg obs'
   | none=>False)→∃v,(results fn a'.tmps).run P w'=.ok v w'∧∃x I'' O'',Ending.returned v=.returned x∧Rel cfg (EO w I O obs.length) (zn obs') (fun o=>o<obs'.length) w' I'' O''∧
   Rep w' I'' O'' (fun o=>o<obs'.length) r x:=by
  intro a' w' I' O' hS' vs hvs h
  cases vs with
  | none=>exact h.elim
  | some vs=>exact main a' w' I' O' hS' ⟨vs,hvs,h⟩
 obtain ⟨ms,hnd,_,hds,hms⟩:=hS0.marks;have hS1:=gQ.turn (a:=a0) (w:=w0) (a':=⟨a0.tmps,[]⟩) ⟨fun _ _ h=>h,fun _ _=>rfl,Nat.le_refl _,fun _ _ _ h=>h⟩ (fun _ _=>rfl) hS0.rel.env rfl ⟨[],List.nodup_nil,fun _=>rfl,rfl,fun _ h=>by cases h⟩ hS0;cases e with
 | normal=>
  show LeavesInM _ _ _ _ _ _ a0.defers _ _;rw [hds];exact wN (cx:=EO w I O obs.length) (fun _ _ h=>h) (fun a w' I' O' hS'=>hret a w' I' O' hS' _ rfl hK) ms a0.tmps w0 I0 O0 hnd hms hS1
 | ret=>
  show LeavesInM _ _ _ _ _ _ a0.defers _ _;rw [hds];exact wN (cx:=EO w I O obs.length) (fun _ _ h=>h) (fun a w' I' O' hS'=>hret a w' I' O' hS' _ rfl hK) ms a0.tmps w0 I0 O0 hnd hms hS1
 | exit id=>exact hK.elim
 | goto l=>exact hK.elim
 | panic ch=>exact hK.elim
 | outgrown=>exact hK.elim
theorem Y0 (hc:fq P cfg) {f:FuncId} {fn:Func} {c:Code} {ct:List Nat} {args:List AV} {obs:List cB} {r:AV} {obs':List cB} (hf:P.funcs[f]? = some fn) (hb:fn.body=some c) (hnm:(fn.name == "runtime.NumGoroutine")=false)
  (hN:args.length≤fn.ntmps) (hok:fZ fn.ntmps c=true) (hle:obs.length≤obs'.length)
  (h:jD cfg (Spec P cfg) ct (Loops P cfg fn.ntmps none obs.length) c ⟨DC args 0,CF.obsUps obs 0,obs.length⟩ (CF cfg (Spec P cfg) fn.results.toList obs.length r obs')):Spec P cfg f args obs r obs':=
 TT hc hf hb hnm hN hle (jU hc c _ _ hok h)
end
end Go.Ab

namespace Go.Ab
section
variable {P:Program} {cfg:rU} {N:Nat} {cx:Ctx}
def aaS (o es:Nat) (g:Nat→AV) (v:AV):AV:=match v with
 | .dh o' i n f=>match Nat.beq o' o with
  | true=>.sl es n f (mq i g)
  | false=>.dh o' i n f
 | v=>v
def Y1 (o es:Nat) (g:Nat→AV):List AV→List AV
 | []=>[]
 | v::l=>aaS o es g v::Y1 o es g l
def aaT (o es:Nat) (g:Nat→AV) (v:AV):AV:=match v with
 | .agg cs=>.agg (Y1 o es g cs)
 | v=>aaS o es g v
def Vs (o es:Nat) (g:Nat→AV):List AV→List AV
 | []=>[]
 | v::l=>aaT o es g v::Vs o es g l
def acE (o es:Nat) (g:Nat→AV) (v:AV):AV:=match v with
 | .jX cs=>.jX (Vs o es g cs)
 | v=>aaT o es g v
theorem KR (o es:Nat) (g:Nat→AV) (l:List AV):(Y1 o es g l).length=l.length:=by
 induction l with
 | nil=>rfl
 | cons v l ih=>simp [Y1,ih]
theorem Vt (o es:Nat) (g:Nat→AV):∀(l:List AV) (j:Nat),nth (Y1 o es g l) j=aaS o es g (nth l j):=by
 intro l;induction l with
 | nil=>intro j; rfl
 | cons v l ih=>intro j; cases j with
  | zero=>rfl
  | succ j=>exact ih j
theorem SL (o es:Nat) (g:Nat→AV) (l:List AV):(Vs o es g l).length=l.length:=by
 induction l with
 | nil=>rfl
 | cons v l ih=>simp [Vs,ih]
theorem Y2 (o es:Nat) (g:Nat→AV):∀(l:List AV) (j:Nat),nth (Vs o es g l) j=aaT o es g (nth l j):=by
 intro l;induction l with
 | nil=>intro j; rfl
 | cons v l ih=>intro j; cases j with
  | zero=>rfl
  | succ j=>exact ih j
def aaU (o es:Nat) (g:Nat→AV):List (Nat×AV)→List (Nat×AV)
 | []=>[]
 | (t,v)::l=>(t,acE o es g v)::aaU o es g l
theorem Y3 (o es:Nat) (g:Nat→AV):∀(l:List (Nat×AV)) (t:Nat),tget (aaU o es g l) t=acE o es g (tget l t):=by
 intro l;induction l with
 | nil=>intro t; rfl
 | cons p l ih=>
  intro t;obtain ⟨k,v⟩:=p;unfold aaU tget;simp only [look];cases hb:Nat.beq k t with
  | true=>rfl
  | false=>exact ih t
theorem Qe {H:Nat→Option cB} {D:Nat→Prop} {w:World} {I:Nat→Prop} {O:OM} (hR:Rel cfg cx H D w I O) {o es n0:Nat} {g:Nat→AV} (ho:H o=some (.row es n0 g)) {v:AV} {x:Value} (h:Rep w I O D v x):
  Rep w (fun b=>I b∨zl O [o] b) (kill O [o]) D (aaS o es g v) x:=by
 have dflt:Rep w (fun b=>I b∨zl O [o] b) (kill O [o]) D v x:=
  h.mono (fun _ h=>.inl h) (fun _ _=>rfl) (fun o' _=>by unfold kill; by_cases h0:o'∈[o]<;>simp [h0]) (fun _ h=>h) hR.used
 unfold aaS;split
 ·rename_i o' i n f;split
  ·rename_i hb;have:=Nat.eq_of_beq_eq_true hb;subst this;have he:dQ (fun _ _ _ _ _=>True) H (Sl 1 (.dh o' i n f) (fun u ids=>.ret u (dead ids))) (.sl es n f (mq i g)) (dead [o']) [o']:=.rd ho (.ret _ _);obtain ⟨u,ids,r',h1,h2⟩:=(Ba hR 1).1 _ _ _ _ _ he;have hid:u=.sl es n f (mq i g)∧dead ids=dead [o']:=by
    have:=h1.jy;exact ⟨this.1.symm,this.2.symm⟩
   have hids:ids=[o']:=by
    have h3:=hid.2;match ids,h3 with
    | [],h3=>cases h3
    | [a],h3=>simp [dead] at h3; rw [h3]
    | a::b::l,h3=>simp [dead] at h3
   rw [hids] at h2;rw [← hid.1];exact .pure (h2 x h)
  ·exact dflt
 ·exact dflt
theorem Vu {H:Nat→Option cB} {D:Nat→Prop} {w:World} {I:Nat→Prop} {O:OM} (hR:Rel cfg cx H D w I O) {o es n0:Nat} {g:Nat→AV} (ho:H o=some (.row es n0 g)) {v:AV} {x:Value} (h:Rep w I O D v x):
  Rep w (fun b=>I b∨zl O [o] b) (kill O [o]) D (aaT o es g v) x:=by
 unfold aaT;split
 ·obtain ⟨xs,rfl,hl,hr⟩:=h.qH;refine .agg (by rw [KR]; exact hl) fun j hj=>?_;rw [KR] at hj;rw [Vt];exact Qe hR ho (hr j hj)
 ·exact Qe hR ho h
theorem acF {H:Nat→Option cB} {D:Nat→Prop} {w:World} {I:Nat→Prop} {O:OM} (hR:Rel cfg cx H D w I O) {o es n0:Nat} {g:Nat→AV} (ho:H o=some (.row es n0 g)) {v:AV} {x:Value} (h:Rep w I O D v x):
  Rep w (fun b=>I b∨zl O [o] b) (kill O [o]) D (acE o es g v) x:=by
 unfold acE;split
 ·obtain ⟨xs,rfl,hl,hr⟩:=h.CG;refine .jX (by rw [SL]; exact hl) fun j hj=>?_;rw [SL] at hj;rw [Y2];exact Vu hR ho (hr j hj)
 ·exact Vu hR ho h
end
end Go.Ab


namespace Go.Ab
section
variable {P:Program} {cfg:rU}
def Qf (P:Program) (cfg:rU) (N:Nat) (r:Option Nat) (m:Nat) (c:Code) (s:St) (K:Exit→St→Prop):Prop:=
 ∃e0 s0,K e0 s0∧Good P cfg N r m c s (fun e s=>e=e0∧s=s0)
structure afl (P:Program) (cfg:rU) (N:Nat) (r:Option Nat) (m:Nat) (c:Code) (s:St) (K:Exit→St→Prop):Prop where
 ok:Qf P cfg N r m c s K
theorem Qf.seq {N:Nat} {r:Option Nat} {m:Nat} {x y:Code} {s:St} {K:Exit→St→Prop} (h:Qf P cfg N r m x s fun e s'=>match e with | .normal=>Qf P cfg N r m y s' K | e=>K e s'):Qf P cfg N r m (.seq x y) s K:=by
 obtain ⟨e1,s1,h1,h2⟩:=h;cases e1 with
 | normal=>
  obtain ⟨e0,s0,h3,h4⟩:=h1;refine ⟨e0,s0,h3,yj (h2.mono fun e s' h=>?_)⟩;obtain ⟨rfl,rfl⟩:=h;exact h4
 | _=>
  refine ⟨_,s1,h1,yj (h2.mono fun e s' h=>?_)⟩;obtain ⟨rfl,rfl⟩:=h;exact ⟨rfl,rfl⟩
end
end Go.Ab

/- A part of the proof. -/
import Derived.Test.YtifekdmmpbcdgaaGreatDoorA0
import Derived.Laws.Append
import Derived.Deep.Upon
import GoSem.Builtin.Clear
import Derived.Laws.BytesString
set_option linter.unusedVariables false
set_option linter.unusedSimpArgs false
namespace Go.Ab
section
variable {P:Program} {cfg:xE} {cx:Ctx} {H:Nat→Option eP} {D:Nat→Prop} {w:World} {I:Nat→Prop} {O:OM} {Sp:o9}
variable {eY:Nat} {o:Oper} {a:Act} {ρ:Operand→AV} {v:AV} {ups:kN} {r:List Nat}
def l8 (O:OM) (n:Nat) (p:Own):OM:=λ o=>if o=n then some p else O o
theorem MK {p:Own} (hn:¬ D eY) {ob:Nat} (h:D ob):l8 O eY p ob=O ob:=by
 unfold l8;rw [if_neg (by intro e; subst e; exact hn h)]
theorem jT (ob:Obj) {b:Nat} (h:b<w.heap.size):(w.alloc ob).heap[b]? = w.heap[b]? := by
 show (w.heap.push ob)[b]? = _;rw [Array.getElem?_push,if_neg (Nat.ne_of_lt h)]
theorem heap_alloc_new (ob:Obj):(w.alloc ob).heap[w.heap.size]? = some ob:=by
 show (w.heap.push ob)[w.heap.size]? = _;simp
theorem ng (ob:Obj):(w.alloc ob).heap.size=w.heap.size+1:=by
 show (w.heap.push ob).size=_;simp
theorem xO (c:Array Value) (e:TypeId) (j:Nat):(w.alloc (.cells c e)).cell? ⟨w.heap.size,j,none⟩=c[j]? := by
 unfold World.cell?;rw [heap_alloc_new];rfl
theorem U8 (c:Array Value) (e:TypeId) (j:Nat):(w.alloc (.cells c e)).frozen? ⟨w.heap.size,j,none⟩=false:=by
 unfold World.frozen?;rw [heap_alloc_new];simp
theorem BG (c:Array Value) (e:TypeId):KD (w.alloc (.cells c e)) w.heap.size c.size:=by
 intro j hj;rw [xO,U8];simp [Array.getElem?_eq_getElem hj]
theorem tT (c:Array Value) (e:TypeId) (h1:∀j,j<c.size→(c.getD j Go.undef).oneCell'=true):xI (w.alloc (.cells c e)) w.heap.size 0 c.size:=
 ⟨BG c e,λ j _ hj=>by
  have:cellAt (w.alloc (.cells c e)) w.heap.size j=c.getD j Go.undef:=by
   rw [cellAt,xO];simp
  rw [this];exact h1 j hj⟩
theorem nY (c:Array Value) (e:TypeId) (j:Nat):cellAt (w.alloc (.cells c e)) w.heap.size j=c.getD j Go.undef:=by
 rw [cellAt,xO];simp
theorem fA.push (hR:Rel cfg cx H D w I O) (ob:Obj) (p:Own) (hn:¬ D eY) {v:AV} {x:Value} (h:fA w I O D v x):fA (w.alloc ob) I (l8 O eY p) (EY D eY) v x:=
 h.mono (λ _ h=>h) (λ b hb=>jT ob (hR.Bz b hb)) (λ _ ho=>.inl (MK hn ho)) (λ _ h=>.inl h) hR.used
theorem Rel.anw (hR:Rel cfg cx H D w I O) (hn:¬ D eY) (nb:Obj) (ob:eP) (p:Own) (zz:Nat) (hp:p.pl=some (w.heap.size,0,zz))
  (rQ:iQ (w.alloc nb) I (l8 O eY p) (EY D eY) p ob):Rel cfg cx (mW H [(eY,some ob)]) (EY D eY) (w.alloc nb) I (l8 O eY p):=by
 have hH:∀o,mW H [(eY,some ob)] o=if o=eY then some ob else H o:=by
  intro o;simp only [mW,look];cases hb:Nat.beq eY o with
  | true=>have:=Nat.eq_of_beq_eq_true hb; subst this; simp
  | false=>
   have:o≠eY:=λ e=>by subst e; simp at hb
   simp [this]
 have hOn:O eY=none:=by
  cases h:O eY with
  | none=>rfl
  | some p'=>exact absurd (hR.used eY p' h) hn
 have old:∀ {o p'},o≠eY→l8 O eY p o=some p'→O o=some p':=λ hne h=>by unfold l8 at h; rwa [if_neg hne] at h
 exact {
  dom:=λ o=>by
   rw [hH]; unfold l8
   by_cases h:o=eY
   ·simp [h]
   ·simp [h,hR.dom o]
  used:=λ o p' h=>by
   by_cases hne:o=eY
   ·exact U5 hne
   ·exact .inl (hR.used o p' (old hne h))
  objs:=λ o ob' p' h h'=>by
   by_cases hne:o=eY
   ·subst hne
    rw [hH,if_pos rfl] at h
    unfold l8 at h'
    rw [if_pos rfl] at h'
    cases h; cases h'
    exact rQ
   ·rw [hH,if_neg hne] at h
    have h'':=old hne h'
    exact (hR.objs o ob' p' h h'').mono (λ _ h=>h) (λ b hb=>jT _ (hR.Bz b hb)) (λ _ ho=>.inl (MK hn ho)) (λ _ h=>.inl h) hR.used
     (λ b bo sz hpl=>jT _ (hR.lt o p' b bo sz h'' hpl))
  inj:=λ o o' p1 p2 b bo sz b' o8 sz' h1 h2 h3 h4 h5=>by
   by_cases e1:o=eY
   ·by_cases e2:o'=eY
    ·exact absurd (e1.trans e2.symm) h5
    ·unfold l8 at h1
     rw [if_pos e1] at h1
     cases h1
     rw [hp] at h3
     cases h3
     have:=hR.lt o' p2 b' o8 sz' (old e2 h2) h4
     omega
   ·by_cases e2:o'=eY
    ·unfold l8 at h2
     rw [if_pos e2] at h2
     cases h2
     rw [hp] at h4
     cases h4
     have:=hR.lt o p1 b bo sz (old e1 h1) h3
     omega
    ·exact hR.inj o o' p1 p2 b bo sz b' o8 sz' (old e1 h1) (old e2 h2) h3 h4 h5
  qH:=λ o p1 b bo sz h1 h2 h3=>by
   by_cases e1:o=eY
   ·unfold l8 at h1
    rw [if_pos e1] at h1
    cases h1
    rw [hp] at h2
    cases h2
    have:=hR.Bz _ h3
    omega
   ·exact hR.qH o p1 b bo sz (old e1 h1) h2 h3
  lt:=λ o p1 b bo sz h1 h2=>by
   have hs:(w.alloc nb).heap.size=w.heap.size+1:=ng _
   by_cases e1:o=eY
   ·unfold l8 at h1
    rw [if_pos e1] at h1
    cases h1
    rw [hp] at h2
    cases h2
    omega
   ·have:=hR.lt o p1 b bo sz (old e1 h1) h2
    omega
  Bz:=λ b h=>by
   have:=hR.Bz b h
   rw [ng]
   omega
  size:=by
   have:=hR.size
   rw [ng]
   omega
  env:=hR.env.step (iG.alloc _ _)
  frame:=λ b h1 h2=>by
   rw [jT _ (by have:=hR.size; omega)]
   exact hR.frame b h1 h2
  new:=λ o p1 b bo sz h1 h2=>by
   by_cases e1:o=eY
   ·unfold l8 at h1
    rw [if_pos e1] at h1
    cases h1
    rw [hp] at h2
    cases h2
    exact .inl hR.size
   ·exact hR.new o p1 b bo sz (old e1 h1) h2
  glob:=λ g cs h=>(hR.glob g cs h).mono (λ _ h=>h) (λ b hb=>jT _ (hR.Bz b hb))
  SG:=hR.SG
  U4:=hR.U4
  Yf:=λ o h=>by
   have hne:o≠eY:=λ e=>hn (e ▸ hR.Dm o h)
   unfold l8
   rw [if_neg hne]
   exact hR.Yf o h
  Dm:=λ o h=>.inl (hR.Dm o h) }
theorem Rel.push (hR:Rel cfg cx H D w I O) (hn:¬ D eY) (c:Array Value) (e:TypeId) (ob:eP) (p:Own) (hp:p.pl=some (w.heap.size,0,c.size))
  (rQ:iQ (w.alloc (.cells c e)) I (l8 O eY p) (EY D eY) p ob):Rel cfg cx (mW H [(eY,some ob)]) (EY D eY) (w.alloc (.cells c e)) I (l8 O eY p):=
 hR.anw hn _ ob p _ hp rQ
theorem Dx (u:Nat×Option eP) (l:kN):mW H (u::l)=mW (mW H l) [u]:=by
 funext o;simp only [mW,look];cases Nat.beq u.1 o<;>rfl
theorem fP.U9 (hR:Rel cfg cx H D w I O) (hn:¬ D eY) {x:Value} {c:Array Value} {e:TypeId} {ob:eP} {p:Own} (ids:List Nat) (hrun:(execOp a.eval o).run P w=.ok (.value x) (w.alloc (.cells c e)))
  (hp:p.pl=some (w.heap.size,0,c.size)) (rQ:iQ (w.alloc (.cells c e)) (λ b=>I b∨EW O ids b) (l8 (kill O ids) eY p) (EY D eY) p ob)
  (hv:∀I' O' D',O' eY=some p→fA (w.alloc (.cells c e)) I' O' D' v x):fP P cfg cx H D w I O eY o a v ((eY,some ob)::dead ids):=by
 intro next Q hnx
 have SY:=hR.freeze ids;refine BF hrun (hnx x _ _ _ ?_ ?_ (hv (λ b=>I b∨EW O ids b) (l8 (kill O ids) eY p) _ (by simp [l8])))
 ·rw [Dx];exact SY.push hn c e ob p hp rQ
 ·intro u y hu;exact (hu.kill hR ids).push SY _ p hn
theorem RJ (t:TypeId) (v:Value):(newVar t v).run P w=.ok ⟨w.heap.size,0,none⟩ (w.alloc (.cells v.cells t)):=by
 simp only [newVar,newRow,newObj,Sem.run_bind,Sem.run,Result.andThen];rfl
theorem DV (zs:List ZK) (c:Array Value) (n:Nat) (hl:zs.length=n) (hz:∀j,j<n→MH (zs.getD j .other) (c.getD j Go.undef)):∀j,j<n→iF w I (nth (Au zs) j) (c.getD j Go.undef):=by
 intro j hj;have key:∀(zs:List ZK) (j:Nat),j<zs.length→nth (Au zs) j=ofZ (zs.getD j .other):=by
  intro zs;induction zs with
  | nil=>intro j hj; cases hj
  | cons z l ih=>intro j hj; cases j with
   | zero=>rfl
   | succ j=>simpa [Au,nth] using ih j (by simpa using hj)
 rw [key zs j om];have:=hz j hj;cases hzz:zs.getD j .other<;>rw [hzz] at this<;>simp only [MH] at this<;>simp only [ofZ]<;>first | exact .undef _ | rw [this]
 ·exact .bool _
 ·exact .int _ _
 ·exact .str _
 ·exact .sl 0 0 (λ _ _=>Go.undef) (Nat.le_refl _) (λ _=>rfl) (λ h=>absurd rfl h) (λ i h=>by cases h) (λ i j h=>by cases h) (λ i j h=>by cases h) (λ i j h=>by cases h)
 ·exact .EX
theorem xP (zs:List ZK) (c:Array Value) (n:Nat) (hz:∀j,j<n→MH (zs.getD j .other) (c.getD j Go.undef)):∀j,j<n→(c.getD j Go.undef).oneCell'=true:=by
 intro j hj;have:=hz j hj;cases hzz:zs.getD j .other<;>rw [hzz] at this<;>simp only [MH] at this<;>first | exact this | (rw [this]; rfl)
theorem jw (zs:List ZK):(Au zs).length=zs.length:=by
 induction zs with
 | nil=>rfl
 | cons z l ih=>simp [Au,ih]
theorem adw (n:Nat) (z:List ZK):(afc n z).length=n*z.length:=by
 induction n with
 | zero=>simp [afc]
 | succ n ih=>simp only [afc,List.length_append,ih]; rw [Nat.succ_mul]; omega
theorem adx (l m:List ZK):Au (l++m)=Au l++Au m:=by
 induction l with
 | nil=>rfl
 | cons z l ih=>simp only [List.cons_append,Au,ih]
theorem ahF:∀(n:Nat) (z:List ZK) (size:Nat),z.length=size→∀q j,q<n→j<size→nth (Au (afc n z)) (q*size+j)=nth (Au z) j:=by
 intro n;induction n with
 | zero=>intro z size _ q j h; exact absurd h (Nat.not_lt_zero _)
 | succ n ih=>
  intro z size hz q j hq hj;simp only [afc];rw [adx,agH,jw,hz];cases q with
  | zero=>simp only [Nat.zero_mul,Nat.zero_add]; rw [if_pos hj]
  | succ q=>
   rw [if_neg (by rw [Nat.succ_mul]; omega)];have e1:(q+1)*size+j - size=q*size+j:=by rw [Nat.succ_mul]; omega
   rw [e1];exact ih z size hz q j om hj
theorem aah {ti:RG} (hz:zok ti=true) (hl:ti.zero.length=ti.size):(zeroOf ti).cells=Au ti.zero:=by
 unfold zok at hz;split at hz
 ·unfold zeroOf;cases ha:ti.agg with
  | true=>rfl
  | false=>
   rw [ha] at hz;have:ti.size=1:=Nat.eq_of_beq_eq_true hz;rw [this] at hl;match ti.zero,hl with
   | [q],_=>
    show (ofZ q).cells=[ofZ q]
    cases q<;>rfl
 ·cases hz
theorem ajk (hc:iE P cfg) (hR:Rel cfg cx H D w I O) (hn:¬ D eY) {t:TypeId} (ho:o.op=.alloc t) (h:fU Sp H (gY cfg eY (.alloc t) ρ) v ups r):fP P cfg cx H D w I O eY o a v ups:=by
 simp only [gY] at h;obtain ⟨ti,ht,h1⟩:=h.lK;obtain ⟨i,d,z,hi,hu,hz,hs,_,_,hzs,hzl,WA,_⟩:=(hc.ty t ti ht).ex;split at h1
 ·rename_i n et harr;obtain ⟨ei,hei,h2⟩:=h1.lK;obtain ⟨c1,h3⟩:=h2.cK;obtain ⟨c2,h4⟩:=h3.cK;obtain ⟨c3,h5⟩:=h4.cK;obtain ⟨rfl,rfl⟩:=h5.l7;have c2:0<n:=by
   rcases Nat.eq_zero_or_pos n with h0 | h0
   ·subst h0; cases c2
   ·exact h0
  have c3:=of_decide_eq_true c3;have hl:(Au ei.zero).length=ei.size:=by
   rw [jw];exact (hc.ty et ei hei).ex.elim λ _ h=>h.elim λ _ h=>h.elim λ _ h=>h.2.2.2.2.2.2.2.1
  have hcl:(zeroOf ei).cells=Au ei.zero:=aah c1 (by rw [jw] at hl; exact hl);have hsz:ti.size=n*ei.size:=by
   rw [← hzl,c3,adw,← jw,hl]
  refine fP.U9 (p:=⟨ei.size,n,some (w.heap.size,0,z.cells.size)⟩) (c:=z.cells) (e:=t) (x:=.pointer (some ⟨w.heap.size,0,none⟩)) hR hn [] ?_ rfl ?_ ?_
  ·simp [execOp,ho,Instr.alloc,zeroValue,typeInfo,hi,hz,RJ]
  ·refine ⟨rfl,rfl,λ _ _=>by rw [hcl]; exact hl,.inr ⟨_,_,_,rfl,tT _ _ (λ j hj=>xP _ _ _ WA _ om),by omega,λ q j hq hj=>?_⟩⟩;rw [Nat.zero_add,nY];have hqj:q*ei.size+j<ti.size:=by
    have:(q+1)*ei.size≤n*ei.size:=Nat.mul_le_mul_right _ hq;rw [Nat.succ_mul] at this;omega
   refine ⟨?_,xP _ _ _ WA _ hqj⟩;have:=DV (w:=w.alloc (.cells z.cells t)) (I:=λ b=>I b∨EW O [] b) _ _ ti.size hzl WA _ hqj;rw [hcl];have e1:nth (Au ti.zero) (q*ei.size+j)=nth (Au ei.zero) j:=by
    rw [c3];exact ahF n _ _ (by rw [← jw]; exact hl) q j hq hj
   rw [← e1];exact this
  ·intro I' O' D' hO;have h6:fA (w.alloc (.cells z.cells t)) I' O' D' (.ptr eY 0 0) _:=.ptr (i:=0) (off:=0) hO rfl c2;have e0:0+(0*ei.size+0)=0:=by simp
   simp only [e0] at h6;exact h6
 obtain ⟨rfl,rfl⟩:=h1.l7;refine fP.U9 (p:=⟨0,1,some (w.heap.size,0,z.cells.size)⟩) (c:=z.cells) (e:=t) (x:=.pointer (some ⟨w.heap.size,0,none⟩)) hR hn [] ?_ rfl ?_ ?_
 ·simp [execOp,ho,Instr.alloc,zeroValue,typeInfo,hi,hz,RJ]
 ·refine ⟨rfl,_,_,_,rfl,BG _ _,by rw [jw]; omega,λ j hj=>?_⟩;rw [Nat.zero_add,nY];exact .pure (DV _ _ ti.size hzl WA j (by rw [jw] at hj; omega))
 ·intro I' O' D' hO;exact .ptr (i:=0) (off:=0) hO rfl (by simp)
theorem aog (hR:Rel cfg cx H D w I O) (hn:¬ D eY) {t:TypeId} {x:Operand} (ho:o.op=.box t x) (hx:fA w I O D (ρ x) (a.eval x)) (h:fU Sp H (gY cfg eY (.box t x) ρ) v ups r):fP P cfg cx H D w I O eY o a v ups:=by
 simp only [gY] at h;obtain ⟨hk,h1⟩:=h.Dv;obtain ⟨rfl,rfl⟩:=h1.l7;obtain ⟨hl,hcs⟩:=hx.cells hk;refine fP.U9 (p:=⟨0,1,some (w.heap.size,0,(a.eval x).cells.size)⟩) (c:=(a.eval x).cells) (e:=t) (x:=.pointer (some ⟨w.heap.size,0,none⟩)) hR hn [] ?_ rfl ?_ ?_
 ·simp [execOp,ho,Instr.box,RJ]
 ·refine ⟨rfl,_,_,_,rfl,BG _ _,by omega,λ j hj=>?_⟩;rw [Nat.zero_add,nY];exact ((hcs j hj).1.kill hR []).push (hR.freeze []) _ _ hn
 ·intro I' O' D' hO;exact .ptr (i:=0) (off:=0) hO rfl (by simp)
end
end Go.Ab
namespace Go.Ab
section
variable {P:Program} {cfg:xE} {cx:Ctx} {H:Nat→Option eP} {D:Nat→Prop} {w:World} {I:Nat→Prop} {O:OM} {Sp:o9}
variable {eY:Nat} {o:Oper} {a:Act} {ρ:Operand→AV} {v:AV} {ups:kN} {r:List Nat}
theorem run_places (l:List Field) (h:∀f∈l,(P.info? f.type).isSome=true):∃ps:List (Nat×Nat),ps.length=l.length∧(∀(k:Nat) (f:Field) (i:TypeInfo),l[k]? = some f→P.info? f.type=some i→ps[k]? = some (f.offset,i.size))∧
  (l.mapM (λ f:Field=>do pure (f.offset,← sizeOf f.type))).run P w=.ok ps w:=by
 induction l with
 | nil=>exact ⟨[],rfl,λ k f i h=>by simp at h,by simp⟩
 | cons f l ih=>
  obtain ⟨ps,h1,h2,h3⟩:=ih (λ f hf=>h f (List.mem_cons_of_mem _ hf));obtain ⟨i,hi⟩:=Option.isSome_iff_exists.1 (h f (by simp));refine ⟨(f.offset,i.size)::ps,by simp [h1],λ k f' i' hk hi'=>?_,?_⟩
  ·cases k with
   | zero=>simp at hk; subst hk; rw [hi] at hi'; cases hi'; simp
   | succ k=>simpa using h2 k f' i' (by simpa using hk) hi'
  ·rw [List.mapM_cons];simp only [bind_assoc,pure_bind,Sem.run_bind,gB hi,Result.andThen_ok,h3,Sem.run_pure]
def setAt (cells:Array Value) (off:Nat) (vs:Array Value):Array Value:=vs.zipIdx.foldl (λ cs (p:Value×Nat)=>cs.setIfInBounds (off+p.2) p.1) cells
theorem afn (off:Nat):∀(l:List Value) (n:Nat) (cells:Array Value),off+n+l.length≤cells.size→
  ((l.zipIdx n).foldl (λ (cs:Array Value) (p:Value×Nat)=>cs.setIfInBounds (off+p.2) p.1) cells).size=cells.size∧
  ∀k,((l.zipIdx n).foldl (λ (cs:Array Value) (p:Value×Nat)=>cs.setIfInBounds (off+p.2) p.1) cells).getD k Go.undef=
   if off+n≤k∧k<off+n+l.length then l.getD (k - (off+n)) Go.undef else cells.getD k Go.undef:=by
 intro l;induction l with
 | nil=>intro n cells _; exact ⟨rfl,λ k=>by simp [show ¬ (off+n≤k∧k<off+n) by omega]⟩
 | cons x l ih=>
  intro n cells hle;simp only [List.zipIdx_cons,List.foldl_cons];obtain ⟨h1,h2⟩:=ih (n+1) (cells.setIfInBounds (off+n) x) (by simp at hle ⊢; omega);refine ⟨by rw [h1]; simp,λ k=>?_⟩;rw [h2 k];by_cases hk:k=off+n
  ·subst hk;have hlt:off+n<cells.size:=by simp at hle; omega
   have e1:¬ (off+(n+1)≤off+n∧off+n<off+(n+1)+l.length):=by omega
   have e2:off+n≤off+n∧off+n<off+n+(x::l).length:=by simp
   rw [if_neg e1,if_pos e2];simp [hlt]
  ·by_cases hin:off+(n+1)≤k∧k<off+(n+1)+l.length
   ·have e2:off+n≤k∧k<off+n+(x::l).length:=by simp; omega
    rw [if_pos hin,if_pos e2];have:k - (off+n)=(k - (off+(n+1)))+1:=by omega
    rw [this];simp
   ·have e2:¬ (off+n≤k∧k<off+n+(x::l).length):=by simp; omega
    rw [if_neg hin,if_neg e2];have hne:off+n≠k:=λ e=>hk e.symm;simp [Array.getElem?_setIfInBounds_ne hne]
theorem YN (cells:Array Value) (off:Nat) (vs:Array Value) (h:off+vs.size≤cells.size):(setAt cells off vs).size=cells.size∧
  ∀k,(setAt cells off vs).getD k Go.undef=if off≤k∧k<off+vs.size then vs.getD (k - off) Go.undef else cells.getD k Go.undef:=by
 have e:setAt cells off vs=(vs.toList.zipIdx 0).foldl (λ (cs:Array Value) (p:Value×Nat)=>cs.setIfInBounds (off+p.2) p.1) cells:=by
  unfold setAt;rw [← Array.foldl_toList];simp
 rw [e];obtain ⟨h1,h2⟩:=afn off vs.toList 0 cells (by simpa using h);refine ⟨h1,λ k=>?_⟩;rw [h2 k];simp
theorem Az:∀(new l:List AV) (off:Nat),(HY off new l).length=l.length:=by
 intro new l;induction l generalizing new with
 | nil=>intro off; cases new<;>cases off<;>simp [HY]
 | cons x l ih=>
  intro off;cases new with
  | nil=>cases off<;>simp [HY]
  | cons v new=>cases off<;>simp [HY,ih]
theorem YO:∀(l new:List AV) (off:Nat),off+new.length≤l.length→∀j,nth (HY off new l) j=if off≤j∧j<off+new.length then nth new (j - off) else nth l j:=by
 intro l;induction l with
 | nil=>
  intro new off h j;have:new=[]:=by cases new<;>simp_all
  subst this;rw [if_neg (by simp)];cases off<;>rfl
 | cons x l ih=>
  intro new off h j;cases new with
  | nil=>cases off<;>simp [HY,show ∀n:Nat,¬ (n≤j∧j<n) by omega]
  | cons v new=>
   cases off with
   | zero=>
    simp only [HY];cases j with
    | zero=>simp [nth]
    | succ j=>
     simp only [nth];rw [ih new 0 (by simp at h ⊢; omega) j];by_cases hj:j<new.length
     ·rw [if_pos om,if_pos (by simp; omega)]; simp [nth]
     ·rw [if_neg om,if_neg (by simp; omega)]
   | succ off=>
    simp only [HY];cases j with
    | zero=>simp [nth]
    | succ j=>
     simp only [nth];rw [ih (v::new) off (by simp at h ⊢; omega) j];by_cases hj:off≤j∧j<off+(v::new).length
     ·rw [if_pos hj,if_pos om]; congr 1; omega
     ·rw [if_neg hj,if_neg om]
def ady (w:World) (I:Nat→Prop) (O:OM) (D:Nat→Prop) (cs:List AV) (cells:Array Value):Prop:=cells.size=cs.length∧∀j,j<cs.length→fA w I O D (nth cs j) (cells.getD j Go.undef)
theorem ady.put {cs new:List AV} {cells vs:Array Value} {off:Nat} (h:ady w I O D cs cells) (h':ady w I O D new vs) (hle:off+new.length≤cs.length):ady w I O D (HY off new cs) (setAt cells off vs):=by
 obtain ⟨h1,h2⟩:=h;obtain ⟨h3,h4⟩:=h';obtain ⟨s1,s2⟩:=YN cells off vs om;refine ⟨by rw [s1,Az,h1],λ j hj=>?_⟩;rw [Az] at hj;rw [YO _ _ _ hle,s2];by_cases hin:off≤j∧j<off+new.length
 ·rw [if_pos hin,if_pos om]; exact h4 _ om
 ·rw [if_neg hin,if_neg om]; exact h2 j hj
theorem aa2 (place:Nat→Option (Nat×Nat)) (cells:Array Value) (i:Nat) (v:Value) (rest:List (Nat×Value)) (off size:Nat) (hp:place i=some (off,size)) (hs:v.cells.size=size) (hle:off+v.cells.size≤cells.size):
  Instr.fill place cells ((i,v)::rest)=Instr.fill place (setAt cells off v.cells) rest:=by
 have hs':¬ v.cells.size≠size:=by omega
 have hle':¬ off+v.cells.size > cells.size:=by omega
 simp only [Instr.fill,hp];rw [if_neg (by simp; omega)];rfl
theorem WB {fs:List (Nat×Nat)} {place:Nat→Option (Nat×Nat)} (hpl:∀k off t ti,Xl fs k=some (off,t)→look cfg.ty t=some ti→place k=some (off,ti.size)):
  ∀(parts:List (Nat×Operand)) (cs:List AV) (cells:Array Value) (k:List AV→Pg) (r:List Nat),(∀p∈parts,fA w I O D (ρ p.2) (a.eval p.2))→ady w I O D cs cells→fU Sp H (adi cfg fs (parts.map λ p=>(p.1,ρ p.2)) cs k) v ups r→
   ∃cs' cells' r',fU Sp H (k cs') v ups r'∧Instr.fill place cells (parts.map λ p=>(p.1,a.eval p.2))=some cells'∧ady w I O D cs' cells':=by
 intro parts;induction parts with
 | nil=>intro cs cells k r _ hrep h; exact ⟨cs,cells,r,h,rfl,hrep⟩
 | cons p parts ih=>
  intro cs cells k r hx hrep h;simp only [List.map_cons,adi] at h;cases hf:Xl fs p.1 with
  | none=>simp only [hf] at h; exact (fU.bE h).elim
  | some q=>
   obtain ⟨off,t⟩:=q;simp only [hf] at h;obtain ⟨ti,ht,h1⟩:=h.lK;obtain ⟨hk,h2⟩:=h1.Dv;obtain ⟨hsz,h3⟩:=h2.cK;obtain ⟨hle,h4⟩:=h3.cK;have hsz:(ρ p.2).cells.length=ti.size:=Nat.eq_of_beq_eq_true hsz;have hle:off+(ρ p.2).cells.length≤cs.length:=Nat.le_of_ble_eq_true hle;obtain ⟨hl,hcs⟩:=(hx p (by simp)).cells hk;have ajl:=hrep.put (off:=off) (new:=(ρ p.2).cells) (vs:=(a.eval p.2).cells) ⟨hl,λ j hj=>(hcs j hj).1⟩ hle;obtain ⟨cs',cells',r',q1,q2,q3⟩:=ih _ _ k r (λ p hp=>hx p (List.mem_cons_of_mem _ hp)) ajl h4;refine ⟨cs',cells',r',q1,?_,q3⟩;simp only [List.map_cons];rw [aa2 place cells p.1 (a.eval p.2) _ off ti.size (hpl _ _ _ _ hf ht) om (by have:=hrep.1; omega)];exact q2
theorem ajm {et sz:Nat}:∀(n b k:Nat) {off t:Nat},Xl (agB et sz n b) k=some (off,t)→off=(b+k)*sz∧t=et:=by
 intro n;induction n with
 | zero=>intro b k off t h; cases h
 | succ n ih=>
  intro b k off t h;cases k with
  | zero=>cases h; exact ⟨rfl,rfl⟩
  | succ k=>
   obtain ⟨h1,h2⟩:=ih (b+1) k h;exact ⟨by rw [h1]; congr 1; omega,h2⟩
theorem ajn (hc:iE P cfg) (hR:Rel cfg cx H D w I O) {t:TypeId} {parts:Array (Nat×Operand)} (ho:o.op=.build t parts) (hx:∀p∈parts.toList,fA w I O D (ρ p.2) (a.eval p.2))
  (h:fU Sp H (gY cfg eY (.build t parts) ρ) v ups r):fP P cfg cx H D w I O eY o a v ups:=by
 simp only [gY] at h;obtain ⟨ti,ht,h1⟩:=h.lK;obtain ⟨i,d,z,hi,hu,hz,hs,_,_,hzs,hzl,WA,hd⟩:=(hc.ty t ti ht).ex;split at h1
 ·rename_i fs e;rw [e] at hd;obtain ⟨fields,rfl,hfs⟩:=hd;have hth:=hc.fields t ti _ ht hu;obtain ⟨ps,p1,p2,p3⟩:=run_places (P:=P) (w:=w) fields.toList hth;have hpl:∀k off t ti,Xl fs k=some (off,t)→look cfg.ty t=some ti→(ps.toArray[·]?) k=some (off,ti.size):=by
   intro k off t' ti' hk ht';have hf:Pe ti k=some (off,t'):=by unfold Pe; rw [e]; exact hk
   obtain ⟨fields',fd,q1,q2,q3,q4⟩:=hc.field ht hf;rw [hu] at q1;cases q1;obtain ⟨i',_,_,q5,_,_,q6,_⟩:=(hc.ty t' ti' ht').ex;have:=p2 k fd i' (by simpa using q2) (by rw [q4]; exact q5);simpa [q3,q6] using this
  have hrep:ady w I O D (Au ti.zero) z.cells:=⟨by rw [jw]; omega,λ j hj=>.pure (DV _ _ ti.size hzl WA j (by rw [jw] at hj; omega))⟩;obtain ⟨cs',cells',r',q1,q2,q3⟩:=WB hpl parts.toList _ _ _ _ hx hrep h1;obtain ⟨rfl,rfl⟩:=q1.fK;refine fP.fD (x:=.agg cells') hR ?_ (.agg q3.1 q3.2);have hm:(fields.mapM (λ f:Field=>do pure (f.offset,← sizeOf f.type))).run P w=.ok ps.toArray w:=by
   have e0:fields=fields.toList.toArray:=by simp
   rw [e0,List.mapM_toArray,map_eq_pure_bind,Sem.run_bind,p3];rfl
  have e1:(parts.map λ (p:Nat×Operand)=>(p.1,a.eval p.2)).toList=parts.toList.map λ p=>(p.1,a.eval p.2):=by simp
  simp only [execOp,ho,Instr.build,Sem.run_bind,zeroValue,typeInfo,program,Sem.run,hi,hz,Sem.run_pure,Result.andThen_ok,dG hu,hm,e1,q2]
 ·rename_i n et e;rw [e] at hd;have hd:d=.array n et:=hd;subst hd;obtain ⟨ei,he,h2⟩:=h1.lK;obtain ⟨ie,de,hie,aqb,hde,al2⟩:=hc.agg he;have hpl:∀k off t ti,Xl (agB et ei.size n 0) k=some (off,t)→look cfg.ty t=some ti→(λ i=>some (i*ei.size,ei.size):Nat→Option (Nat×Nat)) k=some (off,ti.size):=by
   intro k off t' ti' hk ht';obtain ⟨rfl,rfl⟩:=ajm n 0 k hk;rw [he] at ht';cases ht';simp
  have hrep:ady w I O D (Au ti.zero) z.cells:=⟨by rw [jw]; omega,λ j hj=>.pure (DV _ _ ti.size hzl WA j (by rw [jw] at hj; omega))⟩;obtain ⟨cs',cells',r',q1,q2,q3⟩:=WB hpl parts.toList _ _ _ _ hx hrep h2;obtain ⟨rfl,rfl⟩:=q1.fK;refine fP.fD (x:=.agg cells') hR ?_ (.agg q3.1 q3.2);have e1:(parts.map λ (p:Nat×Operand)=>(p.1,a.eval p.2)).toList=parts.toList.map λ p=>(p.1,a.eval p.2):=by simp
  have e2:=gB (w:=w) hie;rw [al2] at e2;simp only [execOp,ho,Instr.build,Sem.run_bind,zeroValue,typeInfo,program,Sem.run,hi,hz,Sem.run_pure,Result.andThen_ok,dG hu,e2,e1,q2]
 ·exact (fU.bE h1).elim
end
end Go.Ab
namespace Go.Ab
section
variable {P:Program} {cfg:xE} {cx:Ctx} {H:Nat→Option eP} {D:Nat→Prop} {w:World} {I:Nat→Prop} {O:OM} {Sp:o9}
variable {eY:Nat} {o:Oper} {a:Act} {ρ:Operand→AV} {v:AV} {ups:kN} {r:List Nat}
theorem ML {ti:RG} (h:zok ti=true):0<ti.size∧(ti.agg=false→ti.size=1):=by
 unfold zok at h;cases h0:Nat.blt 0 ti.size with
 | false=>simp [h0] at h
 | true=>
  simp only [h0] at h;refine ⟨by simpa using h0,λ ha=>?_⟩;simp only [ha] at h;exact Nat.eq_of_beq_eq_true h
theorem ahG (z:ZK):(ofZ z).cells=[ofZ z]:=by cases z<;>rfl
theorem JL {ti:RG} (hz:zok ti=true) (hl:ti.zero.length=ti.size):(zeroOf ti).cells=Au ti.zero:=by
 obtain ⟨h0,h1⟩:=ML hz;unfold zeroOf;cases ha:ti.agg with
 | true=>rfl
 | false=>
  have:=h1 ha;match hzz:ti.zero,hl with
  | [z],_=>simp only [Au,nth]; exact ahG z
  | [],hl=>simp at hl; omega
  | _::_::_,hl=>simp at hl; omega
theorem zY (z:Array Value) (len i j size:Nat) (hs:z.size=size) (hi:i<len) (hj:j<size):((Array.range (len*size)).map (λ k=>z[k % z.size]!)).getD (i*size+j) Go.undef=z.getD j Go.undef:=by
 have hlt:i*size+j<len*size:=by
  have:(i+1)*size≤len*size:=Nat.mul_le_mul_right _ hi;rw [Nat.succ_mul] at this;omega
 have hm:(i*size+j) % size=j:=by
  rw [Nat.mul_comm,Nat.mul_add_mod];exact Nat.mod_eq_of_lt hj
 have hjz:j<z.size:=by omega
 simp [hlt,hs,hm,getElem!_pos z j hjz,Array.getElem?_eq_getElem hjz]
variable {size:Nat}
theorem zZ {z:Array Value} {n:Nat} (hs:z.size=size) (h1:∀j,j<size→(z.getD j Go.undef).oneCell'=true):∀j,j<(Builtin.zeroCells z n).size→((Builtin.zeroCells z n).getD j Go.undef).oneCell'=true:=λ j hj=>by
 have hlt:j<n*size:=by
  unfold Builtin.zeroCells at hj;simp at hj;rwa [hs] at hj
 rcases Nat.eq_zero_or_pos size with h0 | h0
 ·rw [h0,Nat.mul_zero] at hlt; exact absurd hlt (Nat.not_lt_zero _)
 ·have q1:j / size<n:=Nat.div_lt_of_lt_mul (by rw [Nat.mul_comm]; exact hlt);have q2:j % size<size:=Nat.mod_lt _ h0;have e:=zY z n (j / size) (j % size) size hs q1 q2;rw [Nat.div_add_mod'] at e;unfold Builtin.zeroCells;rw [hs];rw [hs] at e;rw [e];exact h1 _ q2
def Ma (w:World) (I:Nat→Prop) (size len:Nat) (g:Nat→AV) (cells:Array Value):Prop:=cells.size=len*size∧∀i,i<len→(g i).cells.length=size∧∀j,j<size→iF w I (nth (g i).cells j) (cells.getD (i*size+j) Go.undef)∧(cells.getD (i*size+j) Go.undef).oneCell'=true
theorem Ma.obj {len:Nat} {g:Nat→AV} {cells:Array Value} {e:TypeId} {O':OM} {D':Nat→Prop} {p:Own} (hI:∀b,I b→b<w.heap.size) (h:Ma w I size len g cells) (hp:p=⟨size,len,some (w.heap.size,0,cells.size)⟩):
  iQ (w.alloc (.cells cells e)) I O' D' p (.row size len g):=by
 subst hp;obtain ⟨h1,h2⟩:=h;have hone:∀j,j<cells.size→(cells.getD j Go.undef).oneCell'=true:=λ j hj=>by
  rcases Nat.eq_zero_or_pos size with h0 | h0
  ·rw [h1,h0,Nat.mul_zero] at hj; exact absurd hj (Nat.not_lt_zero _)
  ·have q1:j / size<len:=Nat.div_lt_of_lt_mul (by rw [Nat.mul_comm,← h1]; exact hj);have:=((h2 _ q1).2 (j % size) (Nat.mod_lt _ h0)).2;rwa [Nat.div_add_mod'] at this
 refine ⟨rfl,rfl,λ i hi=>(h2 i hi).1,.inr ⟨_,_,_,rfl,tT _ _ hone,by omega,λ i j hi hj=>?_⟩⟩;rw [Nat.zero_add,nY];exact ⟨((h2 i hi).2 j hj).1.mono (λ _ h=>h) (λ b hb=>jT _ (hI b hb)),((h2 i hi).2 j hj).2⟩
theorem ajo (n i:Nat) (z:AV) (h:i<n):nth (ahv n z) i=z:=by
 induction n generalizing i with
 | zero=>cases h
 | succ n ih=>cases i with
  | zero=>rfl
  | succ i=>exact ih i om
theorem adz (n:Nat) (z:AV):(ahv n z).length=n:=by
 induction n with
 | zero=>rfl
 | succ n ih=>simp [ahv,ih]
theorem aai (l:List AV) (i:Nat) (v:AV):(Gz i v l).length=l.length:=by
 induction l generalizing i with
 | nil=>simp [Gz]
 | cons x l ih=>cases i<;>simp [Gz,ih]
theorem afo (l:List AV) (i:Nat) (v:AV) (h:i<l.length) (k:Nat):nth (Gz i v l) k=if k=i then v else nth l k:=by
 induction l generalizing i k with
 | nil=>cases h
 | cons x l ih=>
  cases i with
  | zero=>cases k<;>simp [Gz,nth]
  | succ i=>cases k with
   | zero=>simp [Gz,nth]
   | succ k=>simp [Gz,nth,ih i (by simpa using h) k]
theorem Fq {u:AV} {x:Value} (h:fA w I (λ _=>none) (λ _=>False) u x):iF w I u x:=by
 induction h with
 | pure h=>exact h
 | ptr ho=>cases ho
 | dQ ho=>cases ho
 | mref ho=>cases ho
 | Aw _ hd=>exact hd.elim
 | Ay _ hd=>exact hd.elim
 | xH _ hd=>exact hd.elim
 | agg hl _ ih=>exact .agg hl ih
 | fn hl _ ih=>exact .fn hl ih
 | jQ hl _ ih=>exact .jQ hl ih
theorem adA {size len:Nat} {agg:Bool}:∀(ps:List (Nat×AV)) (vals:List (Nat×Value)) (es:List AV) (cells:Array Value) (k:List AV→Pg) (r:List Nat),vals.map (·.1)=ps.map (·.1)→
  (∀(j:Nat) (u:Nat×AV) (x:Nat×Value),ps[j]? = some u→vals[j]? = some x→iF w I u.2 x.2)→es.length=len→Ma w I size len (nth es) cells→fU Sp H (agu size agg ps es k) v ups r→
   ∃es' cells' r',fU Sp H (k es') v ups r'∧Instr.fill (λ i=>some (i*size,size)) cells vals=some cells'∧Ma w I size len (nth es') cells':=by
 intro ps;induction ps with
 | nil=>
  intro vals es cells k r hv _ _ hrep h;have:vals=[]:=by simpa using hv
  subst this;exact ⟨es,cells,r,h,rfl,hrep⟩
 | cons p ps ih=>
  intro vals es cells k r hv hx hl hrep h;cases vals with
  | nil=>simp at hv
  | cons x vals=>
   simp only [List.map_cons,List.cons.injEq] at hv;obtain ⟨i,u⟩:=p;obtain ⟨i',xv⟩:=x;simp only at hv;obtain ⟨rfl,hv⟩:=hv;simp only [agu] at h;obtain ⟨_,h1⟩:=h.cK;obtain ⟨hk,h2⟩:=h1.Dv;obtain ⟨hsz,h3⟩:=h2.cK;obtain ⟨hlt,h4⟩:=h3.cK;have hsz:u.cells.length=size:=Nat.eq_of_beq_eq_true hsz;have hlt:i'<es.length:=by simpa using hlt
   have hu:iF w I u xv:=hx 0 (i',u) (i',xv) rfl rfl;have hur:fA w I (λ _=>none) (λ _=>False) u xv:=.pure hu;obtain ⟨hcl,hcs⟩:=hur.cells hk;obtain ⟨r1,r2⟩:=hrep;have hmul:(i'+1)*size≤len*size:=Nat.mul_le_mul_right _ om;rw [Nat.succ_mul] at hmul;obtain ⟨s1,s2⟩:=YN cells (i'*size) xv.cells om;have ajl:Ma w I size len (nth (Gz i' u es)) (setAt cells (i'*size) xv.cells):=by
    refine ⟨by omega,λ j hj=>?_⟩;rw [afo es i' u hlt];by_cases hji:j=i'
    ·subst hji;rw [if_pos rfl];refine ⟨hsz,λ q hq=>?_⟩;rw [s2,if_pos om,Nat.add_sub_cancel_left];exact ⟨Fq (hcs q om).1,(hcs q om).2⟩
    ·rw [if_neg hji];refine ⟨(r2 j hj).1,λ q hq=>?_⟩;have hne:¬ (i'*size≤j*size+q∧j*size+q<i'*size+xv.cells.size):=by
      rcases Nat.lt_or_gt_of_ne hji with hlt' | hgt
      ·have:(j+1)*size≤i'*size:=Nat.mul_le_mul_right _ om;rw [Nat.succ_mul] at this;omega
      ·have:(i'+1)*size≤j*size:=Nat.mul_le_mul_right _ om;rw [Nat.succ_mul] at this;omega
     rw [s2,if_neg hne];exact (r2 j hj).2 q hq
   obtain ⟨es',cells',r',q1,q2,q3⟩:=ih vals _ _ k r hv (λ j u x hj hj'=>hx (j+1) u x (by simpa using hj) (by simpa using hj')) (by rw [aai]; exact hl) ajl h4;refine ⟨es',cells',r',q1,?_,q3⟩;rw [aa2 _ cells i' xv vals (i'*size) size rfl om om];exact q2
theorem YP (hR:Rel cfg cx H D w I O):∀(parts:List (Nat×Operand)) (k:List (Nat×AV)→List Nat→Pg) (r:List Nat),(∀p∈parts,fA w I O D (ρ p.2) (a.eval p.2))→fU Sp H (SL (parts.map λ p=>(p.1,ρ p.2)) k) v ups r→
  ∃ps ids r',fU Sp H (k ps ids) v ups r'∧(parts.map λ p=>(p.1,a.eval p.2)).map (·.1)=ps.map (·.1)∧
   ∀(j:Nat) (u:Nat×AV) (x:Nat×Value),ps[j]? = some u→(parts.map λ p=>(p.1,a.eval p.2))[j]? = some x→iF w (λ b=>I b∨EW O ids b) u.2 x.2:=by
 intro parts;induction parts with
 | nil=>intro k r _ h; exact ⟨[],[],r,h,rfl,λ j u x hu=>by simp at hu⟩
 | cons p parts ih=>
  intro k r hx h;simp only [List.map_cons,SL] at h;obtain ⟨u,i1,r1,h1,h2⟩:=(H9 hR fuel).1 _ _ _ _ _ h;obtain ⟨ps,i2,r2,h3,h4,h5⟩:=ih _ _ (λ p hp=>hx p (List.mem_cons_of_mem _ hp)) h1;refine ⟨(p.1,u)::ps,i1++i2,r2,h3,by simpa using h4,λ j u' x' hu' hx'=>?_⟩;cases j with
  | zero=>
   simp at hu' hx';subst hu'; subst hx';exact (h2 _ (hx p (by simp))).mono (λ b h=>h.elim .inl λ h=>.inr h.afl) (λ _ _=>rfl)
  | succ j=>
   exact (h5 j u' x' (by simpa using hu') (by simpa using hx')).mono (λ b h=>h.elim .inl λ h=>.inr h.afm) (λ _ _=>rfl)
theorem aaj (hc:iE P cfg) (hR:Rel cfg cx H D w I O) (hn:¬ D eY) {t:TypeId} {len:Nat} {parts:Array (Nat×Operand)} (ho:o.op=.buildSlice t len parts) (hx:∀p∈parts.toList,fA w I O D (ρ p.2) (a.eval p.2))
  (h:fU Sp H (gY cfg eY (.buildSlice t len parts) ρ) v ups r):fP P cfg cx H D w I O eY o a v ups:=by
 simp only [gY] at h;obtain ⟨tt,e,ti,h1,h2,h3,h4⟩:=h.xL;obtain ⟨hz,h5⟩:=h4.cK;obtain ⟨hle,h6⟩:=h5.cK;have hle:len*ti.size≤4096:=Nat.le_of_ble_eq_true hle;obtain ⟨z0,z1⟩:=ML hz;obtain ⟨hu,i,z,hi,hiz,hs,hby,hzs⟩:=hc.slice h1 h2 h3;obtain ⟨i',_,z',hi',_,S9,_,_,_,_,hzl,WA,_⟩:=(hc.ty e ti h3).ex;rw [hi] at hi'; cases hi';rw [hiz] at S9; cases S9;obtain ⟨ps,ids,r1,h7,h8,h9⟩:=YP hR parts.toList _ _ hx h6;have hzero:Ma w (λ b=>I b∨EW O ids b) ti.size len (nth (ahv len (zeroOf ti))) ((Array.range (len*ti.size)).map (λ k=>z.cells[k % z.cells.size]!)):=by
  refine ⟨by simp,λ j hj=>?_⟩;rw [ajo _ _ _ hj,JL hz hzl];refine ⟨by rw [jw]; exact hzl,λ q hq=>?_⟩;rw [zY z.cells len j q ti.size hzs hj hq];exact ⟨DV _ _ ti.size hzl WA q hq,xP _ _ ti.size WA q hq⟩
 obtain ⟨es',cells',r2,q1,q2,q3⟩:=adA ps _ _ _ _ _ h8 h9 (adz _ _) hzero h7;obtain ⟨rfl,rfl⟩:=q1.l7;refine fP.U9 (p:=⟨ti.size,len,some (w.heap.size,0,cells'.size)⟩) (c:=cells') (e:=e) (x:=.slice (some ⟨w.heap.size,0,none⟩) len len) hR hn ids ?_ rfl (Ma.obj (hR.freeze ids).Bz q3 rfl) ?_
 ·have e1:(parts.map λ (p:Nat×Operand)=>(p.1,a.eval p.2)).toList=parts.toList.map λ p=>(p.1,a.eval p.2):=by simp
  have hno:¬ len*ti.size > 2 ^ 24:=by omega
  by_cases h0:len*ti.size=0
  ·have hcell:cells'=#[]:=by
    have:=q3.1;rw [h0] at this;exact Array.eq_empty_of_size_eq_zero this
   have hf:Instr.fill (λ i=>some (i*ti.size,ti.size)) ((Array.range (len*ti.size)).map (λ k=>(#[]:Array Value)[k % (#[]:Array Value).size]!)) (parts.toList.map λ p=>(p.1,a.eval p.2))=some cells':=by
    have e0:∀f:Nat→Value,(Array.range (len*ti.size)).map f=#[]:=λ f=>Array.eq_empty_of_size_eq_zero (by simp [h0]);rw [e0] at q2 ⊢;exact q2
   simp only [execOp,ho,Instr.buildSlice,Sem.run_bind,dG hu,gB hi,hs,if_neg hno,if_pos h0,Sem.run_pure,e1,hf,newRow,newObj,Sem.run,Result.andThen];rfl
  ·simp only [execOp,ho,Instr.buildSlice,Sem.run_bind,dG hu,gB hi,hs,if_neg hno,if_neg h0,zeroValue,typeInfo,program,Sem.run,hi,hiz,Sem.run_pure,e1,q2,newRow,newObj,Result.andThen];rfl
 ·intro I' O' D' hO;refine .dQ hO (by simp) (Nat.le_refl _) (λ _=>rfl) (λ _=>⟨_,_,_,rfl,by simp,?_⟩) (by simp);have:=q3.1;simp [this]
theorem agJ {m b:Nat} (h:m*b≤140737488355328):¬ ((b:Int)*(m:Int) > 2 ^ 48):=by
 have e:(2:Int) ^ 48=((281474976710656:Nat):Int):=by decide
 rw [e,← Int.natCast_mul,Nat.mul_comm];omega
theorem abR (hc:iE P cfg) (hR:Rel cfg cx H D w I O) (hn:¬ D eY) {t:TypeId} {l c:Operand} (ho:o.op=.makeSlice t l c) (hx:fA w I O D (ρ l) (a.eval l)) (hxc:fA w I O D (ρ c) (a.eval c))
  (h:fU Sp H (gY cfg eY (.makeSlice t l c) ρ) v ups r):fP P cfg cx H D w I O eY o a v ups:=by
 simp only [gY] at h;obtain ⟨tt,e,ti,h1,h2,h3,h4⟩:=h.xL;split at h4
 ·rename_i k n en;rw [en] at hx;have hlv:=hx.iR;cases hsame:Fj (some l) (some c) with
  | false=>
   simp only [hsame] at h4;split at h4
   ·rename_i k2 nc enc;rw [enc] at hxc;have hcv:=hxc.iR;obtain ⟨hb0,h6⟩:=h4.cK;obtain ⟨hz,h7⟩:=h6.cK;obtain ⟨⟨arR,hn0,hbig⟩,h8⟩:=h7.xK;obtain ⟨rfl,rfl⟩:=h8.l7;subst arR;have hb0:0<ti.bytes:=by simpa using hb0
    obtain ⟨z0,z1⟩:=ML hz;obtain ⟨hu,i,z,hi,hiz,hs,hby,hzs⟩:=hc.slice h1 h2 h3;obtain ⟨i',_,z',hi',_,S9,_,_,_,_,hzl,WA,_⟩:=(hc.ty e ti h3).ex;rw [hi] at hi'; cases hi';rw [hiz] at S9; cases S9;obtain ⟨m,rfl⟩:=Int.eq_ofNat_of_zero_le hn0;have hbig':m*ti.bytes≤140737488355328:=by
     have:((m*ti.bytes:Nat):Int)≤((140737488355328:Nat):Int):=by simpa [big] using hbig
     exact_mod_cast this
    have arS:m≤140737488355328:=Nat.le_trans (Nat.le_mul_of_pos_right _ hb0) hbig';have hw:IntKind.i64.wrap (m:Int)=m:=wrap_i64 ⟨by omega,by omega⟩;have hw0:IntKind.i64.wrap (0:Int)=0:=wrap_i64 ⟨by omega,by omega⟩;refine fP.U9 (p:=⟨ti.size,0,some (w.heap.size,0,((Array.range (m*ti.size)).map (λ k=>z.cells[k % z.cells.size]!)).size)⟩) (c:=(Array.range (m*ti.size)).map (λ k=>z.cells[k % z.cells.size]!)) (e:=e) (x:=.slice (some ⟨w.heap.size,0,none⟩) 0 m) hR hn [] ?_ rfl ⟨rfl,rfl,λ _ h=>absurd h (Nat.not_lt_zero _),.inr ⟨_,_,_,rfl,tT _ _ (by have:=zZ (n:=m) hzs (xP _ _ ti.size WA); unfold Builtin.zeroCells at this; rw [hzs] at this ⊢; exact this),by omega,λ _ _ h=>absurd h (Nat.not_lt_zero _)⟩⟩ ?_
    ·have hge:¬ ((m:Int)<0):=by omega
     have hb2:¬ ((ti.bytes:Int)*(m:Int) > 2 ^ 48):=agJ hbig';have hroom:(askRoom (m*ti.bytes)).run P w=.ok () w:=by
      unfold askRoom;by_cases h:m*ti.bytes > roomBytes
      ·rw [if_pos h]; rfl
      ·rw [if_neg h]; rfl
     have hcond:(decide ((m:Int)<0)||decide ((ti.bytes:Int)*(m:Int) > 2 ^ 48)||decide ((0:Int)<0)||decide ((0:Int) > (m:Int)))=false:=by
      rw [decide_eq_false hge,decide_eq_false hb2]; first | rfl | simp
     clear h1 h2 h3 h4 h6 h7 h8 WA hR hc hbig;by_cases h0:m*ti.size=0
     ·have e0:∀f:Nat→Value,(Array.range (m*ti.size)).map f=#[]:=λ f=>Array.eq_empty_of_size_eq_zero (by simp [h0]);simp only [execOp,ho,hlv,hcv,Instr.makeSlice,Sem.run_bind,dG hu,Result.andThen,asInt,asIntOf,Sem.run_pure,typeInfo,program,Sem.run,hi,hw,hw0,hby,Int.toNat_natCast,hcond,Bool.false_eq_true,if_false,hroom,gB hi,hs,if_pos h0,e0,newRow,newObj];rfl
     ·simp only [execOp,ho,hlv,hcv,Instr.makeSlice,Sem.run_bind,dG hu,Result.andThen,asInt,asIntOf,Sem.run_pure,typeInfo,program,Sem.run,hi,hw,hw0,hby,Int.toNat_natCast,hcond,Bool.false_eq_true,if_false,hroom,gB hi,hs,if_neg h0,zeroValue,hiz,newRow,newObj];rfl
    ·intro I' O' D' hO;refine .dQ hO (by simp) (Nat.zero_le _) (λ h=>by cases h) (λ _=>⟨_,_,_,rfl,by simp,?_⟩) (by simp);simp
   ·exact (fU.bE h4).elim
  | true=>
  simp only [hsame] at h4;obtain ⟨hb0,h6⟩:=h4.cK;obtain ⟨hz,h7⟩:=h6.cK;obtain ⟨⟨hn0,hbig⟩,h8⟩:=h7.xK;obtain ⟨rfl,rfl⟩:=h8.l7;have hcl:c=l:=by have:=U7 hsame; simpa using this.symm
  subst hcl;have hb0:0<ti.bytes:=by simpa using hb0
  obtain ⟨z0,z1⟩:=ML hz;obtain ⟨hu,i,z,hi,hiz,hs,hby,hzs⟩:=hc.slice h1 h2 h3;obtain ⟨i',_,z',hi',_,S9,_,_,_,_,hzl,WA,_⟩:=(hc.ty e ti h3).ex;rw [hi] at hi'; cases hi';rw [hiz] at S9; cases S9;obtain ⟨m,rfl⟩:=Int.eq_ofNat_of_zero_le hn0;have hbig':m*ti.bytes≤140737488355328:=by
   have:((m*ti.bytes:Nat):Int)≤((140737488355328:Nat):Int):=by simpa [big] using hbig
   exact_mod_cast this
  have arS:m≤140737488355328:=Nat.le_trans (Nat.le_mul_of_pos_right _ hb0) hbig';have hw:IntKind.i64.wrap (m:Int)=m:=wrap_i64 ⟨by omega,by omega⟩;have hcells:Ma w (λ b=>I b∨EW O [] b) ti.size m (λ _=>zeroOf ti) ((Array.range (m*ti.size)).map (λ k=>z.cells[k % z.cells.size]!)):=by
   refine ⟨by simp,λ j hj=>?_⟩;rw [JL hz hzl];refine ⟨by rw [jw]; exact hzl,λ q hq=>?_⟩;rw [zY z.cells m j q ti.size hzs hj hq];exact ⟨DV _ _ ti.size hzl WA q hq,xP _ _ ti.size WA q hq⟩
  have e2:((m:Int)).toNat=m:=by simp
  rw [e2];have hlen:=hcells.1;refine fP.U9 (p:=⟨ti.size,m,some (w.heap.size,0,((Array.range (m*ti.size)).map (λ k=>z.cells[k % z.cells.size]!)).size)⟩) (c:=(Array.range (m*ti.size)).map (λ k=>z.cells[k % z.cells.size]!)) (e:=e) (x:=.slice (some ⟨w.heap.size,0,none⟩) m m) hR hn [] ?_ rfl (Ma.obj (hR.freeze []).Bz hcells rfl) ?_
  ·have hge:¬ ((m:Int)<0):=by omega
   have hb2:¬ ((ti.bytes:Int)*(m:Int) > 2 ^ 48):=agJ hbig';have hroom:(askRoom (m*ti.bytes)).run P w=.ok () w:=by
    unfold askRoom;by_cases h:m*ti.bytes > roomBytes
    ·rw [if_pos h]; rfl
    ·rw [if_neg h]; rfl
   have hcond:(decide ((m:Int)<0)||decide ((ti.bytes:Int)*(m:Int) > 2 ^ 48)||decide ((m:Int)<0)||decide ((m:Int) > (m:Int)))=false:=by
    rw [decide_eq_false hge,decide_eq_false hb2,decide_eq_false (Int.lt_irrefl _)]; rfl
   clear h1 h2 h3 h4 h6 h7 h8 WA hR hc hcells hlen hbig;by_cases h0:m*ti.size=0
   ·have e0:∀f:Nat→Value,(Array.range (m*ti.size)).map f=#[]:=λ f=>Array.eq_empty_of_size_eq_zero (by simp [h0]);simp only [execOp,ho,hlv,Instr.makeSlice,Sem.run_bind,dG hu,Result.andThen,asInt,asIntOf,Sem.run_pure,typeInfo,program,Sem.run,hi,hw,hby,Int.toNat_natCast,hcond,Bool.false_eq_true,if_false,hroom,gB hi,hs,if_pos h0,e0,newRow,newObj];rfl
   ·simp only [execOp,ho,hlv,Instr.makeSlice,Sem.run_bind,dG hu,Result.andThen,asInt,asIntOf,Sem.run_pure,typeInfo,program,Sem.run,hi,hw,hby,Int.toNat_natCast,hcond,Bool.false_eq_true,if_false,hroom,gB hi,hs,if_neg h0,zeroValue,hiz,newRow,newObj];rfl
  ·intro I' O' D' hO;refine .dQ hO (by simp) (Nat.le_refl _) (λ _=>rfl) (λ _=>⟨_,_,_,rfl,by simp,?_⟩) (by simp);simp
 ·exact (fU.bE h4).elim
end
end Go.Ab
namespace Go.Ab
section
variable {P:Program} {cfg:xE} {cx:Ctx} {H:Nat→Option eP} {D:Nat→Prop} {w:World} {I:Nat→Prop} {O:OM} {Sp:o9}
variable {eY:Nat} {o:Oper} {a:Act} {ρ:Operand→AV} {v:AV} {ups:kN} {r:List Nat}
variable {w':World}
theorem Rel.JM (h:w'.heap=w.heap) (he:iG w' w) (hR:Rel cfg cx H D w I O):Rel cfg cx H D w' I O:=
 { hR with
  objs:=λ o ob p h1 h2=>(hR.objs o ob p h1 h2).mono (λ _ h=>h) (λ _ _=>by rw [h]) (λ _ _=>.inl rfl) (λ _ h=>h) hR.used (λ _ _ _ _=>by rw [h])
  lt:=λ o p b bo sz h1 h2=>by rw [h]; exact hR.lt o p b bo sz h1 h2
  Bz:=λ b hb=>by rw [h]; exact hR.Bz b hb
  size:=by rw [h]; exact hR.size
  frame:=λ b h1 h2=>by rw [h]; exact hR.frame b h1 h2
  env:=hR.env.step he
  glob:=λ g cs hg=>(hR.glob g cs hg).mono (λ _ h=>h) (λ _ _=>by rw [h]) }
theorem fA.JM (h:w'.heap=w.heap) (hR:Rel cfg cx H D w I O) {v:AV} {x:Value} (hx:fA w I O D v x):fA w' I O D v x:=
 hx.mono (λ _ h=>h) (λ _ _=>by rw [h]) (λ _ _=>.inl rfl) (λ _ h=>h) hR.used
theorem Rel.drop (hR:Rel cfg cx H D w I O) (ids:List Nat):Rel cfg cx (mW H (dead ids)) D w I (kill O ids):=by
 have hF:=hR.freeze ids;exact { hF with
  objs:=λ o ob p h h'=>by
   rw [Pk] at h; unfold kill at h'
   by_cases h0:o∈ids<;>simp [h0] at h h'
   exact (hR.objs o ob p h h').mono (λ _ h=>h) (λ _ _=>rfl) (λ o _=>by unfold kill; by_cases h0:o∈ids<;>simp [h0]) (λ _ h=>h) hR.used (λ _ _ _ _=>rfl)
  qH:=λ o p b bo sz h1 h2 h3=>hF.qH o p b bo sz h1 h2 (.inl h3)
  Bz:=hR.Bz
  glob:=hR.glob
  SG:=hR.SG
  U4:=hR.U4 }
theorem fA.drop (hR:Rel cfg cx H D w I O) (ids:List Nat) {v:AV} {x:Value} (h:fA w I O D v x):fA w I (Ab.kill O ids) D v x:=
 h.mono (λ _ h=>h) (λ _ _=>rfl) (λ o _=>by unfold Ab.kill; by_cases h0:o∈ids<;>simp [h0]) (λ _ h=>h) hR.used
variable {b:Nat} {bo:Nat} {sz:Nat}
theorem Rel.place (hR:Rel cfg cx H D w I O) (hn:¬ D eY) (he:iG w' w) (ob:eP) (p:Own) (hp:p.pl=some (b,bo,sz)) (hb:∀b',b'≠b→w'.heap[b']? = w.heap[b']?) (hs:w'.heap.size=w.heap.size)
  (hlt:b<w.heap.size) (hnew:cx.w0.heap.size≤b∨cx.M b) (hnI:¬ I b) (hfree:∀o p b' o8 sz',O o=some p→p.pl=some (b',o8,sz')→b'≠b)
  (rQ:iQ w' I (l8 O eY p) (EY D eY) p ob) (hnm:∀kd z f,ob≠.map kd z f:=by intro _ _ _ h; cases h):Rel cfg cx (mW H [(eY,some ob)]) (EY D eY) w' I (l8 O eY p):=by
 have hH:∀o,mW H [(eY,some ob)] o=if o=eY then some ob else H o:=by
  intro o;simp only [mW,look];cases hb:Nat.beq eY o with
  | true=>have:=Nat.eq_of_beq_eq_true hb; subst this; simp
  | false=>
   have:o≠eY:=λ e=>by subst e; simp at hb
   simp [this]
 have old:∀ {o p'},o≠eY→l8 O eY p o=some p'→O o=some p':=λ hne h=>by unfold l8 at h; rwa [if_neg hne] at h
 have Yh:∀b',I b'→w'.heap[b']? = w.heap[b']? := λ b' h=>hb b' (λ e=>hnI (e ▸ h));exact {
  dom:=λ o=>by
   rw [hH]; unfold l8
   by_cases h:o=eY
   ·simp [h]
   ·simp [h,hR.dom o]
  used:=λ o p' h=>by
   by_cases hne:o=eY
   ·exact U5 hne
   ·exact .inl (hR.used o p' (old hne h))
  objs:=λ o ob' p' h h'=>by
   by_cases hne:o=eY
   ·subst hne
    rw [hH,if_pos rfl] at h
    unfold l8 at h'
    rw [if_pos rfl] at h'
    cases h; cases h'
    exact rQ
   ·rw [hH,if_neg hne] at h
    have h'':=old hne h'
    exact (hR.objs o ob' p' h h'').mono (λ _ h=>h) Yh (λ _ ho=>.inl (MK hn ho)) (λ _ h=>.inl h) hR.used (λ b' o8 sz' hpl=>hb b' (hfree o p' b' o8 sz' h'' hpl))
  inj:=λ o o' p1 p2 b1 SH SI b2 bo2 sz2 h1 h2 h3 h4 h5=>by
   by_cases e1:o=eY
   ·by_cases e2:o'=eY
    ·exact absurd (e1.trans e2.symm) h5
    ·unfold l8 at h1
     rw [if_pos e1] at h1
     cases h1
     rw [hp] at h3
     cases h3
     exact λ e=>hfree o' p2 b2 bo2 sz2 (old e2 h2) h4 e.symm
   ·by_cases e2:o'=eY
    ·unfold l8 at h2
     rw [if_pos e2] at h2
     cases h2
     rw [hp] at h4
     cases h4
     exact hfree o p1 b1 SH SI (old e1 h1) h3
    ·exact hR.inj o o' p1 p2 b1 SH SI b2 bo2 sz2 (old e1 h1) (old e2 h2) h3 h4 h5
  qH:=λ o p1 b1 SH SI h1 h2 h3=>by
   by_cases e1:o=eY
   ·unfold l8 at h1
    rw [if_pos e1] at h1
    cases h1
    rw [hp] at h2
    cases h2
    exact hnI h3
   ·exact hR.qH o p1 b1 SH SI (old e1 h1) h2 h3
  lt:=λ o p1 b1 SH SI h1 h2=>by
   by_cases e1:o=eY
   ·unfold l8 at h1
    rw [if_pos e1] at h1
    cases h1
    rw [hp] at h2
    cases h2
    omega
   ·have:=hR.lt o p1 b1 SH SI (old e1 h1) h2
    omega
  Bz:=λ b' h=>by rw [hs]; exact hR.Bz b' h
  size:=by rw [hs]; exact hR.size
  env:=hR.env.step he
  frame:=λ b' h1 h2=>by
   rw [hb b' (λ e=>by subst e; rcases hnew with h | h; omega; exact h2 h)]
   exact hR.frame b' h1 h2
  new:=λ o p1 b1 SH SI h1 h2=>by
   by_cases e1:o=eY
   ·unfold l8 at h1
    rw [if_pos e1] at h1
    cases h1
    rw [hp] at h2
    cases h2
    exact hnew
   ·exact hR.new o p1 b1 SH SI (old e1 h1) h2
  glob:=λ g cs h=>(hR.glob g cs h).mono (λ _ h=>h) Yh
  SG:=hR.SG
  U4:=hR.U4
  Yf:=λ o h=>by
   have hne:o≠eY:=λ e=>hn (e ▸ hR.Dm o h)
   unfold l8
   rw [if_neg hne]
   exact hR.Yf o h
  Dm:=λ o h=>.inl (hR.Dm o h) }
theorem fA.place (hR:Rel cfg cx H D w I O) (hn:¬ D eY) {p:Own} (hb:∀b',I b'→w'.heap[b']? = w.heap[b']?) {v:AV} {x:Value} (h:fA w I O D v x):fA w' I (l8 O eY p) (EY D eY) v x:=
 h.mono (λ _ h=>h) hb (λ _ ho=>.inl (MK hn ho)) (λ _ h=>.inl h) hR.used
theorem Rel.empty (hR:Rel cfg cx H D w I O) (hn:¬ D eY) (es:Nat) (g:Nat→AV):Rel cfg cx (mW H [(eY,some (.row es 0 g))]) (EY D eY) w I (l8 O eY ⟨es,0,none⟩):=by
 have hH:∀o,mW H [(eY,some (.row es 0 g))] o=if o=eY then some (.row es 0 g) else H o:=by
  intro o;simp only [mW,look];cases hb:Nat.beq eY o with
  | true=>have:=Nat.eq_of_beq_eq_true hb; subst this; simp
  | false=>
   have:o≠eY:=λ e=>by subst e; simp at hb
   simp [this]
 have old:∀ {o p' b bo sz},l8 O eY ⟨es,0,none⟩ o=some p'→p'.pl=some (b,bo,sz)→O o=some p':=λ h h'=>by
  unfold l8 at h;split at h
  ·cases h; cases h'
  ·exact h
 exact {
  dom:=λ o=>by
   rw [hH]; unfold l8
   by_cases h:o=eY
   ·simp [h]
   ·simp [h,hR.dom o]
  used:=λ o p' h=>by
   by_cases hne:o=eY
   ·exact U5 hne
   ·unfold l8 at h
    rw [if_neg hne] at h
    exact .inl (hR.used o p' h)
  objs:=λ o ob' p' h h'=>by
   by_cases hne:o=eY
   ·subst hne
    rw [hH,if_pos rfl] at h
    unfold l8 at h'
    rw [if_pos rfl] at h'
    cases h; cases h'
    exact ⟨rfl,rfl,λ i hi=>absurd hi om,.inl ⟨rfl,rfl⟩⟩
   ·rw [hH,if_neg hne] at h
    unfold l8 at h'
    rw [if_neg hne] at h'
    exact (hR.objs o ob' p' h h').mono (λ _ h=>h) (λ _ _=>rfl) (λ _ ho=>.inl (MK hn ho)) (λ _ h=>.inl h) hR.used (λ _ _ _ _=>rfl)
  inj:=λ o o' p1 p2 b1 SH SI b2 bo2 sz2 h1 h2 h3 h4 h5=>hR.inj o o' p1 p2 b1 SH SI b2 bo2 sz2 (old h1 h3) (old h2 h4) h3 h4 h5
  qH:=λ o p1 b1 SH SI h1 h2 h3=>hR.qH o p1 b1 SH SI (old h1 h2) h2 h3
  lt:=λ o p1 b1 SH SI h1 h2=>hR.lt o p1 b1 SH SI (old h1 h2) h2
  Bz:=hR.Bz
  size:=hR.size
  frame:=hR.frame
  env:=hR.env
  new:=λ o p1 b1 SH SI h1 h2=>hR.new o p1 b1 SH SI (old h1 h2) h2
  glob:=hR.glob
  SG:=hR.SG
  U4:=hR.U4
  Yf:=λ o h=>by
   have hne:o≠eY:=λ e=>hn (e ▸ hR.Dm o h)
   unfold l8
   rw [if_neg hne]
   exact hR.Yf o h
  Dm:=λ o h=>.inl (hR.Dm o h) }
theorem Rel.ajp (hR:Rel cfg cx H D w I O) (he:H6 cx w') {ob:Nat} {p:Own} (x:eP) (ho:O ob=some p) (hp:p.pl=some (b,bo,sz)) (hb:∀b',b'≠b→w'.heap[b']? = w.heap[b']?) (hs:w'.heap.size=w.heap.size)
  (rQ:iQ w' I O D p x):Rel cfg cx (mW H [(ob,some x)]) D w' I O:=by
 have hnI:=hR.qH ob p b bo sz ho hp;have Yh:∀b',I b'→w'.heap[b']? = w.heap[b']? := λ b' h=>hb b' (λ e=>hnI (e ▸ h));have hH:∀o,mW H [(ob,some x)] o=if o=ob then some x else H o:=by
  intro o;simp only [mW,look];cases hb:Nat.beq ob o with
  | true=>have:=Nat.eq_of_beq_eq_true hb; subst this; simp
  | false=>
   have:o≠ob:=λ e=>by subst e; simp at hb
   simp [this]
 exact { hR with
  dom:=λ o=>by
   rw [hH]
   by_cases h:o=ob
   ·subst h; simp [ho]
   ·simp [h,hR.dom o]
  objs:=λ o ob' p' h h'=>by
   by_cases hne:o=ob
   ·subst hne
    rw [hH,if_pos rfl] at h
    rw [ho] at h'
    cases h; cases h'
    exact rQ
   ·rw [hH,if_neg hne] at h
    exact (hR.objs o ob' p' h h').mono (λ _ h=>h) Yh (λ _ _=>.inl rfl) (λ _ h=>h) hR.used (λ b' o8 sz' hpl=>hb b' (hR.inj o ob p' p b' o8 sz' b bo sz h' ho hpl hp hne))
  lt:=λ o p1 b1 SH SI h1 h2=>by rw [hs]; exact hR.lt o p1 b1 SH SI h1 h2
  Bz:=λ b' h=>by rw [hs]; exact hR.Bz b' h
  size:=by rw [hs]; exact hR.size
  env:=he
  frame:=λ b' h1 h2=>by
   rw [hb b' (λ e=>by subst e; rcases hR.new ob p b' bo sz ho hp with h | h; omega; exact h2 h)]
   exact hR.frame b' h1 h2
  glob:=λ g cs h=>(hR.glob g cs h).mono (λ _ h=>h) Yh }
theorem Rel.write (hR:Rel cfg cx H D w I O) (he:iG w' w) {ob:Nat} {p:Own} (x:eP) (ho:O ob=some p) (hp:p.pl=some (b,bo,sz)) (hb:∀b',b'≠b→w'.heap[b']? = w.heap[b']?) (hs:w'.heap.size=w.heap.size)
  (rQ:iQ w' I O D p x) (hnm:∀kd z f,x≠.map kd z f:=by intro _ _ _ h; cases h):Rel cfg cx (mW H [(ob,some x)]) D w' I O:=
 hR.ajp (hR.env.step he) x ho hp hb hs rQ
theorem iG.setCell (w:World) (a:Addr) (v:Value):iG (w.setCell a v) w:=⟨rfl,rfl,rfl,λ i o hi ho=>by
 unfold World.setCell;simp only [Array.getElem?_modify];split
 ·rw [hi];cases o with
  | cells c t f=>cases ho
  | _=>rfl
 ·exact hi⟩
theorem tV (b:Nat):∀(vs:List Value) (off:Nat) (w:World),iG (w.setCells b off vs) w
 | [],_,w=>iG.refl w
 | v::r,off,w=>(tV b r (off+1) (w.setCell ⟨b,off,none⟩ v)).trans (iG.setCell w _ v)
theorem rz (b:Nat):∀(vs:List Value) (off:Nat) (w:World),(w.setCells b off vs).heap.size=w.heap.size∧∀b',b'≠b→(w.setCells b off vs).heap[b']? = w.heap[b']?
 | [],_,_=>⟨rfl,λ _ _=>rfl⟩
 | v::r,off,w=>by
  obtain ⟨h1,h2⟩:=rz b r (off+1) (w.setCell ⟨b,off,none⟩ v);have e1:(w.setCell ⟨b,off,none⟩ v).heap.size=w.heap.size:=by simp [World.setCell]
  refine ⟨by rw [World.setCells,h1,e1],λ b' hb=>?_⟩;rw [World.setCells,h2 b' hb];simp [World.setCell,Array.getElem?_modify,Ne.symm hb]
theorem KF (b:Nat):∀(vs:List Value) (off:Nat) (w:World) (j:Nat),(w.setCells b off vs).frozen? ⟨b,j,none⟩=w.frozen? ⟨b,j,none⟩
 | [],_,_,_=>rfl
 | v::r,off,w,j=>by
  rw [World.setCells,KF b r (off+1) _ j];unfold World.frozen? World.setCell;simp only [Array.getElem?_modify];cases hb:w.heap[b]? with
  | none=>simp
  | some ob=>cases ob<;>simp
theorem mF (h:KD w b sz) (off:Nat) (vs:List Value) (hle:off+vs.length≤sz):KD (w.setCells b off vs) b sz∧
  ∀j,j<sz→cellAt (w.setCells b off vs) b j=if off≤j∧j<off+vs.length then vs.getD (j - off) Go.undef else cellAt w b j:=by
 have hin:=World.cell?_setCells_in b vs off w (λ j hj=>(h (off+j) om).1);have key:∀j,j<sz→(w.setCells b off vs).cell? ⟨b,j,none⟩=some (if off≤j∧j<off+vs.length then vs.getD (j - off) Go.undef else cellAt w b j):=by
  intro j hj;by_cases hc:off≤j∧j<off+vs.length
  ·rw [if_pos hc];have:=hin (j - off) om;rw [show off+(j - off)=j by omega] at this;rw [this];simp [show j - off<vs.length by omega]
  ·rw [if_neg hc,World.cell?_setCells_out b vs off w ⟨b,j,none⟩ (λ _ _=>by simp; omega)];exact wG h hj
 refine ⟨λ j hj=>⟨by rw [key j hj]; rfl,by rw [KF]; exact (h j hj).2⟩,λ j hj=>by rw [cellAt,key j hj]; rfl⟩
theorem vE (h:xI w b bo sz) (off:Nat) (vs:List Value) (hle:off+vs.length≤sz) (h1:∀q,q<vs.length→(vs.getD q Go.undef).oneCell'=true):xI (w.setCells b off vs) b bo sz:=
 ⟨(mF h.al off vs hle).1,λ j hb hj=>by
  rw [(mF h.al off vs hle).2 j hj];split
  ·exact h1 _ om
  ·exact h.one j hb hj⟩
end
end Go.Ab
namespace Go.Ab
section
variable {P:Program} {cfg:xE} {cx:Ctx} {H:Nat→Option eP} {D:Nat→Prop} {w:World} {I:Nat→Prop} {O:OM} {Sp:o9}
variable {eY:Nat} {o:Oper} {a:Act} {ρ:Operand→AV} {v:AV} {ups:kN} {r:List Nat}
theorem run_store {t:TypeId} {i:TypeInfo} (hi:P.info? t=some i) {b off sz:Nat} (hal:KD w b sz) (x:Value) (hs:x.cells.size=i.size) (hle:off+x.cells.size≤sz) (h1:∀j,j<x.cells.size→(x.cells.getD j Go.undef).oneCell'=true):
  (Instr.storeAt t (.pointer (some ⟨b,off,none⟩)) x).run P w=.ok () (w.setCells b off x.cells.toList):=by
 have:=run_storeCells_cells (P:=P) b off x.cells.toList 0 w (λ j hj=>(hal (off+0+j) (by simp at hj; omega)).1) (λ j hj=>(hal (off+0+j) (by simp at hj; omega)).2)
  (λ u hu=>by
    obtain ⟨j,hj,rfl⟩:=List.mem_iff_getElem.1 hu
    have hj':j<x.cells.size:=by simpa using hj
    simpa [hj'] using h1 j hj')
 rw [Nat.add_zero] at this;have hne:¬ x.cells.size≠i.size:=by omega
 simp only [Instr.storeAt,Instr.sureAddr,Sem.run_bind,Sem.run_pure,Result.andThen,storeVar,gB hi,if_neg hne,this]
theorem Ta {w':World} {next:Act→World→Prop} {Q:Exit→Act→World→Prop} (h:(execOp a.eval o).run P w=.ok .skip w') (hn:next (a.put o.dst Go.undef) w'):o.wp P a w next Q:=by
 unfold Oper.wp; rw [h]; exact hn
theorem zG {x:Nat} {l:List Nat} (h:CK x l=false):x ∉ l:=by
 induction l with
 | nil=>simp
 | cons b l ih=>
  unfold CK at h;cases hb:Nat.beq x b with
  | true=>simp [hb] at h
  | false=>
   simp only [hb] at h;have hne:x≠b:=λ e=>by subst e; simp at hb
   simp [hne,ih h]
theorem ajq (hc:iE P cfg) (hR:Rel cfg cx H D w I O) {t:TypeId} {x y:Operand} (ho:o.op=.store t x y) (hx:fA w I O D (ρ x) (a.eval x)) (hy:fA w I O D (ρ y) (a.eval y))
  (h:fU Sp H (gY cfg eY (.store t x y) ρ) v ups r):fP P cfg cx H D w I O eY o a v ups:=by
 simp only [gY] at h;obtain ⟨ti,ht,h1⟩:=h.lK;obtain ⟨i,d,hi,hu,hd,hs⟩:=hc.agg ht;split at h1
 ·rename_i ob k off e;rw [e] at hx;obtain ⟨obj,_,rQ,h2⟩:=h1.rF;obtain ⟨p,hp,hO⟩:=hR.live rQ;obtain ⟨b,bo,sz,hpl,hk,hxv⟩:=hx.pU hp;cases obj with
  | map=>exact (fU.bE h2).elim
  | box cs=>
   obtain ⟨hn,b',o8,sz',hpl',hal,hle,hcs⟩:=hO;rw [hpl] at hpl';cases hpl';have hk0:k=0:=by omega
   subst hk0;obtain ⟨hok,h3⟩:=h2.Dv;obtain ⟨hsz,h4⟩:=h3.cK;obtain ⟨hin,h5⟩:=h4.cK;obtain ⟨rfl,rfl⟩:=h5.l7;have hsz:(ρ y).cells.length=ti.size:=Nat.eq_of_beq_eq_true hsz;have hin:off+(ρ y).cells.length≤cs.length:=Nat.le_of_ble_eq_true hin;obtain ⟨hcl,hcc⟩:=hy.cells hok;have hrun:=run_store (P:=P) hi hal (a.eval y) (off:=bo+off) om om (λ j hj=>(hcc j om).2);obtain ⟨abS,hcell⟩:=mF hal (bo+off) (a.eval y).cells.toList (by simp; omega);obtain ⟨hh1,hh2⟩:=rz b (a.eval y).cells.toList (bo+off) w;have Yh:∀b',I b'→(w.setCells b (bo+off) (a.eval y).cells.toList).heap[b']? = w.heap[b']? := λ b' hb=>hh2 b' (λ e=>hR.qH ob p b bo sz hp hpl (e ▸ hb));have keep:∀u z,fA w I O D u z→fA (w.setCells b (bo+off) (a.eval y).cells.toList) I O D u z:=λ u z hu=>hu.mono (λ _ h=>h) Yh (λ _ _=>.inl rfl) (λ _ h=>h) hR.used;have YQ:=hR.write (tV _ _ _ _) (.box (HY off (ρ y).cells cs)) hp hpl hh2 hh1 (by
    refine ⟨hn,b,bo,sz,hpl,abS,by rw [Az]; exact hle,λ j hj=>?_⟩
    rw [Az] at hj
    rw [YO _ _ _ hin,hcell (bo+j) om]
    by_cases hc1:off≤j∧j<off+(ρ y).cells.length
    ·rw [if_pos hc1,if_pos (by simp; omega)]
     have:=keep _ _ (hcc (j - off) om).1
     have e2:bo+j - (bo+off)=j - off:=by omega
     rw [e2]
     have hlt:j - off<(a.eval y).cells.size:=by omega
     simpa [hlt] using this
    ·rw [if_neg hc1,if_neg (by simp; omega)]
     exact keep _ _ (hcs j hj))
   intro next Q hnx
   refine Ta (w':=w.setCells b (bo+off) (a.eval y).cells.toList) ?_ (hnx Go.undef _ I O (YQ.H7 eY) (λ u z hu=>(keep u z hu).H7 YQ eY) (.pure (.undef _)));simp only [Nat.zero_mul,Nat.zero_add] at hxv;simp only [execOp,ho,hxv,Sem.run_bind,hrun,Result.andThen,Sem.run_pure]
  | row es n g=>
   simp only at h2;split at h2
   ·obtain ⟨x',ids,_,h3,aoi⟩:=(H9 hR fuel).1 _ _ _ _ _ h2;obtain ⟨hmem,h4⟩:=h3.cK;have hmem:ob ∉ ids:=zG (by simpa using hmem);obtain ⟨hok,h5⟩:=h4.Dv;obtain ⟨hsz,h6⟩:=h5.cK;obtain ⟨c1,h7⟩:=h6.cK;obtain ⟨c2,h8⟩:=h7.cK;obtain ⟨c3,h9⟩:=h8.cK;obtain ⟨rfl,rfl⟩:=h9.l7;obtain ⟨rfl,rfl⟩:=Yg c3;have hsz:x'.cells.length=ti.size:=Nat.eq_of_beq_eq_true hsz;have c1:es=1:=Nat.eq_of_beq_eq_true c1;have c2:n=ti.size:=Nat.eq_of_beq_eq_true c2;subst c1;have hyp:=aoi _ hy;have SY:=hR.freeze ids;have hp1:kill O ids ob=some p:=by unfold kill; rw [if_neg hmem]; exact hp
    have hyr:fA w (λ b=>I b∨EW O ids b) (kill O ids) D x' (a.eval y):=.pure hyp;obtain ⟨hcl,hcc⟩:=hyr.cells hok;have hcp:∀j,j<x'.cells.length→iF w (λ b=>I b∨EW O ids b) (nth x'.cells j) ((a.eval y).cells.getD j Go.undef):=by
     have aoj:fA w (λ b=>I b∨EW O ids b) (λ _=>none) (λ _=>False) x' (a.eval y):=.pure hyp;exact λ j hj=>Fq ((aoj.cells hok).2 j hj).1
    obtain ⟨hn,hes,hlen,hpl' | ⟨b',o8,sz',hpl',hal,hle,hcs⟩⟩:=hO
    ·rw [hpl] at hpl'; cases hpl'.2
    rw [hpl] at hpl';cases hpl';simp only [Nat.zero_mul,Nat.add_zero] at hxv;have hrun:=run_store (P:=P) hi hal.al (a.eval y) (off:=bo) om om (λ j hj=>(hcc j om).2);have abS:=vE hal bo (a.eval y).cells.toList (by simp; omega) (λ q hq=>by have hlt:q<(a.eval y).cells.size:=(by simpa using hq); simpa [hlt] using (hcc q om).2);obtain ⟨_,hcell⟩:=mF hal.al bo (a.eval y).cells.toList (by simp; omega);obtain ⟨hh1,hh2⟩:=rz b (a.eval y).cells.toList bo w;have Yh:∀b',(λ b=>I b∨EW O ids b) b'→(w.setCells b bo (a.eval y).cells.toList).heap[b']? = w.heap[b']? := λ b' hb=>hh2 b' (λ e=>SY.qH ob p b bo sz hp1 hpl (e ▸ hb));have keep:∀u z,fA w (λ b=>I b∨EW O ids b) (kill O ids) D u z→fA (w.setCells b bo (a.eval y).cells.toList) (λ b=>I b∨EW O ids b) (kill O ids) D u z:=λ u z hu=>hu.mono (λ _ h=>h) Yh (λ _ _=>.inl rfl) (λ _ h=>h) SY.used;have WC:∀u z,iF w (λ b=>I b∨EW O ids b) u z→iF (w.setCells b bo (a.eval y).cells.toList) (λ b=>I b∨EW O ids b) u z:=λ u z hu=>hu.mono (λ _ h=>h) Yh;have hone:∀q,q<n→(nth x'.cells q).cells=[nth x'.cells q]:=λ q hq=>by
     have:=Wz hok q om;cases hv:nth x'.cells q with
     | agg cs=>rw [hv] at this; cases this
     | _=>rfl
    have YQ:=SY.write (tV _ _ _ _) (.row 1 n (Wv x'.cells)) hp1 hpl hh2 hh1 (by
     refine ⟨hn,hes,λ q hq=>by show (nth x'.cells q).cells.length=1; rw [hone q hq]; rfl,.inr ⟨b,bo,sz,hpl,abS,hle,λ q j hq hj=>?_⟩⟩
     have hj0:j=0:=by omega
     subst hj0
     simp only [Nat.mul_one,Nat.add_zero]
     rw [hcell (bo+q) om,if_pos (by simp; omega)]
     have e2:bo+q - bo=q:=by omega
     rw [e2]
     have hlt:q<(a.eval y).cells.size:=by omega
     show iF _ _ (nth (nth x'.cells q).cells 0) _∧_
     rw [hone q hq]
     have:=WC _ _ (hcp q om)
     exact ⟨by simpa [hlt,nth] using this,by simpa [hlt] using (hcc q om).2⟩)
    intro next Q hnx
    refine Ta (w':=w.setCells b bo (a.eval y).cells.toList) ?_ (hnx Go.undef _ _ _ (by rw [Dx]; exact YQ.H7 eY) (λ u z hu=>(keep u z (hu.kill hR ids)).H7 YQ eY) (.pure (.undef _)));simp only [execOp,ho,hxv,Sem.run_bind,hrun,Result.andThen,Sem.run_pure]
   obtain ⟨x',ids,_,h3,aoi⟩:=(H9 hR fuel).1 _ _ _ _ _ h2;obtain ⟨hmem,h4⟩:=h3.cK;have hmem:ob ∉ ids:=zG (by simpa using hmem);obtain ⟨hok,h5⟩:=h4.Dv;obtain ⟨hsz,h6⟩:=h5.cK;obtain ⟨hpos,h7⟩:=h6.cK;obtain ⟨hin,h8⟩:=h7.cK;obtain ⟨rfl,rfl⟩:=h8.l7;have hsz:x'.cells.length=ti.size:=Nat.eq_of_beq_eq_true hsz;have hpos:0<ti.size:=by simpa using hpos
   have hin:off+x'.cells.length≤es:=Nat.le_of_ble_eq_true hin;have hyp:=aoi _ hy;have SY:=hR.freeze ids;have hp1:kill O ids ob=some p:=by unfold kill; rw [if_neg hmem]; exact hp
   have hyr:fA w (λ b=>I b∨EW O ids b) (kill O ids) D x' (a.eval y):=.pure hyp;obtain ⟨hcl,hcc⟩:=hyr.cells hok;have hcp:∀j,j<x'.cells.length→iF w (λ b=>I b∨EW O ids b) (nth x'.cells j) ((a.eval y).cells.getD j Go.undef):=by
    have aoj:fA w (λ b=>I b∨EW O ids b) (λ _=>none) (λ _=>False) x' (a.eval y):=.pure hyp;exact λ j hj=>Fq ((aoj.cells hok).2 j hj).1
   obtain ⟨hn,hes,hlen,hpl' | ⟨b',o8,sz',hpl',hal,hle,hcs⟩⟩:=hO
   ·rw [hpl] at hpl'; cases hpl'.2
   rw [hpl] at hpl';cases hpl';rw [hes] at hxv;have hkn:k<n:=by omega
   have hmul:(k+1)*es≤n*es:=Nat.mul_le_mul_right _ hkn;rw [Nat.succ_mul] at hmul;have hrun:=run_store (P:=P) hi hal.al (a.eval y) (off:=bo+(k*es+off)) om om (λ j hj=>(hcc j om).2);have abS:=vE hal (bo+(k*es+off)) (a.eval y).cells.toList (by simp; omega) (λ q hq=>by have hlt:q<(a.eval y).cells.size:=(by simpa using hq); simpa [hlt] using (hcc q om).2);obtain ⟨_,hcell⟩:=mF hal.al (bo+(k*es+off)) (a.eval y).cells.toList (by simp; omega);obtain ⟨hh1,hh2⟩:=rz b (a.eval y).cells.toList (bo+(k*es+off)) w;have Yh:∀b',(λ b=>I b∨EW O ids b) b'→(w.setCells b (bo+(k*es+off)) (a.eval y).cells.toList).heap[b']? = w.heap[b']? := λ b' hb=>hh2 b' (λ e=>SY.qH ob p b bo sz hp1 hpl (e ▸ hb));have keep:∀u z,fA w (λ b=>I b∨EW O ids b) (kill O ids) D u z→fA (w.setCells b (bo+(k*es+off)) (a.eval y).cells.toList) (λ b=>I b∨EW O ids b) (kill O ids) D u z:=λ u z hu=>hu.mono (λ _ h=>h) Yh (λ _ _=>.inl rfl) (λ _ h=>h) SY.used;have WC:∀u z,iF w (λ b=>I b∨EW O ids b) u z→iF (w.setCells b (bo+(k*es+off)) (a.eval y).cells.toList) (λ b=>I b∨EW O ids b) u z:=λ u z hu=>hu.mono (λ _ h=>h) Yh;have hel:∀gk,gk=g k→(match gk with | .agg cs=>AV.agg (HY off x'.cells cs) | _=>x').cells.length=es∧
     ∀j,j<es→nth (match gk with | .agg cs=>AV.agg (HY off x'.cells cs) | _=>x').cells j=if off≤j∧j<off+x'.cells.length then nth x'.cells (j - off) else nth gk.cells j:=by
    intro gk hgk
    have hl:=hlen k hkn
    rw [← hgk] at hl
    have one:gk.cells=[gk]→x'.cells.length=es∧∀j,j<es→nth x'.cells j=if off≤j∧j<off+x'.cells.length then nth x'.cells (j - off) else nth gk.cells j:=by
     intro hc1
     rw [hc1] at hl
     simp at hl
     have:off=0:=by omega
     subst this
     exact ⟨by omega,λ j hj=>by rw [if_pos om]; rfl⟩
    cases gk with
    | agg cs=>
     simp only [AV.cells] at hl ⊢
     exact ⟨by rw [Az]; exact hl,λ j hj=>YO cs x'.cells off om j⟩
    | _=>exact one rfl
   have arU:∀q:Bool,q=(isZ off&&Nat.beq x'.cells.length es)→(match q with | true=>x' | false=>match g k with | .agg cs=>AV.agg (HY off x'.cells cs) | _=>x').cells.length=es∧
     ∀j,j<es→nth (match q with | true=>x' | false=>match g k with | .agg cs=>AV.agg (HY off x'.cells cs) | _=>x').cells j=if off≤j∧j<off+x'.cells.length then nth x'.cells (j - off) else nth (g k).cells j:=by
    intro q hq
    cases q with
    | false=>exact hel (g k) rfl
    | true=>
     simp only [eq_comm (a:=true),Bool.and_eq_true] at hq
     have h0:off=0:=by cases off with | zero=>rfl | succ n=>cases hq.1
     have hq1:=Nat.eq_of_beq_eq_true hq.2
     subst h0
     exact ⟨hq1,λ j hj=>by rw [if_pos om]; rfl⟩
   obtain ⟨arV,arW⟩:=arU _ rfl;have YQ:=SY.write (tV _ _ _ _) (.row es n (adh g k (match isZ off&&Nat.beq x'.cells.length es with | true=>x' | false=>match g k with | .agg cs=>.agg (HY off x'.cells cs) | _=>x'))) hp1 hpl hh2 hh1 (by
    refine ⟨hn,hes,λ j hj=>?_,.inr ⟨b,bo,sz,hpl,abS,hle,λ j q hj hq=>?_⟩⟩
    ·simp only [adh]
     cases hb:Nat.beq j k with
     | true=>simp only [cond_true]; exact arV
     | false=>simp only [cond_false]; exact hlen j hj
    ·have hmj:(j+1)*es≤n*es:=Nat.mul_le_mul_right _ hj
     rw [Nat.succ_mul] at hmj
     rw [hcell (bo+(j*es+q)) om]
     simp only [adh]
     cases hb:Nat.beq j k with
     | true=>
      have hjk:=Nat.eq_of_beq_eq_true hb
      subst hjk
      simp only [cond_true]
      rw [arW q hq]
      by_cases hc1:off≤q∧q<off+x'.cells.length
      ·rw [if_pos hc1,if_pos (by simp; omega)]
       have e2:bo+(j*es+q) - (bo+(j*es+off))=q - off:=by omega
       rw [e2]
       have hlt:q - off<(a.eval y).cells.size:=by omega
       have:=WC _ _ (hcp (q - off) om)
       exact ⟨by simpa [hlt] using this,by simpa [hlt] using (hcc (q - off) om).2⟩
      ·rw [if_neg hc1,if_neg (by simp; omega)]
       exact ⟨WC _ _ ((hcs j q hj hq).1.mono (λ _ h=>.inl h) (λ _ _=>rfl)),(hcs j q hj hq).2⟩
     | false=>
      have hjk:j≠k:=λ e=>by subst e; simp at hb
      simp only [cond_false]
      have hne:¬ (bo+(k*es+off)≤bo+(j*es+q)∧bo+(j*es+q)<bo+(k*es+off)+(a.eval y).cells.toList.length):=by
       simp only [Array.length_toList]
       rcases Nat.lt_or_gt_of_ne hjk with hlt' | hgt
       ·have:(j+1)*es≤k*es:=Nat.mul_le_mul_right _ om
        rw [Nat.succ_mul] at this
        omega
       ·have:(k+1)*es≤j*es:=Nat.mul_le_mul_right _ om
        rw [Nat.succ_mul] at this
        omega
      rw [if_neg hne]
      exact ⟨WC _ _ ((hcs j q hj hq).1.mono (λ _ h=>.inl h) (λ _ _=>rfl)),(hcs j q hj hq).2⟩)
   intro next Q hnx
   refine Ta (w':=w.setCells b (bo+(k*es+off)) (a.eval y).cells.toList) ?_ (hnx Go.undef _ _ _ (by rw [Dx]; exact YQ.H7 eY) (λ u z hu=>(keep u z (hu.kill hR ids)).H7 YQ eY) (.pure (.undef _)));simp only [execOp,ho,hxv,Sem.run_bind,hrun,Result.andThen,Sem.run_pure]
 ·exact (fU.bE h1).elim
end
end Go.Ab
namespace Go.Ab
section
variable {P:Program} {cfg:xE} {cx:Ctx} {H:Nat→Option eP} {D:Nat→Prop} {w:World} {I:Nat→Prop} {O:OM} {Sp:o9}
variable {eY:Nat} {o:Oper} {a:Act} {ρ:Operand→AV} {v:AV} {ups:kN} {r:List Nat}
def Reads (P:Program) (w:World) (I:Nat→Prop) (size n:Nat) (g:Nat→AV) (x:Value):Prop:=
 ∃cells:Array Value,Ma w I size n g cells∧∀w':World,w'.heap=w.heap→(Builtin.firstCells size n x).run P w'=.ok cells w'
variable {size:Nat} {g:Nat→AV}
theorem sH {n:Nat} {aa:Option Addr} {n' cap:Nat} (b off:Nat) (vs:Nat→Nat→Value) (ha:n≠0→aa=some ⟨b,off,none⟩) (hes:∀i,i<n→(g i).cells.length=size)
  (hm:∀i j,i<n→j<size→w.cell? ⟨b,off+(i*size+j),none⟩=some (vs i j)) (h1:∀i j,i<n→j<size→(vs i j).oneCell'=true) (hr:∀i j,i<n→j<size→iF w I (nth (g i).cells j) (vs i j)) (hs:0<size):
  Reads P w I size n g (.slice aa n' cap):=by
 refine ⟨((List.range (n*size)).map (λ k=>vs (k / size) (k % size))).toArray,⟨by simp,λ i hi=>⟨hes i hi,λ j hj=>?_⟩⟩,λ w' hw=>?_⟩
 ·have hlt:i*size+j<n*size:=by
   have:(i+1)*size≤n*size:=Nat.mul_le_mul_right _ hi;rw [Nat.succ_mul] at this;omega
  have e1:(i*size+j) / size=i:=by
   rw [Nat.mul_comm,Nat.mul_add_div hs,Nat.div_eq_of_lt hj,Nat.add_zero]
  have e2:(i*size+j) % size=j:=by
   rw [Nat.mul_comm,Nat.mul_add_mod];exact Nat.mod_eq_of_lt hj
  exact ⟨by simpa [hlt,e1,e2] using hr i j hi hj,by simpa [hlt,e1,e2] using h1 i j hi hj⟩
 ·by_cases hn:n=0
  ·subst hn;cases aa with
   | none=>simp [Builtin.firstCells]
   | some aa=>simp [Builtin.firstCells,loadCells,loadCellsFrom]
  ·rw [ha hn];simp only [Builtin.firstCells];have:=run_loadCells_list (P:=P) w' ⟨b,off,none⟩ ((List.range (n*size)).map (λ k=>vs (k / size) (k % size))) (λ k u hk=>by
    have hlt:k<n*size:=by
     rcases Nat.lt_or_ge k (n*size) with h | h
     ·exact h
     ·simp [h] at hk
    simp [hlt] at hk;rw [← hk,Addr.add_mid,cell?_of_heap (w:=w) (w':=w') (by rw [hw])];have h1:k / size<n:=(Nat.div_lt_iff_lt_mul hs).2 hlt;have h2:k % size<size:=Nat.mod_lt _ hs;have:=hm _ _ h1 h2;rwa [Nat.div_add_mod'] at this)
   simpa using this
theorem adB {es n:Nat} {full:Bool} {x:Value} (h:iF w I (.sl es n full g) x) (he:UW es n size=true) (hs:0<size):Reads P w I size n g x:=by
 cases h with
 | sl b off vs hcap hfull ha hes hm h11 hr=>
  by_cases hn:n=0
  ·subst hn;exact sH b off vs (λ h=>absurd rfl h) (λ i hi=>absurd hi om) (λ i j hi=>absurd hi om) (λ i j hi=>absurd hi om) (λ i j hi=>absurd hi om) hs
  ·have:=H8 he hn;subst this;exact sH b off vs (λ h=>(ha h).1) hes hm h11 hr hs
theorem aa3 {m i n cap:Nat} {aa:Option Addr} {p:Own} {O':OM} {D':Nat→Prop} (hO:iQ w I O' D' p (.row size m g)) (hi:i+n≤p.n) (hcap:n≤cap) (hs:0<size)
  (hpl:cap≠0→∃b bo sz,p.pl=some (b,bo,sz)∧aa=some ⟨b,bo+i*p.es,none⟩∧bo+(i+cap)*p.es≤sz):Reads P w I size n (rE i g) (.slice aa n cap):=by
 obtain ⟨hn,hes,hlen,hpl'⟩:=hO;by_cases h0:n=0
 ·subst h0;exact sH 0 0 (λ _ _=>Go.undef) (λ h=>absurd rfl h) (λ i hi=>absurd hi om) (λ i j hi=>absurd hi om) (λ i j hi=>absurd hi om) (λ i j hi=>absurd hi om) hs
 ·obtain ⟨b,bo,sz,h1,h2,h3⟩:=hpl om;rcases hpl' with ⟨_,h4⟩ | ⟨b',o8,sz',h4,hal,hle,hcs⟩
  ·rw [h1] at h4; cases h4
  ·rw [h1] at h4;cases h4;subst hn;refine sH b (bo+i*size) (λ k j=>cellAt w b (bo+((i+k)*size+j))) (λ _=>by rw [h2,hes]) (λ k hk=>by rw [Dw]; exact hlen _ om) (λ k j hk hj=>?_) (λ k j hk hj=>(hcs (i+k) j om hj).2) (λ k j hk hj=>?_) hs
   ·have e:bo+i*size+(k*size+j)=bo+((i+k)*size+j):=by rw [Nat.add_mul]; omega
    rw [e];refine wG hal.al ?_;have:(i+k+1)*size≤p.n*size:=Nat.mul_le_mul_right _ om;rw [Nat.succ_mul] at this;omega
   ·rw [Dw];exact (hcs (i+k) j om hj).1
theorem run_append_grow {t t' e e' ty:TypeId} {i:TypeInfo} {z:Value} (hu:P.underlying t=some (.slice e)) (hu':P.underlying t'=some (.slice e')) (hi:P.info? e=some i) (hz:i.zero=some z)
  {base base':Option Addr} {cap n m c:Nat} {olds news:Array Value} (ho:∀w':World,w'.heap=w.heap→(Builtin.firstCells i.size n (.slice base n cap)).run P w'=.ok olds w')
  (hn:∀w':World,w'.heap=w.heap→(Builtin.firstCells i.size m (.slice base' m c)).run P w'=.ok news w') (hcap:cap<n+m) (hb:(n+m)*i.bytes≤140737488355328) (hb0:0<i.bytes):
  ∃c' rest,n+m≤c'∧rest=Builtin.zeroCells z.cells (c' - (n+m))∧(Builtin.append_ #[t,t'] ty #[.slice base n cap,.slice base' m c]).run P w=
   .ok (.slice (some ⟨w.heap.size,0,none⟩) (n+m) c') (w.drew.alloc (.cells (olds++news++rest) e)):=by
 refine ⟨grownCap w (n+m) cap e,Builtin.zeroCells z.cells (grownCap w (n+m) cap e - (n+m)),grownCap_ge _ _ _ _,rfl,?_⟩;have hnm:n+m≤140737488355328:=Nat.le_trans (Nat.le_mul_of_pos_right _ hb0) hb;have h1:¬ n+m≤cap:=by omega
 have h63':¬ (9223372036854775807<((n:Int)+(m:Int))):=by omega
 have h48':¬ (281474976710656<Builtin.nextslicecap (n+m) cap*i.bytes):=by have:=growslice_fits hcap hb; omega
 have ho':=ho w.drew rfl;have hn':=hn w.drew rfl;simp [Builtin.append_,run_underlying hu,run_underlying hu',sizeOf,typeInfo,zeroValue,hi,hz,Builtin.lenOf,h1,h63',h48',Question.forced,ho',hn',newRow,grownCap]
theorem uV {t t' e e' ty:TypeId} {i:TypeInfo} (hu:P.underlying t=some (.slice e)) (hu':P.underlying t'=some (.slice e')) (hi:P.info? e=some i)
  {base base':Option Addr} {cap n m c:Nat} {news:Array Value} (hn:(Builtin.firstCells i.size m (.slice base' m c)).run P w=.ok news w) (hcap:n+m≤cap) {w':World}
  (hst:∀ad,base=some ad→(storeCells (ad.add (n*i.size)) news.toList).run P w=.ok () w') (hno:base=none→w'=w):
  (Builtin.append_ #[t,t'] ty #[.slice base n cap,.slice base' m c]).run P w=.ok (.slice base (n+m) cap) w':=by
 cases base with
 | none=>
  have:=hno rfl;subst this;simp [Builtin.append_,run_underlying hu,run_underlying hu',sizeOf,typeInfo,hi,Builtin.lenOf,hcap,hn]
 | some ad=>
  have:=hst ad rfl;simp [Builtin.append_,run_underlying hu,run_underlying hu',sizeOf,typeInfo,hi,Builtin.lenOf,hcap,hn,this]
end
end Go.Ab
namespace Go.Ab
section
variable {P:Program} {cfg:xE} {cx:Ctx} {H:Nat→Option eP} {D:Nat→Prop} {w:World} {I:Nat→Prop} {O:OM} {Sp:o9}
variable {eY:Nat} {o:Oper} {a:Act} {ρ:Operand→AV} {v:AV} {ups:kN} {r:List Nat}
variable {k:Nat}
theorem Pm {n:Nat} (h:¬ k<n):Nat.blt k n=false:=by
 cases hb:Nat.blt k n with
 | false=>rfl
 | true=>exact absurd (by simpa using hb) h
variable {size:Nat} {g:Nat→AV} {h:Nat→AV}
theorem Va {n m:Nat} {olds news rest:Array Value} (ho:Ma w I size n g olds) (hn:Ma w I size m h news):∀k,k<n+m→((appG n g h) k).cells.length=size∧
  ∀j,j<size→iF w I (nth ((appG n g h) k).cells j) ((olds++news++rest).getD (k*size+j) Go.undef)∧((olds++news++rest).getD (k*size+j) Go.undef).oneCell'=true:=by
 intro k hk;obtain ⟨h1,h2⟩:=ho;obtain ⟨h3,h4⟩:=hn;by_cases hkn:k<n
 ·have e:appG n g h k=g k:=by
   have:Nat.blt k n=true:=by simpa using hkn
   simp [appG,this]
  rw [e];refine ⟨(h2 k hkn).1,λ j hj=>?_⟩;have hm:(k+1)*size≤n*size:=Nat.mul_le_mul_right _ hkn;rw [Nat.succ_mul] at hm;have e2:(olds++news++rest).getD (k*size+j) Go.undef=olds.getD (k*size+j) Go.undef:=by
   have hlt:k*size+j<olds.size:=by omega
   simp [Array.getElem?_append_left hlt]
  rw [e2];exact (h2 k hkn).2 j hj
 ·have e:appG n g h k=h (k - n):=by
   have:Nat.blt k n=false:=Pm hkn;simp [appG,this]
  rw [e];have hkm:k - n<m:=by omega
  refine ⟨(h4 _ hkm).1,λ j hj=>?_⟩;have hm:(k - n+1)*size≤m*size:=Nat.mul_le_mul_right _ hkm;rw [Nat.succ_mul] at hm;have hkk:k*size=n*size+(k - n)*size:=by rw [← Nat.add_mul]; congr 1; omega
  have e2:(olds++news++rest).getD (k*size+j) Go.undef=news.getD ((k - n)*size+j) Go.undef:=by
   have hge:olds.size≤k*size+j:=by omega
   have hlt2:(k - n)*size+j<news.size:=by omega
   have e3:k*size+j - olds.size=(k - n)*size+j:=by omega
   simp [Array.getElem?_append_right hge,e3,Array.getElem?_append_left hlt2]
  rw [e2];exact (h4 _ hkm).2 j hj
variable {e:TypeId}
theorem fP.al3 (hR:Rel cfg cx H D w I O) (hn:¬ D eY) {x:Value} {c:Array Value} {ob:eP} {p:Own} (ids:List Nat) {w1:World} (hw1:w1.heap=w.heap) (he1:iG w1 w) (hrun:(execOp a.eval o).run P w=.ok (.value x) (w1.alloc (.cells c e)))
  (hp:p.pl=some (w1.heap.size,0,c.size)) (rQ:iQ (w1.alloc (.cells c e)) I (l8 (kill O ids) eY p) (EY D eY) p ob)
  (hv:∀I' O' D',O' eY=some p→fA (w1.alloc (.cells c e)) I' O' D' v x):fP P cfg cx H D w I O eY o a v ((eY,some ob)::dead ids):=by
 intro next Q hnx
 have hR0:=hR.JM hw1 he1;have SY:=hR0.drop ids;refine BF hrun (hnx x _ _ _ ?_ ?_ (hv I (l8 (kill O ids) eY p) _ (by simp [l8])))
 ·rw [Dx];exact SY.push hn c e ob p hp rQ
 ·intro u y hu;exact ((hu.JM hw1 hR).drop hR0 ids).push SY _ p hn
theorem fP.grown (hR:Rel cfg cx H D w I O) (hn:¬ D eY) (ids:List Nat) {n m c':Nat} {olds news rest:Array Value} {e:TypeId} (ho:Ma w I size n g olds) (hnw:Ma w I size m h news)
  (hc':n+m≤c') (hrest:rest.size=(c' - (n+m))*size) (hr1:∀j,j<rest.size→(rest.getD j Go.undef).oneCell'=true) (hrun:(execOp a.eval o).run P w=.ok (.value (.slice (some ⟨w.heap.size,0,none⟩) (n+m) c')) (w.drew.alloc (.cells (olds++news++rest) e))):
  fP P cfg cx H D w I O eY o a (.dQ eY 0 (n+m) false) ((eY,some (.row size (n+m) (appG n g h)))::dead ids):=by
 have hcells:=Va (rest:=rest) ho hnw;have hsz:(olds++news++rest).size=c'*size:=by
  rw [Array.size_append,Array.size_append,ho.1,hnw.1,hrest,← Nat.add_mul,← Nat.add_mul];congr 1;omega
 have hle:(n+m)*size≤c'*size:=Nat.mul_le_mul_right _ hc';refine fP.al3 (p:=⟨size,n+m,some (w.drew.heap.size,0,(olds++news++rest).size)⟩) hR hn ids (w1:=w.drew) rfl (iG.heap rfl rfl rfl rfl) hrun rfl ?_ ?_
 ·have hone:∀j,j<(olds++news++rest).size→((olds++news++rest).getD j Go.undef).oneCell'=true:=λ j hj=>by
   have hsz2:(olds++news).size=(n+m)*size:=by rw [Array.size_append,ho.1,hnw.1,← Nat.add_mul]
   rcases Nat.lt_or_ge j ((n+m)*size) with hlt | hge
   ·rcases Nat.eq_zero_or_pos size with h0 | h0
    ·rw [h0,Nat.mul_zero] at hlt; exact absurd hlt (Nat.not_lt_zero _)
    ·have q1:j / size<n+m:=Nat.div_lt_of_lt_mul (by rw [Nat.mul_comm]; exact hlt);have:=((hcells _ q1).2 (j % size) (Nat.mod_lt _ h0)).2;rwa [Nat.div_add_mod'] at this
   ·have e:(olds++news++rest).getD j Go.undef=rest.getD (j - (n+m)*size) Go.undef:=by
     rw [Array.getD_eq_getD_getElem?, Array.getD_eq_getD_getElem?, Array.getElem?_append_right om,hsz2]
    rw [e];exact hr1 _ (by rw [Array.size_append,hsz2] at hj; omega)
  refine ⟨rfl,rfl,λ k hk=>(hcells k hk).1,.inr ⟨_,_,_,rfl,tT _ _ hone,by omega,λ k j hk hj=>?_⟩⟩;rw [Nat.zero_add,nY];exact ⟨iF.mono (w:=w) (λ _ h=>h) (λ b hb=>jT (w:=w.drew) _ (hR.Bz b hb)) ((hcells k hk).2 j hj).1,((hcells k hk).2 j hj).2⟩
 ·intro I' O' D' hO;refine .dQ hO (by simp) hc' (λ h=>by cases h) (λ _=>⟨_,_,_,rfl,?_,?_⟩) (by simp; omega)
  ·simp
  ·simp only [Nat.zero_add];omega
theorem abU {u:AV} {k:Nat→Nat→(Nat→AV)→Pg} {x:Value} (hR:Rel cfg cx H D w I O) (hx:fA w I O D u x) (h:fU Sp H (adj u k) v ups r):
  ∃es m g base c r',x=.slice base m c∧fU Sp H (k es m g) v ups r'∧∀size,UW es m size=true→0<size→Reads P w I size m g x:=by
 unfold adj at h;split at h
 ·rename_i es n f g;have hp:=hx.GH;cases hp with
  | sl b off vs hcap hfull ha hes hm h1 hr=>exact ⟨es,n,g,_,_,r,rfl,h,λ size he hs=>adB (iF.sl b off vs hcap hfull ha hes hm h1 hr) he hs⟩
 ·rename_i ob i n f;obtain ⟨obj,r',rQ,h1⟩:=h.rF;obtain ⟨p,hp,hO⟩:=hR.live rQ;cases obj with
  | map=>exact (fU.bE h1).elim
  | box cs=>exact (fU.bE h1).elim
  | row es m g=>
   obtain ⟨aa,cap,rfl,h2,h3,h4,h5⟩:=hx.pV hp;refine ⟨es,n,rE i g,aa,cap,r',rfl,h1,λ size he hs=>?_⟩;by_cases hn:n=0
   ·subst hn;exact sH 0 0 (λ _ _=>Go.undef) (λ h=>absurd rfl h) (λ i hi=>absurd hi om) (λ i j hi=>absurd hi om) (λ i j hi=>absurd hi om) (λ i j hi=>absurd hi om) hs
   ·have:=H8 he hn;subst this;exact aa3 hO h2 h3 hs h5
 ·exact (fU.bE h).elim
theorem ajs {es:Nat} :UW es 0 size=true:=by unfold UW; cases Nat.beq es size<;>rfl
theorem ahH {ob:Nat} {x:eP} (h:H ob=some x):mW H [(ob,some x)]=H:=by
 funext k;simp only [mW,look];cases hb:Nat.beq ob k with
 | true=>have:=Nat.eq_of_beq_eq_true hb; subst this; simp [h]
 | false=>rfl
theorem ajt (i:Nat) (g h:Nat→AV):cpG i 0 g h=g:=by
 funext j;unfold cpG;cases h1:Nat.ble i j with
 | false=>rfl
 | true=>
  have h1:=Nat.le_of_ble_eq_true h1;rw [Pm om];rfl
theorem aju {i j:Nat} (h1:i≤j) (h2:j<i+k):cpG i k g h j=h (j - i):=by
 unfold cpG;have a1:Nat.ble i j=true:=Nat.ble_eq_true_of_le h1;have a2:Nat.blt j (i+k)=true:=by simpa using h2
 rw [a1,a2];rfl
theorem agK {i j:Nat} (hn:¬ (i≤j∧j<i+k)):cpG i k g h j=g j:=by
 unfold cpG;by_cases h1:i≤j
 ·rw [Pm om];cases Nat.ble i j<;>rfl
 ·have a1:Nat.ble i j=false:=by
   cases hb:Nat.ble i j with
   | false=>rfl
   | true=>exact absurd (Nat.le_of_ble_eq_true hb) h1
  rw [a1];rfl
theorem Rel.aok (hR:Rel cfg cx H D w I O) {ob es N i0 b bo sz:Nat} {g':Nat→AV} {p:Own} (hp:O ob=some p) (hO:iQ w I O D p (.row es N g)) (hpl:p.pl=some (b,bo,sz)) (hpos:0<es) {cells:Array Value} (hcells:Ma w I es k g' cells) (hle0:i0+k≤N):
  (storeCells ⟨b,bo+i0*es,none⟩ cells.toList).run P w=.ok () (w.setCells b (bo+i0*es) cells.toList)∧Rel cfg cx (mW H [(ob,some (.row es N (cpG i0 k g g')))]) D (w.setCells b (bo+i0*es) cells.toList) I O∧
   ∀u z,fA w I O D u z→fA (w.setCells b (bo+i0*es) cells.toList) I O D u z:=by
 obtain ⟨hn,arY,hlen,hpl' | ⟨b',o8,sz',hpl',hal,hle,hcs⟩⟩:=hO
 ·rw [hpl] at hpl'; cases hpl'.2
 rw [hpl] at hpl';cases hpl';have hmul:(i0+k)*es≤N*es:=Nat.mul_le_mul_right _ hle0;rw [Nat.add_mul] at hmul;have hcsz:=hcells.1;have hone:∀j,j<cells.size→(cells.getD j Go.undef).oneCell'=true:=λ j hj=>by
  rw [hcsz] at hj;have h1:j / es<k:=(Nat.div_lt_iff_lt_mul hpos).2 hj;have h2:=((hcells.2 _ h1).2 (j % es) (Nat.mod_lt _ hpos)).2;rwa [Nat.div_add_mod'] at h2
 have hst:=run_storeCells_cells (P:=P) b (bo+i0*es) cells.toList 0 w (λ j hj=>(hal (bo+i0*es+0+j) (by simp at hj; omega)).1) (λ j hj=>(hal (bo+i0*es+0+j) (by simp at hj; omega)).2)
  (λ u hu=>by
    obtain ⟨j,hj,rfl⟩:=List.mem_iff_getElem.1 hu
    have hj':j<cells.size:=by simpa using hj
    simpa [hj'] using hone j hj')
 rw [Nat.add_zero] at hst;have abS:=vE hal (bo+i0*es) cells.toList (by simp; omega) (λ j hj=>by have hj':j<cells.size:=(by simpa using hj); simpa [hj'] using hone j hj');obtain ⟨_,hcell⟩:=mF hal.al (bo+i0*es) cells.toList (by simp; omega);obtain ⟨hh1,hh2⟩:=rz b cells.toList (bo+i0*es) w;have Yh:∀b',I b'→(w.setCells b (bo+i0*es) cells.toList).heap[b']? = w.heap[b']? := λ b' hb=>hh2 b' (λ e=>hR.qH ob p b bo sz hp hpl (e ▸ hb));have keep:∀u z,fA w I O D u z→fA (w.setCells b (bo+i0*es) cells.toList) I O D u z:=λ u z hu=>hu.mono (λ _ h=>h) Yh (λ _ _=>.inl rfl) (λ _ h=>h) hR.used;have WC:∀u z,iF w I u z→iF (w.setCells b (bo+i0*es) cells.toList) I u z:=λ u z hu=>hu.mono (λ _ h=>h) Yh;refine ⟨hst,hR.write (tV _ _ _ _) (.row es N (cpG i0 k g g')) hp hpl hh2 hh1 ?_,keep⟩;refine ⟨hn,arY,λ j hj=>?_,.inr ⟨b,bo,sz,hpl,abS,hle,λ j q hj hq=>?_⟩⟩
 ·by_cases hin:i0≤j∧j<i0+k
  ·rw [aju hin.1 hin.2];exact (hcells.2 (j - i0) om).1
  ·rw [agK hin];exact hlen j hj
 ·have hmj:(j+1)*es≤N*es:=Nat.mul_le_mul_right _ hj;rw [Nat.succ_mul] at hmj;rw [hcell _ om];by_cases hin:i0≤j∧j<i0+k
  ·rw [aju hin.1 hin.2];have q1:i0*es≤j*es:=Nat.mul_le_mul_right _ hin.1;have q2:(j+1)*es≤(i0+k)*es:=Nat.mul_le_mul_right _ hin.2;rw [Nat.succ_mul,Nat.add_mul] at q2;have q3:(j - i0)*es=j*es - i0*es:=Nat.sub_mul _ _ _;rw [if_pos (by simp; omega)];have e3:bo+(j*es+q) - (bo+i0*es)=(j - i0)*es+q:=by omega
   rw [e3];have hh:=(hcells.2 (j - i0) om).2 q hq;have e4:cells.toList.getD ((j - i0)*es+q) Go.undef=cells.getD ((j - i0)*es+q) Go.undef:=by
    have hlt:(j - i0)*es+q<cells.size:=by omega
    simp [hlt]
   rw [e4];exact ⟨WC _ _ hh.1,hh.2⟩
  ·rw [agK hin];rw [if_neg ?_]
   ·exact ⟨WC _ _ (hcs j q hj hq).1,(hcs j q hj hq).2⟩
   ·intro ⟨r1,r2⟩;have r2:bo+(j*es+q)<bo+i0*es+cells.size:=by simpa using r2
    apply hin;constructor
    ·rcases Nat.lt_or_ge j i0 with h | h
     ·have:(j+1)*es≤i0*es:=Nat.mul_le_mul_right _ h;rw [Nat.succ_mul] at this;omega
     ·exact h
    ·rcases Nat.lt_or_ge j (i0+k) with h | h
     ·exact h
     ·have:(i0+k)*es≤j*es:=Nat.mul_le_mul_right _ h;rw [Nat.add_mul] at this;omega
theorem YR (hR:Rel cfg cx H D w I O) {xd xs:Operand} {d s:AV} {t t' e e':TypeId} {ti:RG} {i:TypeInfo} (hdr:fA w I O D d (a.eval xd)) (hsr:fA w I O D s (a.eval xs))
  (hu:P.underlying t=some (.slice e)) (hu':P.underlying t'=some (.slice e')) (hi:P.info? e=some i) (hsz:i.size=ti.size) (hpos:0<ti.size)
  (run:∀ {x' w'},(Builtin.append_ #[t,t'] o.type #[a.eval xd,a.eval xs]).run P w=.ok x' w'→(execOp a.eval o).run P w=.ok (.value x') w')
  (h:fU Sp H (abH ti d s) v ups r):fP P cfg cx H D w I O eY o a v ups:=by
 unfold abH at h;obtain ⟨es',m,g',base',c',r1,hsv,h5,hreads⟩:=abU (P:=P) hR hsr h;obtain ⟨hes',h6⟩:=h5.cK;obtain ⟨news,hnews,Fu⟩:=hreads ti.size hes' hpos;have Fu:=Fu w rfl;rw [hsv] at Fu;rw [← hsz] at Fu;split at h6
 ·rename_i ob i0 n full;obtain ⟨obj,_,rQ,h7⟩:=h6.rF;obtain ⟨p,hp,hO⟩:=hR.live rQ;cases obj with
  | map=>exact (fU.bE h7).elim
  | box cs=>exact (fU.bE h7).elim
  | row es N g=>
   obtain ⟨hes,h8⟩:=h7.cK;have hes:es=ti.size:=Nat.eq_of_beq_eq_true hes;obtain ⟨hle,h9⟩:=h8.xK;obtain ⟨rfl,rfl⟩:=h9.l7;subst hes;have YM:p.es=ti.size:=hO.2.1;have hpn:p.n=N:=hO.1;obtain ⟨aa,cap,hdv,a1,a2,a3,a4⟩:=hdr.pV hp;have hext:p.n≤i0+cap:=(hdv ▸ hdr).Fp hp;have hcap:n+m≤cap:=by omega
   by_cases hz:cap=0
   ·have hm0:m=0:=by omega
    have hn0:n=0:=by omega
    subst hm0;have hce:news=#[]:=Array.eq_empty_of_size_eq_zero (by have:=hnews.1; omega);rw [ajt];have hr:=uV (P:=P) (ty:=o.type) (base:=aa) hu hu' hi Fu hcap (w':=w) (λ ad _=>by rw [hce]; rfl) (λ _=>rfl);rw [← hdv,← hsv] at hr;intro next Q hnx
    refine BF (run hr) (hnx _ w I O (by rw [ahH rQ]; exact hR.H7 eY) (λ u y hu=>hu.H7 hR eY) ?_);have h2:=hdr.H7 hR eY;rw [hdv] at h2;exact .dQ hp om hcap (λ h=>by cases h) a4 hext
   ·obtain ⟨b,bo,sz,hpl,haa,hcapz⟩:=a4 hz;have hR2:=hR;obtain ⟨hst,YQ,keep⟩:=hR.aok (P:=P) (i0:=i0+n) (k:=m) hp hO hpl hpos hnews om;have hr:=uV (P:=P) (ty:=o.type) (base:=aa) hu hu' hi Fu hcap (w':=w.setCells b (bo+(i0+n)*ti.size) news.toList) (λ ad had=>by
     rw [haa] at had;cases had;rw [YM,hsz,Addr.add_mid];have e1:bo+i0*ti.size+n*ti.size=bo+(i0+n)*ti.size:=by rw [Nat.add_mul]; omega
     rw [e1];exact hst) (λ had=>by rw [haa] at had; cases had)
    rw [← hdv,← hsv] at hr;intro next Q hnx
    refine BF (run hr) (hnx _ _ I O (YQ.H7 eY) (λ u y hu=>(keep u y hu).H7 YQ eY) ?_);exact .dQ hp om hcap (λ h=>by cases h) a4 hext
 ·exact (fU.bE h6).elim
end
end Go.Ab
namespace Go.Ab
section
variable {P:Program} {cfg:xE} {cx:Ctx} {H:Nat→Option eP} {D:Nat→Prop} {w:World} {I:Nat→Prop} {O:OM} {Sp:o9}
variable {eY:Nat} {o:Oper} {a:Act} {ρ:Operand→AV} {v:AV} {ups:kN} {r:List Nat}
theorem afp {s:AV} {f:Int→Pg} {k:Pg} (h:¬ ∃kk n,s=.int kk n):apT s f k=k:=by
 cases s<;>first | rfl | exact absurd ⟨_,_,rfl⟩ h
theorem Vb {t t' e ty:TypeId} {i:TypeInfo} {z:Value} {kn kq:IntKind} (hu:P.underlying t=some (.slice e)) (hu':P.underlying t'=some (.int kn)) (hi:P.info? e=some i) (hz:i.zero=some z)
  {base:Option Addr} {k:Nat} (h0:0<k) (hs:0<i.size) (hb:k*i.bytes≤140737488355328) (hb0:0<i.bytes):
  ∃c' rest,0+k≤c'∧rest=Builtin.zeroCells z.cells (c' - (0+k))∧(Builtin.append_ #[t,t'] ty #[.slice base 0 0,.int kq k]).run P w=
   .ok (.slice (some ⟨w.heap.size,0,none⟩) (0+k) c') (w.drew.alloc (.cells (#[]++Builtin.zeroCells z.cells k++rest) e)):=by
 refine ⟨grownCap w (0+k) 0 e,Builtin.zeroCells z.cells (grownCap w (0+k) 0 e - (0+k)),grownCap_ge _ _ _ _,rfl,?_⟩;have hnm:k≤140737488355328:=Nat.le_trans (Nat.le_mul_of_pos_right _ hb0) hb;have hk:k≠0:=by omega
 have hw:IntKind.i64.wrap (k:Int)=k:=by rw [IntKind.wrap_i64]; omega
 have h63':¬ (9223372036854775807<(k:Int)):=by omega
 have h48':¬ (281474976710656<Builtin.nextslicecap k 0*i.bytes):=by have:=growslice_fits (need:=k) (old:=0) h0 hb; omega
 have h48i:¬ (281474976710656<(k:Int)*(i.bytes:Int)):=by
  rw [← Int.natCast_mul];omega
 have hneg:¬ ((k:Int)<0):=by omega
 have hns:¬ (k*i.size=0):=Nat.mul_ne_zero hk om;have hold:(Builtin.firstCells i.size 0 (.slice base 0 0)).run P w.drew=.ok #[] w.drew:=by
  cases base with
  | none=>rfl
  | some a=>simp [Builtin.firstCells,loadCells,loadCellsFrom]
 simp [Builtin.append_,run_underlying hu,run_underlying hu',sizeOf,typeInfo,zeroValue,hi,hz,asInt,asIntOf,hw,hk,hneg,hns,h63',h48',h48i,Question.forced,hold,newRow,grownCap]
theorem Xm (hc:iE P cfg) (hR:Rel cfg cx H D w I O) (hn:¬ D eY) {d:AV} {kk:IntKind} {k:Int} {t t':TypeId} {xd xs:Operand} (hdr:fA w I O D d (a.eval xd)) (hsr:fA w I O D (.int kk k) (a.eval xs))
  (run:∀ {x' w'},(Builtin.append_ #[t,t'] o.type #[a.eval xd,a.eval xs]).run P w=.ok x' w'→(execOp a.eval o).run P w=.ok (.value x') w')
  (h:fU Sp H (an6 cfg eY t t' d k) v ups r):fP P cfg cx H D w I O eY o a v ups:=by
 unfold an6 at h;obtain ⟨ti',ht',h1⟩:=h.lK;obtain ⟨tt,e,ti,p1,p2,p3,h2⟩:=h1.xL;obtain ⟨hu,i,z,hi,hz,hsz,hby,hzs⟩:=hc.slice p1 p2 p3;obtain ⟨i',_,z',hi',_,S9,_,_,_,_,hzl,WA,_⟩:=(hc.ty e ti p3).ex;rw [hi] at hi'; cases hi';rw [hz] at S9; cases S9;obtain ⟨_,dd,_,_,hud,_,_,_,_,_,_,_,hm⟩:=(hc.ty t' ti' ht').ex;split at h2
 ·rename_i kn es n full g hdd;rw [hdd] at hm;have hm:dd=.int kn:=hm;subst hm;obtain ⟨c0,h3⟩:=h2.cK;obtain ⟨c1,h4⟩:=h3.cK;obtain ⟨c2,h5⟩:=h4.cK;obtain ⟨c3,h6⟩:=h5.cK;obtain ⟨⟨q0,q1⟩,h7⟩:=h6.xK;obtain ⟨rfl,rfl⟩:=h7.l7;have c1:0<ti.size:=by simpa using c1
  have c2:0<ti.bytes:=by simpa using c2
  obtain ⟨m,rfl⟩:=Int.eq_ofNat_of_zero_le (show 0≤k by omega);have hbig':m*ti.bytes≤140737488355328:=by
   have:((m*ti.bytes:Nat):Int)≤((140737488355328:Nat):Int):=by simpa [big] using q1
   exact_mod_cast this
  have hsv:=hsr.iR;have hp:=hdr.GH;generalize hdv:a.eval xd=dv at hp;unfold zf at c0;split at c0
  ·split at c0
   ·cases hp with
    | @sl _ _ _ _ aa cap b off vs hcap hfl ha aol hm h11 hr=>
     have hcn:cap=0:=hfl rfl;subst hcn;obtain ⟨c',rest,g1,g2,g3⟩:=Vb (P:=P) (w:=w) (ty:=o.type) (kq:=kk) (base:=aa) (k:=m) hu hud hi hz om om (by rw [hby]; exact hbig') om;have hnew:Ma w I ti.size m (λ _=>zeroOf ti) (Builtin.zeroCells z.cells m):=by
      have hzz:Builtin.zeroCells z.cells m=(Array.range (m*ti.size)).map (λ k=>z.cells[k % z.cells.size]!):=by unfold Builtin.zeroCells; rw [hzs]
      rw [hzz];refine ⟨by simp,λ j hj=>?_⟩;rw [JL c3 hzl];refine ⟨by rw [jw]; exact hzl,λ q hq=>?_⟩;rw [zY z.cells m j q ti.size hzs hj hq];exact ⟨DV _ _ ti.size hzl WA q hq,xP _ _ ti.size WA q hq⟩
     have hold:Ma w I ti.size 0 (λ _=>zeroOf ti) #[]:=⟨by simp,λ k hk=>absurd hk (Nat.not_lt_zero _)⟩;have key:=fP.grown (P:=P) (o:=o) (a:=a) (eY:=eY) (rest:=rest) hR hn [] hold hnew g1 (by rw [g2,size_zeroCells,hzs]) (by rw [g2]; exact zZ hzs (xP _ _ ti.size WA)) (run (by rw [hdv,hsv]; exact g3));have e3:appG 0 (λ _=>zeroOf ti) (λ _=>zeroOf ti)=(λ _=>zeroOf ti):=by
      funext k;simp [appG]
     rw [e3] at key;simpa [dead] using key
   ·cases c0
  ·cases c0
 ·exact (fU.bE h2).elim
theorem ahI (hc:iE P cfg) (hR:Rel cfg cx H D w I O) (hn:¬ D eY) {c:Call} (ho:o.op=.call c) (hcl:c.callee=.builtin .append) (hx:∀x∈c.args.toList,fA w I O D (ρ x) (a.eval x))
  (h:fU Sp H (gY cfg eY (.call c) ρ) v ups r):fP P cfg cx H D w I O eY o a v ups:=by
 simp only [gY,hcl] at h;split at h
 ·rename_i d s t t' e1 e2;obtain ⟨xd,xs,hargs,hd,hs⟩:=args2 e1;have hty:c.argTypes=#[t,t']:=by rw [← Array.toList_inj]; simpa using e2
  have hdr:fA w I O D d (a.eval xd):=hd ▸ hx xd (by simp [hargs]);have hsr:fA w I O D s (a.eval xs):=hs ▸ hx xs (by simp [hargs]);have run:∀ {x' w'},(Builtin.append_ #[t,t'] o.type #[a.eval xd,a.eval xs]).run P w=.ok x' w'→(execOp a.eval o).run P w=.ok (.value x') w':=by
   intro x' w' hr;simp only [execOp,ho,hcl,resolve,invoke,builtin,Sem.run_bind,Sem.run_pure,Result.andThen_ok,hargs,hty,List.map_toArray,List.map_cons,List.map_nil,hr]
  by_cases hsi:∃kk n,s=.int kk n
  ·obtain ⟨kk,n,rfl⟩:=hsi;exact Xm hc hR hn hdr hsr run h
  rw [afp hsi] at h;obtain ⟨tt',e',ti',q1,q2,q3,h1⟩:=h.xL;obtain ⟨tt,e,ti,p1,p2,p3,h2⟩:=h1.xL;obtain ⟨hpos,h3⟩:=h2.cK;obtain ⟨hbp,h4⟩:=h3.cK;have hpos:0<ti.size:=by simpa using hpos
  have hbp:0<ti.bytes:=by simpa using hbp
  obtain ⟨hu',_⟩:=hc.slice q1 q2 q3;obtain ⟨hu,i,z,hi,hz,hsz,hby,hzs⟩:=hc.slice p1 p2 p3;obtain ⟨i',_,z',hi',_,S9,_,_,_,_,hzl,WA,_⟩:=(hc.ty e ti p3).ex;rw [hi] at hi'; cases hi';rw [hz] at S9; cases S9;clear h h1 h2 h3;split at h4
  ·exact YR hR hdr hsr hu hu' hi hsz hpos run h4
  rename_i hself;clear hself;unfold adk at h4;obtain ⟨es',m,g',base',c',r1,hsv,h5,hreads⟩:=abU (P:=P) hR hsr h4;obtain ⟨hes',h6⟩:=h5.cK;obtain ⟨news,hnews,Fu⟩:=hreads ti.size hes' hpos;rw [hsv] at Fu;rw [← hsz] at Fu;clear h4 h5 hreads;split at h6
  ·rename_i es n full g;obtain ⟨hfull,h7⟩:=h6.cK;have hes:UW es n ti.size=true:=by
    cases es with
    | zero=>
     simp only at h7;obtain ⟨hz0,_⟩:=h7.cK;cases n with
     | zero=>exact ajs
     | succ=>cases hz0
    | succ es1=>
     simp only at h7;exact h7.cK.1
   have hp:=hdr.GH;obtain ⟨olds,holds,aa4⟩:=adB (P:=P) hp hes hpos;generalize hdv:a.eval xd=dv at hp aa4;cases hp with
   | @sl _ _ _ _ aa cap b off vs hcap hfl ha aol hm h11 hr=>
    have hcn:cap=n:=hfl hfull;subst hcn;rw [← hsz] at aa4;clear h6 hdr;have grow:∀(hm0:0<m) (hb:(cap+m)*ti.bytes≤140737488355328),∃c'' rest,cap+m≤c''∧(rest.size=(c'' - (cap+m))*ti.size∧∀j,j<rest.size→(rest.getD j Go.undef).oneCell'=true)∧
      (execOp a.eval o).run P w=.ok (.value (.slice (some ⟨w.heap.size,0,none⟩) (cap+m) c'')) (w.drew.alloc (.cells (olds++news++rest) e)):=by
     intro hm0 hb
     obtain ⟨c'',rest,g1,g2,g3⟩:=run_append_grow (P:=P) (ty:=o.type) hu hu' hi hz aa4 Fu om (by rw [hby]; exact hb) om
     exact ⟨c'',rest,g1,⟨by rw [g2,size_zeroCells,hzs],by rw [g2]; exact zZ hzs (xP _ _ ti.size WA)⟩,run (by rw [hdv,hsv]; exact g3)⟩
    have same:m=0→(execOp a.eval o).run P w=.ok (.value (.slice aa (cap+m) cap)) w:=by
     intro hm0;subst hm0;have hnz:news=#[]:=Array.eq_empty_of_size_eq_zero (by have:=hnews.1; omega);refine run ?_;rw [hdv,hsv];exact uV hu hu' hi (Fu w rfl) om (λ ad _=>by rw [hnz]; rfl) (λ _=>rfl)
    cases hee:es with
    | zero=>
     rw [hee] at h7;simp only at h7;obtain ⟨hz0,h8⟩:=h7.cK;have hcc:cap=0:=by cases hc0:cap with
      | zero=>rfl
      | succ=>rw [hc0] at hz0; cases hz0
     obtain ⟨hbg,h9⟩:=h8.xK;obtain ⟨rfl,rfl⟩:=h9.l7;by_cases hm0:m=0
     ·have hrun:=same hm0;subst hm0;intro next Q hnx
      have hR2:=hR.empty hn ti.size g';refine BF hrun (hnx _ w I _ hR2 (λ u y hu=>hu.place hR hn (λ _ _=>rfl)) ?_);rw [hcc];exact .dQ (p:=⟨ti.size,0,none⟩) (by simp [l8]) (by simp) om (λ h=>by cases h) (λ h=>absurd rfl h) (Nat.zero_le _)
     ·obtain ⟨c'',rest,g1,g2,g3⟩:=grow om (by rw [hcc,Nat.zero_add]; simpa [big] using hbg);have ho0:Ma w I ti.size 0 g' olds:=⟨by have:=holds.1; rw [hcc] at this; exact this,λ k hk=>absurd hk om⟩;rw [hcc] at g1 g2 g3;have key:=fP.grown (P:=P) (o:=o) (a:=a) hR hn [] (g:=g') ho0 hnews g1 g2.1 g2.2 g3;have e3:appG 0 g' g'=g':=by
       funext k;simp [appG]
      rw [e3] at key;simpa [dead] using key
    | succ es1=>
     rw [hee] at h7;simp only at h7;obtain ⟨_,h8⟩:=h7.cK;obtain ⟨hbg,rfl,rfl⟩:=h8.iZ;by_cases hm0:m=0
     ·refine fP.fD hR (same hm0) (.pure ?_);subst hm0;by_cases hc0:cap=0
      ·subst hc0;exact .sl 0 0 (λ _ _=>Go.undef) (Nat.le_refl _) (λ h=>by cases h) (λ h=>absurd rfl h) (λ i h=>absurd h om) (λ i j h=>absurd h om) (λ i j h=>absurd h om) (λ i j h=>absurd h om)
      have arZ:=H8 hes hc0;rw [arZ] at aol hm h11 hr;have e3:∀k,k<cap→appG cap g g' k=g k:=λ k hk=>by
       have:Nat.blt k cap=true:=by simpa using hk
       simp [appG,this]
      exact .sl b off vs om (λ h=>by cases h) (λ h=>ha om) (λ k hk=>by rw [e3 k om]; exact aol k om) (λ k j hk hj=>hm k j om hj) (λ k j hk hj=>h11 k j om hj) (λ k j hk hj=>by rw [e3 k om]; exact hr k j om hj)
     ·obtain ⟨c'',rest,g1,g2,g3⟩:=grow om (by simpa [big] using hbg);have hcells:=Va (rest:=rest) holds hnews;have hsize:(olds++news++rest).size=c''*ti.size:=by
       rw [Array.size_append,Array.size_append,holds.1,hnews.1,g2.1,← Nat.add_mul,← Nat.add_mul];congr 1;omega
      have key:=fP.grown (P:=P) (o:=o) (a:=a) (eY:=eY) hR hn [] holds hnews g1 g2.1 g2.2 g3;intro next Q hnx
      have hR0:=Rel.JM (w:=w) (w':=w.drew) rfl (iG.heap rfl rfl rfl rfl) hR;have al5:∀b,I b→(w.drew.alloc (.cells (olds++news++rest) e)).heap[b]? = w.heap[b]? := λ b hb=>jT (w:=w.drew) _ (hR.Bz b hb);refine BF g3 (hnx _ _ (λ b=>I b∨b=w.heap.size) O ?_ ?_ (.pure ?_))
      ·rw [DU];have SY:=(hR0.H7 eY);exact { SY with
        objs:=λ o ob p h1 h2=>((hR.H7 eY).objs o ob p h1 h2).mono (λ _ h=>.inl h) al5 (λ _ _=>.inl rfl) (λ _ h=>h) SY.used (λ b bo sz hpl=>jT (w:=w.drew) _ (hR.lt o p b bo sz h2 hpl))
        qH:=λ o p b bo sz h1 h2 h3=>by
         rcases h3 with h3 | h3
         ·exact hR.qH o p b bo sz h1 h2 h3
         ·have:=hR.lt o p b bo sz h1 h2; omega
        lt:=λ o p b bo sz h1 h2=>by rw [ng]; have:=hR.lt o p b bo sz h1 h2; exact Nat.lt_succ_of_lt this
        Bz:=λ b h=>by
         rw [ng]
         rcases h with h | h
         ·exact Nat.lt_succ_of_lt (hR.Bz b h)
         ·subst h; exact Nat.lt_succ_self _
        size:=by rw [ng]; exact Nat.le_succ_of_le hR.size
        env:=SY.env.step (iG.alloc _ _)
        frame:=λ b h1 h2=>by rw [jT (w:=w.drew) _ (Nat.lt_of_lt_of_le h1 hR.size)]; exact hR.frame b h1 h2
        glob:=λ g cs h=>(hR.glob g cs h).mono (λ _ h=>.inl h) al5
        SG:=λ b h=>.inl (hR.SG b h)
        U4:=λ b h=>by
         rcases h with h | h
         ·exact hR.U4 b h
         ·subst h; exact .inr (.inl hR.size) }
      ·intro u y hu;exact hu.mono (λ _ h=>.inl h) al5 (λ _ _=>.inl rfl) (λ _ h=>.inl h) hR.used
      ·refine .sl w.heap.size 0 (λ k j=>(olds++news++rest).getD (k*ti.size+j) Go.undef) g1 (λ h=>by cases h) (λ _=>⟨rfl,.inr rfl⟩) (λ k hk=>(hcells k hk).1) (λ k j hk hj=>?_) (λ k j hk hj=>((hcells k hk).2 j hj).2) (λ k j hk hj=>((hcells k hk).2 j hj).1.mono (λ _ h=>.inl h) al5);have hlt:k*ti.size+j<(olds++news++rest).size:=by
        rw [hsize];have:(k+1)*ti.size≤c''*ti.size:=Nat.mul_le_mul_right _ om;rw [Nat.succ_mul] at this;omega
       have:=xO (w:=w.drew) (olds++news++rest) e (k*ti.size+j);rw [Nat.zero_add];refine Eq.trans this ?_;rw [Array.getD_eq_getD_getElem?, Array.getElem?_eq_getElem hlt];rfl
  ·rename_i ob k n full;obtain ⟨obj,_,rQ,h7⟩:=h6.rF;obtain ⟨p,hp,hO⟩:=hR.live rQ;cases obj with
   | map=>exact (fU.bE h7).elim
   | box cs=>exact (fU.bE h7).elim
   | row es n' g=>
    obtain ⟨hes,h8⟩:=h7.cK;have hes:es=ti.size:=Nat.eq_of_beq_eq_true hes;subst hes;obtain ⟨hbg,h9⟩:=h8.xK;have hbg:(n+m)*ti.bytes≤140737488355328:=by simpa [big] using hbg
    obtain ⟨aa,cap,hdv,hkn,hcap,hfl,hpl⟩:=hdr.pV hp;obtain ⟨olds,holds,aa4⟩:=aa3 (P:=P) hO hkn hcap hpos hpl;rw [← hsz] at aa4;have grow:∀(ids:List Nat) (hm0:cap<n+m),fP P cfg cx H D w I O eY o a (.dQ eY 0 (n+m) false) ((eY,some (.row ti.size (n+m) (appG n (rE k g) g')))::dead ids):=by
     intro ids hm0;obtain ⟨c'',rest,g1,g2,g3⟩:=run_append_grow (P:=P) (ty:=o.type) hu hu' hi hz aa4 Fu hm0 (by rw [hby]; exact hbg) om;exact fP.grown (rest:=rest) hR hn ids holds hnews g1 (by rw [g2,size_zeroCells,hzs]) (by rw [g2]; exact zZ hzs (xP _ _ ti.size WA)) (run (by rw [hdv,hsv]; exact g3))
    have other:fP P cfg cx H D w I O eY o a (.dQ eY 0 (n+m) false) [(eY,some (.row ti.size (n+m) (appG n (rE k g) g'))),(ob,none)]:=by
     by_cases hroom:n+m≤cap
     ·by_cases hcap0:cap=0
      ·have hn0:n=0:=by omega
       have hm0:m=0:=by omega
       subst hn0; subst hm0;have hnz:news=#[]:=Array.eq_empty_of_size_eq_zero (by have:=hnews.1; omega);have hrun:=run (uV (P:=P) (ty:=o.type) hu hu' hi (base:=aa) (n:=0) (cap:=cap) (w':=w) (Fu w rfl) om (λ ad _=>by rw [hnz]; rfl) (λ _=>rfl) |> λ q=>by rw [hdv,hsv]; exact q);intro next Q hnx
       have SY:=hR.drop [ob];have hR2:=SY.empty hn ti.size (appG 0 (rE k g) g');refine BF hrun (hnx _ w I _ (by rw [Dx]; exact hR2) (λ u y hu=>(hu.drop hR [ob]).place SY hn (λ _ _=>rfl)) ?_);exact .dQ (p:=⟨ti.size,0,none⟩) (by simp [l8]) (by simp) om (λ h=>by cases h) (λ h=>absurd hcap0 h) (Nat.zero_le _)
      ·obtain ⟨b,bo,sz,adv,haa,hle⟩:=hpl hcap0;obtain ⟨hpn,YM,hlen,hpl' | ⟨b',o8,sz',hpl',hal,hle',hcs⟩⟩:=hO
       ·rw [adv] at hpl'; cases hpl'.2
       rw [adv] at hpl';cases hpl';rw [YM] at haa hle;have avo:(k+cap)*ti.size=k*ti.size+cap*ti.size:=Nat.add_mul _ _ _;have aqc:(n+m)*ti.size≤cap*ti.size:=Nat.mul_le_mul_right _ hroom;rw [Nat.add_mul] at aqc;have awg:=hnews.1;have hst:=run_storeCells_cells (P:=P) b (bo+k*ti.size+n*ti.size) news.toList 0 w (λ j hj=>(hal _ (by simp at hj; omega)).1) (λ j hj=>(hal _ (by simp at hj; omega)).2)
        (λ u hu=>by
          obtain ⟨q,hq,rfl⟩:=List.mem_iff_getElem.1 hu
          have hq':q<news.size:=by simpa using hq
          have hdiv:q / ti.size<m:=(Nat.div_lt_iff_lt_mul hpos).2 om
          have:=((hnews.2 _ hdiv).2 (q % ti.size) (Nat.mod_lt _ hpos)).2
          rw [Nat.div_add_mod'] at this
          simpa [hq'] using this)
       rw [Nat.add_zero] at hst;have hrun:=run (uV (P:=P) (ty:=o.type) hu hu' hi (base:=aa) (n:=n) (cap:=cap) (w':=w.setCells b (bo+k*ti.size+n*ti.size) news.toList) (Fu w rfl) hroom
        (λ ad had=>by
          rw [haa] at had
          cases had
          rw [Addr.add_mid,hsz]
          exact hst) (λ hno=>by rw [haa] at hno; cases hno) |> λ q=>by rw [hdv,hsv]; exact q)
       have abS:=(vE hal (bo+k*ti.size+n*ti.size) news.toList (by simp; omega) (λ q hq=>by
        have hq':q<news.size:=by simpa using hq
        have hdiv:q / ti.size<m:=(Nat.div_lt_iff_lt_mul hpos).2 om;have:=((hnews.2 _ hdiv).2 (q % ti.size) (Nat.mod_lt _ hpos)).2;rw [Nat.div_add_mod'] at this;simpa [hq'] using this)).up (o8:=bo+k*ti.size) om
       obtain ⟨_,hcell⟩:=mF hal.al (bo+k*ti.size+n*ti.size) news.toList (by simp; omega);obtain ⟨hh1,hh2⟩:=rz b news.toList (bo+k*ti.size+n*ti.size) w;have hnI:=hR.qH ob p b bo sz hp adv;have Yh:∀b',I b'→(w.setCells b (bo+k*ti.size+n*ti.size) news.toList).heap[b']? = w.heap[b']? := λ b' hb=>hh2 b' (λ e=>hnI (e ▸ hb));have SY:=hR.drop [ob];have hfree:∀o1 p1 b1 SH SI,kill O [ob] o1=some p1→p1.pl=some (b1,SH,SI)→b1≠b:=by
        intro o1 p1 b1 SH SI w1 w2;unfold kill at w1;by_cases hne:o1∈[ob]
        ·simp [hne] at w1
        ·rw [if_neg hne] at w1;exact hR.inj o1 ob p1 p b1 SH SI b bo sz w1 hp w2 adv (by simpa using hne)
       have happ:=Va (rest:=#[]) holds hnews;have hR2:=SY.place hn (w':=w.setCells b (bo+k*ti.size+n*ti.size) news.toList) (tV _ _ _ _) (.row ti.size (n+m) (appG n (rE k g) g')) ⟨ti.size,n+m,some (b,bo+k*ti.size,sz)⟩ rfl hh2 hh1 (hR.lt ob p b bo sz hp adv) (hR.new ob p b bo sz hp adv) hnI hfree (by
        refine ⟨rfl,rfl,λ q hq=>(happ q hq).1,.inr ⟨_,_,_,rfl,abS,?_,λ q j hq hj=>?_⟩⟩
        ·rw [Nat.add_mul]; omega
        ·have hq2:(q+1)*ti.size≤(n+m)*ti.size:=Nat.mul_le_mul_right _ hq
         rw [Nat.succ_mul,Nat.add_mul] at hq2
         rw [hcell _ om]
         by_cases hqn:q<n
         ·have hq3:(q+1)*ti.size≤n*ti.size:=Nat.mul_le_mul_right _ hqn
          rw [Nat.succ_mul] at hq3
          rw [if_neg om]
          have e3:appG n (rE k g) g' q=g (k+q):=by
           have:Nat.blt q n=true:=by simpa using hqn
           simp [appG,this,Dw]
          rw [e3]
          have e4:bo+k*ti.size+(q*ti.size+j)=bo+((k+q)*ti.size+j):=by rw [Nat.add_mul]; omega
          rw [e4]
          have:=hcs (k+q) j om hj
          exact ⟨this.1.mono (λ _ h=>h) Yh,this.2⟩
         ·have hq3:n*ti.size≤q*ti.size:=Nat.mul_le_mul_right _ om
          rw [if_pos (by simp; omega)]
          have e3:appG n (rE k g) g' q=g' (q - n):=by
           have:Nat.blt q n=false:=Pm hqn
           simp [appG,this]
          rw [e3]
          have hqq:q*ti.size=n*ti.size+(q - n)*ti.size:=by rw [← Nat.add_mul]; congr 1; omega
          have e4:bo+k*ti.size+(q*ti.size+j) - (bo+k*ti.size+n*ti.size)=(q - n)*ti.size+j:=by omega
          rw [e4]
          have hlt:(q - n)*ti.size+j<news.size:=by omega
          have:=(hnews.2 (q - n) om).2 j hj
          simp [hlt] at this
          simp [hlt]
          exact ⟨this.1.mono (λ _ h=>h) Yh,this.2⟩)
       intro next Q hnx
       refine BF hrun (hnx _ _ I _ (by rw [Dx]; exact hR2) (λ u y hu=>(hu.drop hR [ob]).place SY hn Yh) ?_);rw [haa];refine .dQ (p:=⟨ti.size,n+m,some (b,bo+k*ti.size,sz)⟩) (by simp [l8]) (by simp) hroom (λ h=>by cases h) (λ _=>⟨_,_,_,rfl,by simp,?_⟩) (by simp; omega);simp only [Nat.zero_add];omega
     ·exact grow [ob] om
    obtain ⟨rfl,rfl⟩:=h9.l7;exact other
  ·exact (fU.bE h6).elim
 ·exact (fU.bE h).elim
end
end Go.Ab
namespace Go.Ab
section
variable {P:Program} {cfg:xE} {cx:Ctx} {H:Nat→Option eP} {D:Nat→Prop} {w:World} {I:Nat→Prop} {O:OM} {Sp:o9}
variable {eY:Nat} {o:Oper} {a:Act} {ρ:Operand→AV} {v:AV} {ups:kN} {r:List Nat}
theorem adC (g:Nat→AV) (ns:List Int):∀(k i:Nat) (s:ByteArray),k+i=ns.length→(∀j,i≤j→j<ns.length→g j=.int .u8 (ns.getD j 0))→JH k i g s=(ns.drop i).foldl (λ r n=>r.push (UInt8.ofNat n.toNat)) s:=by
 intro k;induction k with
 | zero=>intro i s h _; rw [List.drop_eq_nil_of_le om]; rfl
 | succ k ih=>
  intro i s h hg;rw [show ns.drop i=ns.getD i 0::ns.drop (i+1) by rw [List.drop_eq_getElem_cons om,List.getD_eq_getElem?_getD,List.getElem?_eq_getElem om]; rfl];simp only [JH,List.foldl_cons];rw [hg i (Nat.le_refl _) om];exact ih (i+1) _ om (λ j hj hj'=>hg j om hj')
theorem ajv (hc:iE P cfg) (hR:Rel cfg cx H D w I O) {src dst:TypeId} {x:Operand} (ho:o.op=.convert src dst x) (hx:fA w I O D (ρ x) (a.eval x)) {td:RG} (hd:look cfg.ty dst=some td) (hs:an4 td.desc=true)
  (h:fU Sp H (abK cfg src (ρ x)) v ups r):fP P cfg cx H D w I O eY o a v ups:=by
 unfold abK at h;obtain ⟨tt,e,ei,p1,p2,p3,h1⟩:=h.xL;obtain ⟨hu8,h2⟩:=h1.cK;obtain ⟨hu,i,z,hi,hiz,hsz,_⟩:=hc.slice p1 p2 p3;obtain ⟨es,n,g,base,c,r1,hxv,h3,hreads⟩:=abU (P:=P) hR hx h2;obtain ⟨hes,h4⟩:=h3.cK;obtain ⟨hall,h5⟩:=h4.xK;obtain ⟨rfl,rfl⟩:=h5.fK;obtain ⟨cells,hcells,hrd⟩:=hreads 1 hes om;have hue:P.underlying e=some (.int .u8):=by
  obtain ⟨_,d,_,_,hud,_,_,_,_,_,_,_,hm⟩:=(hc.ty e ei p3).ex;unfold u8D at hu8;split at hu8
  ·rename_i hdd;rw [hdd] at hm;have hm:d=.int .u8:=hm;rw [hud,hm]
  ·cases hu8
 have hdd:P.underlying dst=some .string:=by
  obtain ⟨_,d,_,_,hud,_,_,_,_,_,_,_,hm⟩:=(hc.ty dst td hd).ex;unfold an4 at hs;split at hs
  ·rename_i hq;rw [hq] at hm;have hm:d=.string:=hm;rw [hud,hm]
  ·cases hs
 have hus:∃ds,P.underlying src=some ds:=⟨_,hu⟩;let num:AV→Int:=λ u=>match u with | .int _ m=>m | _=>0
 have hg8:∀j,j<n→g j=.int .u8 (num (g j)):=λ j hj=>by
  have:=hall j hj;cases hgj:g j with
  | int k m=>rw [hgj] at this; cases k<;>first | rfl | cases this
  | _=>rw [hgj] at this; cases this
 obtain ⟨ns,hns⟩:∃ns:List Int,ns=(List.range n).map λ j=>num (g j):=⟨_,rfl⟩;have hnl:ns.length=n:=by rw [hns]; simp
 have hng:∀j,j<n→ns.getD j 0=num (g j):=λ j hj=>by
  rw [hns,List.getD_eq_getElem?_getD,List.getElem?_map,List.getElem?_range hj];rfl
 have hce:cells=(ns.map (Value.int .u8)).toArray:=by
  apply Array.ext
  ·rw [hcells.1]; simp [hnl]
  ·intro j h1 h2;have hj:j<n:=by have:=hcells.1; omega
   have h3:=((hcells.2 j hj).2 0 om).1;rw [hg8 j hj] at h3;have h4:iF w I (.int .u8 (num (g j))) (cells.getD (j*1+0) Go.undef):=h3;have h5:cells.getD (j*1+0) Go.undef=.int .u8 (num (g j)):=(fA.pure (O:=λ _=>none) (D:=λ _=>False) h4).iR;rw [Nat.mul_one,Nat.add_zero] at h5;have h6:cells.getD j Go.undef=cells[j]:=by simp [h1]
   rw [h6] at h5;rw [h5];have:=hng j hj;rw [List.getD_eq_getElem?_getD,List.getElem?_eq_getElem om] at this;simp at this;simp [this]
 have hval:JH n 0 g ByteArray.empty=ns.foldl (λ r n=>r.push (UInt8.ofNat n.toNat)) ByteArray.empty:=by
  have:=adC g ns n 0 ByteArray.empty om (λ j _ hj=>by rw [hng j om]; exact hg8 j om);rw [this,List.drop_zero]
 refine fP.fD (x:=.string (JH n 0 g ByteArray.empty)) hR ?_ (.pure (.str _));rw [hval];simp only [execOp,ho,hxv,Sem.run_bind,run_convert_bytes_string w src dst e base n c hu hue hdd];cases base with
 | none=>
  have hn0:n=0:=by
   have h7:=hrd w rfl;rw [hxv] at h7;have h8:(#[]:Array Value)=cells:=by simpa [Builtin.firstCells] using h7
   have h9:=hcells.1;rw [← h8] at h9;simpa using h9.symm
  have:ns=[]:=List.eq_nil_of_length_eq_zero om;subst this;simp [Conv.bytesToString]
 | some ad=>
  have hload:(loadCells ad n).run P w=.ok (ns.map (Value.int .u8)).toArray w:=by
   have:=hrd w rfl;rw [hxv,hce] at this;have e1:Builtin.firstCells 1 n (.slice (some ad) n c)=loadCells ad (n*1):=rfl;rw [e1,Nat.mul_one] at this;exact this
  rw [run_bytesToString w ad n c ns hload];rfl
theorem afq (hc:iE P cfg) (hR:Rel cfg cx H D w I O) {s d:TypeId} {x:Operand} (ho:o.op=.convert s d x) (hx:fA w I O D (ρ x) (a.eval x))
  (h:fU Sp H (gY cfg eY (.convert s d x) ρ) v ups r):fP P cfg cx H D w I O eY o a v ups:=by
 simp only [gY] at h;obtain ⟨ts,hs,h1⟩:=h.lK;obtain ⟨td,hd,h2⟩:=h1.lK;obtain ⟨_,ds,_,_,hus,_⟩:=(hc.ty s ts hs).ex;obtain ⟨_,dd,_,_,hud,_,_,_,_,_,_,_,hm⟩:=(hc.ty d td hd).ex;split at h2
 ·exact ajv hc hR ho hx hd (by assumption) h2
 split at h2
 ·rename_i k k' n e1 e2;rw [e2] at hx;rw [e1] at hm;have hm:dd=.int k:=hm;subst hm;obtain ⟨rfl,rfl⟩:=h2.fK;refine fP.fD (x:=.int k _) hR ?_ (.pure (.int _ _));simp [execOp,ho,hx.iR,convert,dG hus,dG hud,Conv.intToInt]
 ·exact (fU.bE h2).elim
end
end Go.Ab
namespace Go.Ab
section
variable {P:Program} {cfg:xE} {cx:Ctx} {H:Nat→Option eP} {D:Nat→Prop} {w:World} {I:Nat→Prop} {O:OM} {Sp:o9}
variable {eY:Nat} {o:Oper} {a:Act} {ρ:Operand→AV} {v:AV} {ups:kN} {r:List Nat}
theorem fA.AA {u:AV} {x:Value} (h:fA w I O D u x) (hp:qG u=true):iF w I u x:=by
 cases h with
 | pure h=>exact h
 | _=>cases hp
theorem aak {l:List AV} (h:zF l=true):∀j,j<l.length→qG (nth l j)=true:=by
 induction l with
 | nil=>intro j hj; cases hj
 | cons u l ih=>
  intro j hj;unfold zF at h;cases hv:qG u with
  | false=>simp [hv] at h
  | true=>
   simp only [hv] at h;cases j with
   | zero=>exact hv
   | succ j=>exact ih h j (by simpa using hj)
theorem Ia:∀(l:List Nat) (x k j:Nat),vP l x k=some j→k≤j∧j - k<l.length∧gX l (j - k)=x:=by
 intro l;induction l with
 | nil=>intro x k j h; cases h
 | cons y l ih=>
  intro x k j h;unfold vP at h;cases hb:Nat.beq y x with
  | true=>
   simp only [hb] at h;cases h;exact ⟨Nat.le_refl _,by simp,by simp [gX,Nat.eq_of_beq_eq_true hb]⟩
  | false=>
   simp only [hb] at h;obtain ⟨h1,h2,h3⟩:=ih x (k+1) j h;refine ⟨by omega,by simp; omega,?_⟩;have:j - k=(j - (k+1))+1:=by omega
   rw [this];exact h3
theorem adD:∀(sg:List Nat) (k:List eP→Pg) (r:List Nat),fU Sp H (agw sg k) v ups r→∃obs r',fU Sp H (k obs) v ups r'∧obs.length=sg.length∧∀j,j<sg.length→∃x,hof obs j=some x∧H (gX sg j)=some x:=by
 intro sg;induction sg with
 | nil=>intro k r h; exact ⟨[],r,h,rfl,λ j hj=>by cases hj⟩
 | cons x sg ih=>
  intro k r h;simp only [agw] at h;obtain ⟨ob,r1,rQ,h1⟩:=h.rF;obtain ⟨obs,r2,h2,h3,h4⟩:=ih _ _ h1;refine ⟨ob::obs,r2,h2,by simp [h3],λ j hj=>?_⟩;cases j with
  | zero=>exact ⟨ob,rfl,rQ⟩
  | succ j=>exact h4 j (by simpa using hj)
def qI (O:OM) (sg:List Nat):OM:=λ j=>if j<sg.length then O (gX sg j) else none
variable {sg:List Nat}
theorem zH (hR:Rel cfg cx H D w I O) (hlive:∀j,j<sg.length→∃x,H (gX sg j)=some x) {o j:Nat} (h:vP sg o 0=some j):j<sg.length∧∃p,O o=some p∧qI O sg j=some p:=by
 obtain ⟨_,h2,h3⟩:=Ia sg o 0 j h;simp only [Nat.sub_zero] at h2 h3;obtain ⟨y,hy⟩:=hlive j h2;rw [h3] at hy;obtain ⟨p,hp,_⟩:=hR.live hy;exact ⟨h2,p,hp,by unfold qI; rw [if_pos h2,h3]; exact hp⟩
theorem adE (hR:Rel cfg cx H D w I O) (hlive:∀j,j<sg.length→∃x,H (gX sg j)=some x) {u:AV} {k:AV→Pg} {r:List Nat} (h:fU Sp H (aiU sg u k) v ups r):
  ∃u',fU Sp H (k u') v ups r∧∀(I':Nat→Prop) (_:∀b,I b→I' b) x,fA w I O D u x→fA w I' (qI O sg) (λ o=>o<sg.length) u' x:=by
 have YS:qG u=true→∀(I':Nat→Prop) (_:∀b,I b→I' b) x,fA w I O D u x→fA w I' (qI O sg) (λ o=>o<sg.length) u x:=λ hp I' hI x hx=>.pure ((hx.AA hp).mono hI (λ _ _=>rfl));unfold aiU at h;split at h
 ·rename_i ob i off;cases hi:vP sg ob 0 with
  | none=>rw [hi] at h; exact (fU.bE h).elim
  | some j=>
   rw [hi] at h;obtain ⟨h1,p,h2,h3⟩:=zH hR hlive hi;refine ⟨_,h,λ I' hI x hx=>?_⟩;obtain ⟨b,bo,sz,q1,q2,rfl⟩:=hx.pU h2;exact .ptr h3 q1 q2
 ·rename_i ob i n f;cases hi:vP sg ob 0 with
  | none=>rw [hi] at h; exact (fU.bE h).elim
  | some j=>
   rw [hi] at h;obtain ⟨h1,p,h2,h3⟩:=zH hR hlive hi;refine ⟨_,h,λ I' hI x hx=>?_⟩;obtain ⟨aa,cap,rfl,q1,q2,q3,q4⟩:=hx.pV h2;exact .dQ h3 q1 q2 q3 q4 (hx.Fp h2)
 ·rename_i ob;cases hi:vP sg ob 0 with
  | none=>rw [hi] at h; exact (fU.bE h).elim
  | some j=>
   rw [hi] at h;obtain ⟨h1,p,h2,h3⟩:=zH hR hlive hi;refine ⟨_,h,λ I' hI x hx=>?_⟩;obtain ⟨b,bo,sz,q1,rfl⟩:=hx.xJ h2;exact .mref h3 q1
 ·obtain ⟨hp,h⟩:=h.cK;exact ⟨_,h,YS hp⟩
theorem YT (hR:Rel cfg cx H D w I O) (hlive:∀j,j<sg.length→∃x,H (gX sg j)=some x):∀(l:List AV) (k:List AV→Pg) (r:List Nat),fU Sp H (afb sg l k) v ups r→
  ∃l',fU Sp H (k l') v ups r∧l'.length=l.length∧∀j,j<l.length→∀(I':Nat→Prop) (_:∀b,I b→I' b) x,fA w I O D (nth l j) x→fA w I' (qI O sg) (λ o=>o<sg.length) (nth l' j) x:=by
 intro l;induction l with
 | nil=>intro k r h; exact ⟨[],h,rfl,λ j hj=>by cases hj⟩
 | cons u l ih=>
  intro k r h;simp only [afb] at h;obtain ⟨u',h1,h2⟩:=adE hR hlive h;obtain ⟨l',h3,h4,h5⟩:=ih _ _ h1;refine ⟨u'::l',h3,by simp [h4],λ j hj I' hI x hx=>?_⟩;cases j with
  | zero=>exact h2 I' hI x hx
  | succ j=>exact h5 j (by simpa using hj) I' hI x hx
theorem YU (hR:Rel cfg cx H D w I O) (hlive:∀j,j<sg.length→∃x,H (gX sg j)=some x) {f:FuncId} {cs:List AV} {k:List AV→Pg} {r:List Nat} (h:fU Sp H (afb sg cs k) v ups r):
  ∃cs',fU Sp H (k cs') v ups r∧∀(I':Nat→Prop) (_:∀b,I b→I' b) x,fA w I O D (.fn f cs) x→fA w I' (qI O sg) (λ o=>o<sg.length) (.fn f cs') x:=by
 obtain ⟨cs',h1,h2,h3⟩:=YT hR hlive cs _ _ h;refine ⟨cs',h1,λ I' hI x hx=>?_⟩;obtain ⟨xs,rfl,hl,hr⟩:=hx.MI;exact .fn (by rw [h2]; exact hl) λ j hj=>h3 j om I' hI _ (hr j om)
theorem QM (hR:Rel cfg cx H D w I O) (hlive:∀j,j<sg.length→∃x,H (gX sg j)=some x) {u:AV} {k:AV→List Nat→Pg} (h:fU Sp H (Pf sg u k) v ups r):
  ∃u' ids r',fU Sp H (k u' ids) v ups r'∧∀x,fA w I O D u x→fA w (λ b=>I b∨EW O ids b) (qI O sg) (λ o=>o<sg.length) u' x:=by
 have dflt:∀ {u:AV} {r:List Nat},fU Sp H (pur fuel u k) v ups r→∃u' ids r',fU Sp H (k u' ids) v ups r'∧∀x,fA w I O D u x→fA w (λ b=>I b∨EW O ids b) (qI O sg) (λ o=>o<sg.length) u' x:=by
  intro u r h;obtain ⟨u',ids,r',h1,h2⟩:=(H9 hR fuel).1 _ _ _ _ _ h;exact ⟨u',ids,r',h1,λ x hx=>.pure (h2 x hx)⟩
 unfold Pf at h;split at h
 ·rename_i ob i off;cases hi:vP sg ob 0 with
  | none=>rw [hi] at h; exact dflt h
  | some j=>
   rw [hi] at h;obtain ⟨_,h2,h3⟩:=Ia sg ob 0 j hi;simp only [Nat.sub_zero] at h2 h3;refine ⟨_,_,r,h,λ x hx=>?_⟩;obtain ⟨y,hy⟩:=hlive j h2;rw [h3] at hy;obtain ⟨p,hp,_⟩:=hR.live hy;obtain ⟨b,bo,sz,q1,q2,rfl⟩:=hx.pU hp;exact .ptr (by unfold qI; rw [if_pos h2,h3]; exact hp) q1 q2
 ·rename_i ob i n f;cases hi:vP sg ob 0 with
  | none=>rw [hi] at h; exact dflt h
  | some j=>
   rw [hi] at h;obtain ⟨_,h2,h3⟩:=Ia sg ob 0 j hi;simp only [Nat.sub_zero] at h2 h3;refine ⟨_,_,r,h,λ x hx=>?_⟩;obtain ⟨y,hy⟩:=hlive j h2;rw [h3] at hy;obtain ⟨p,hp,_⟩:=hR.live hy;obtain ⟨aa,cap,rfl,q1,q2,q3,q4⟩:=hx.pV hp;exact .dQ (by unfold qI; rw [if_pos h2,h3]; exact hp) q1 q2 q3 q4 (hx.Fp hp)
 ·rename_i ob;cases hi:vP sg ob 0 with
  | none=>rw [hi] at h; exact dflt h
  | some j=>
   rw [hi] at h;obtain ⟨_,p,h2,h3⟩:=zH hR hlive hi;refine ⟨_,_,r,h,λ x hx=>?_⟩;obtain ⟨b,bo,sz,q1,rfl⟩:=hx.xJ h2;exact .mref h3 q1
 ·rename_i f cs;cases hi:agv sg (Ww cs) with
  | false=>rw [hi] at h; exact dflt h
  | true=>
   rw [hi] at h;obtain ⟨cs',h1,h2⟩:=YU (f:=f) hR hlive h;exact ⟨_,_,r,h1,λ x hx=>h2 _ (λ b hb=>.inl hb) x hx⟩
 ·rename_i cs;cases hi:agv sg (Ww cs) with
  | false=>rw [hi] at h; exact dflt h
  | true=>
   rw [hi] at h;obtain ⟨cs',h1,h2,h3⟩:=YT hR hlive cs _ _ h;refine ⟨_,_,r,h1,λ x hx=>?_⟩;obtain ⟨xs,rfl,hl,hr⟩:=hx.vD;exact .agg (by rw [h2]; exact hl) λ j hj=>h3 j om _ (λ b hb=>.inl hb) _ (hr j om)
 ·exact dflt h
theorem MN (hR:Rel cfg cx H D w I O) (hlive:∀j,j<sg.length→∃x,H (gX sg j)=some x):∀(l:List AV) (k:List AV→List Nat→Pg) (r:List Nat),fU Sp H (HZ sg l k) v ups r→
  ∃l' ids r',fU Sp H (k l' ids) v ups r'∧l'.length=l.length∧∀j,j<l.length→∀x,fA w I O D (nth l j) x→fA w (λ b=>I b∨EW O ids b) (qI O sg) (λ o=>o<sg.length) (nth l' j) x:=by
 intro l;induction l with
 | nil=>intro k r h; exact ⟨[],[],r,h,rfl,λ j hj=>by cases hj⟩
 | cons u l ih=>
  intro k r h;simp only [HZ] at h;obtain ⟨u',i1,r1,h1,h2⟩:=QM hR hlive h;obtain ⟨l',i2,r2,h3,h4,h5⟩:=ih _ _ h1;have jI:∀o p,qI O sg o=some p→o<sg.length:=λ o p h=>by
   unfold qI at h;split at h
   ·assumption
   ·cases h
  refine ⟨u'::l',i1++i2,r2,h3,by simp [h4],λ j hj x hx=>?_⟩;cases j with
  | zero=>exact (h2 x hx).mono (λ b h=>h.elim .inl λ h=>.inr h.afl) (λ _ _=>rfl) (λ _ _=>.inl rfl) (λ _ h=>h) jI
  | succ j=>exact (h5 j (by simpa using hj) x hx).mono (λ b h=>h.elim .inl λ h=>.inr h.afm) (λ _ _=>rfl) (λ _ _=>.inl rfl) (λ _ h=>h) jI
theorem JN:∀(l:List Nat),pQ l=true→∀i j,i<l.length→j<l.length→gX l i=gX l j→i=j:=by
 have mem:∀(l:List Nat) (j:Nat),j<l.length→gX l j∈l:=by
  intro l;induction l with
  | nil=>intro j hj; cases hj
  | cons x l ih=>intro j hj; cases j with
   | zero=>simp [gX]
   | succ j=>exact List.mem_cons_of_mem _ (ih j (by simpa using hj))
 intro l;induction l with
 | nil=>intro _ i j hi; cases hi
 | cons x l ih=>
  intro h i j hi hj he;unfold pQ at h;cases hm:CK x l with
  | true=>simp [hm] at h
  | false=>
   simp only [hm] at h;have hx:=zG hm;cases i with
   | zero=>cases j with
    | zero=>rfl
    | succ j=>simp only [gX] at he; exact absurd (he ▸ mem l j (by simpa using hj)) hx
   | succ i=>cases j with
    | zero=>simp only [gX] at he; exact absurd (he ▸ mem l i (by simpa using hi)) hx
    | succ j=>simp only [gX] at he; rw [ih h i j (by simpa using hi) (by simpa using hj) he]
theorem sI:∀(l:List Nat) (j:Nat),j<l.length→gX l j∈l:=by
 intro l;induction l with
 | nil=>intro j hj; cases hj
 | cons x l ih=>intro j hj; cases j with
  | zero=>simp [gX]
  | succ j=>exact List.mem_cons_of_mem _ (ih j (by simpa using hj))
theorem YV:∀(l:List Nat) (x:Nat),x∈l→∃j,j<l.length∧gX l j=x:=by
 intro l;induction l with
 | nil=>intro x h; cases h
 | cons y l ih=>
  intro x h;rcases List.mem_cons.1 h with h | h
  ·exact ⟨0,by simp,h.symm⟩
  ·obtain ⟨j,h1,h2⟩:=ih x h;exact ⟨j+1,by simp; omega,h2⟩
theorem RL:∀(l m:List Nat),ME l m=true→∀x∈l,x ∉ m:=by
 intro l;induction l with
 | nil=>intro m _ x hx; cases hx
 | cons y l ih=>
  intro m h x hx;unfold ME at h;cases hm:CK y m with
  | true=>simp [hm] at h
  | false=>
   simp only [hm] at h;rcases List.mem_cons.1 hx with hx | hx
   ·subst hx; exact zG hm
   ·exact ih m h x hx
theorem afr (hR:Rel cfg cx H D w I O) (hlive:∀j,j<sg.length→∃x,H (gX sg j)=some x) {u:AV} {k:AV→Pg} {r:List Nat} (h:fU Sp H (inv1 sg u k) v ups r):
  ∃u',fU Sp H (k u') v ups r∧∀(I':Nat→Prop) (_:∀b,I b→I' b) x,fA w I O D u x→fA w I' (qI O sg) (λ o=>o<sg.length) u' x:=by
 have YS:qG u=true→∀(I':Nat→Prop) (_:∀b,I b→I' b) x,fA w I O D u x→fA w I' (qI O sg) (λ o=>o<sg.length) u x:=λ hp I' hI x hx=>.pure ((hx.AA hp).mono hI (λ _ _=>rfl));unfold inv1 at h;split at h
 ·rename_i ob i off;cases hi:vP sg ob 0 with
  | none=>rw [hi] at h; exact (fU.bE h).elim
  | some j=>
   rw [hi] at h;obtain ⟨h1,p,h2,h3⟩:=zH hR hlive hi;refine ⟨_,h,λ I' hI x hx=>?_⟩;obtain ⟨b,bo,sz,q1,q2,rfl⟩:=hx.pU h2;exact .ptr h3 q1 q2
 ·rename_i ob i n f;cases hi:vP sg ob 0 with
  | none=>rw [hi] at h; exact (fU.bE h).elim
  | some j=>
   rw [hi] at h;obtain ⟨h1,p,h2,h3⟩:=zH hR hlive hi;refine ⟨_,h,λ I' hI x hx=>?_⟩;obtain ⟨aa,cap,rfl,q1,q2,q3,q4⟩:=hx.pV h2;exact .dQ h3 q1 q2 q3 q4 (hx.Fp h2)
 ·rename_i ob;cases hi:vP sg ob 0 with
  | none=>rw [hi] at h; exact (fU.bE h).elim
  | some j=>
   rw [hi] at h;obtain ⟨h1,p,h2,h3⟩:=zH hR hlive hi;refine ⟨_,h,λ I' hI x hx=>?_⟩;obtain ⟨b,bo,sz,q1,rfl⟩:=hx.xJ h2;exact .mref h3 q1
 ·rename_i f cs;obtain ⟨cs',h1,h2⟩:=YU (f:=f) hR hlive h;exact ⟨_,h1,h2⟩
 ·obtain ⟨hp,h⟩:=h.cK;exact ⟨_,h,YS hp⟩
theorem afs (hR:Rel cfg cx H D w I O) (hlive:∀j,j<sg.length→∃x,H (gX sg j)=some x):∀(l:List AV) (k:List AV→Pg) (r:List Nat),fU Sp H (alJ sg l k) v ups r→
  ∃l',fU Sp H (k l') v ups r∧l'.length=l.length∧∀j,j<l.length→∀(I':Nat→Prop) (_:∀b,I b→I' b) x,fA w I O D (nth l j) x→fA w I' (qI O sg) (λ o=>o<sg.length) (nth l' j) x:=by
 intro l;induction l with
 | nil=>intro k r h; exact ⟨[],h,rfl,λ j hj=>by cases hj⟩
 | cons u l ih=>
  intro k r h;simp only [alJ] at h;obtain ⟨u',h1,h2⟩:=afr hR hlive h;obtain ⟨l',h3,h4,h5⟩:=ih _ _ h1;refine ⟨u'::l',h3,by simp [h4],λ j hj I' hI x hx=>?_⟩;cases j with
  | zero=>exact h2 I' hI x hx
  | succ j=>exact h5 j (by simpa using hj) I' hI x hx
theorem aft (hR:Rel cfg cx H D w I O) (hlive:∀j,j<sg.length→∃x,H (gX sg j)=some x) {ob:eP} {k:eP→Pg} {r:List Nat} (h:fU Sp H (apX sg ob k) v ups r):
  ∃ob',fU Sp H (k ob') v ups r∧∀(I':Nat→Prop) (_:∀b,I b→I' b) p,iQ w I O D p ob→iQ w I' (qI O sg) (λ o=>o<sg.length) p ob':=by
 cases ob with
 | map=>exact ⟨_,h,λ I' hI p hp=>hp⟩
 | box cs=>
  obtain ⟨cs',h1,h2,h3⟩:=afs hR hlive cs _ _ h;refine ⟨_,h1,λ I' hI p hp=>?_⟩;obtain ⟨q1,b,bo,sz,q2,q3,q4,q5⟩:=hp;exact ⟨q1,b,bo,sz,q2,q3,by rw [h2]; exact q4,λ j hj=>h3 j om I' hI _ (q5 j om)⟩
 | row es n g=>
  refine ⟨_,h,λ I' hI p hp=>?_⟩;obtain ⟨q1,q2,q3,q4⟩:=hp;refine ⟨q1,q2,q3,?_⟩;rcases q4 with q4 | ⟨b,bo,sz,e1,e2,e3,e4⟩
  ·exact .inl q4
  ·exact .inr ⟨b,bo,sz,e1,e2,e3,λ i j hi hj=>⟨(e4 i j hi hj).1.mono hI (λ _ _=>rfl),(e4 i j hi hj).2⟩⟩
theorem adF (hR:Rel cfg cx H D w I O) (hlive:∀j,j<sg.length→∃x,H (gX sg j)=some x):∀(l:List eP) (k:List eP→Pg) (r:List Nat),fU Sp H (agx sg l k) v ups r→
  ∃l',fU Sp H (k l') v ups r∧l'.length=l.length∧∀j x,hof l j=some x→∃y,hof l' j=some y∧∀(I':Nat→Prop) (_:∀b,I b→I' b) p,iQ w I O D p x→iQ w I' (qI O sg) (λ o=>o<sg.length) p y:=by
 intro l;induction l with
 | nil=>intro k r h; exact ⟨[],h,rfl,λ j x hx=>by cases hx⟩
 | cons ob l ih=>
  intro k r h;simp only [agx] at h;obtain ⟨y,h1,h2⟩:=aft hR hlive h;obtain ⟨l',h3,h4,h5⟩:=ih _ _ h1;refine ⟨y::l',h3,by simp [h4],λ j x hx=>?_⟩;cases j with
  | zero=>cases hx; exact ⟨y,rfl,h2⟩
  | succ j=>exact h5 j x hx
theorem abV:∀(f:Nat) (todo sg:List Nat) (k:List Nat→Pg) (r:List Nat),fU Sp H (Yz f todo sg k) v ups r→∃sg' r',fU Sp H (k sg') v ups r':=by
 intro f;induction f with
 | zero=>intro todo sg k r h; exact (fU.bE h).elim
 | succ f ih=>
  intro todo sg k r h;cases todo with
  | nil=>exact ⟨sg,r,h⟩
  | cons o todo=>
   simp only [Yz] at h;cases hm:CK o sg with
   | true=>rw [hm] at h; exact ih _ _ _ _ h
   | false=>
    rw [hm] at h;cases h with
    | rd ho h=>exact ih _ _ _ _ h
theorem Rel.sub (hR:Rel cfg cx H D w I O) {ids:List Nat} {obs:List eP} (hnd:pQ sg=true) (hdj:ME ids sg=true) (hl:obs.length=sg.length) (aal:∀j,j<sg.length→∃x y,hof obs j=some y∧H (gX sg j)=some x∧∀p,iQ w I O D p x→iQ w (λ b=>I b∨EW O ids b) (qI O sg) (λ o=>o<sg.length) p y):
  Rel cfg (L9 w (λ b=>I b∨EW O ids b) (qI O sg) obs.length) (hof obs) (λ o=>o<obs.length) w (λ b=>I b∨EW O ids b) (qI O sg):=by
 have hsub:∀ {j p},qI O sg j=some p→j<sg.length∧O (gX sg j)=some p:=λ h=>by
  unfold qI at h;split at h
  ·exact ⟨by assumption,h⟩
  ·cases h
 have Tc:∀(l:List eP) (j:Nat),l.length≤j→hof l j=none:=by
  intro l;induction l with
  | nil=>intro j _; rfl
  | cons x l ih=>intro j hj; cases j with
   | zero=>simp at hj
   | succ j=>exact ih j (by simpa using hj)
 exact {
  dom:=λ j=>by
   unfold qI
   by_cases hj:j<sg.length
   ·obtain ⟨x,y,h1,h2,_⟩:=aal j hj
    obtain ⟨p,hp,_⟩:=hR.live h2
    simp [hj,h1,hp]
   ·rw [if_neg hj,Tc obs j om]
    simp
  used:=λ j p h=>by have:=(hsub h).1; omega
  objs:=λ j ob p h h'=>by
   obtain ⟨h1,h2⟩:=hsub h'
   obtain ⟨x,y,h3,h4,h5⟩:=aal j h1
   rw [h] at h3
   cases h3
   rw [hl]
   exact h5 p (hR.objs _ _ p h4 h2)
  inj:=λ j j' p p' b bo sz b' o8 sz' h1 h2 h3 h4 h5=>by
   obtain ⟨q1,q2⟩:=hsub h1
   obtain ⟨q3,q4⟩:=hsub h2
   exact hR.inj _ _ p p' b bo sz b' o8 sz' q2 q4 h3 h4 (λ e=>h5 (JN sg hnd j j' q1 q3 e))
  qH:=λ j p b bo sz h1 h2 h3=>by
   obtain ⟨q1,q2⟩:=hsub h1
   rcases h3 with h3 | ⟨o',p',o8,sz',q3,q4,q5⟩
   ·exact hR.qH _ p b bo sz q2 h2 h3
   ·exact hR.inj _ o' p p' b bo sz b o8 sz' q2 q4 h2 q5 (λ e=>RL ids sg hdj o' q3 (e ▸ sI sg j q1)) rfl
  lt:=λ j p b bo sz h1 h2=>hR.lt _ p b bo sz (hsub h1).2 h2
  Bz:=(hR.freeze ids).Bz
  size:=Nat.le_refl _
  frame:=λ _ _ _=>rfl
  env:=⟨iG.refl _,λ _ _ h=>h.elim⟩
  new:=λ j p b bo sz h1 h2=>.inr ⟨j,p,bo,sz,h1,h2⟩
  glob:=(hR.freeze ids).glob
  SG:=λ _ h=>h
  U4:=λ _ h=>.inl h
  Yf:=λ _ _=>.inl rfl
  Dm:=λ _ h=>h }
end
end Go.Ab

/- An abstract machine over the model's code, that it is sound; models of the functions and their proofs. -/
import Derived.Test.YtifekdmmpbcdgaaGreatDoorA0
import Derived.Laws.Append
import Derived.Deep.Upon
import GoSem.Builtin.Clear
import Derived.Laws.BytesString
set_option linter.unusedVariables false
set_option linter.unusedSimpArgs false
namespace Go.Ab
section
variable {P:Program} {cfg:uT} {cx:Ctx} {H:Nat→Option dP} {D:Nat→Prop} {w:World} {I:Nat→Prop} {O:OM} {Sp:ny}
variable {dN:Nat} {o:Oper} {a:Act} {ρ:Operand→AV} {v:AV} {ups:jW} {r:List Nat}
def kP (O:OM) (n:Nat) (p:Own):OM:=λ o=>if o=n then some p else O o
theorem JZ {p:Own} (hn:¬ D dN) {ob:Nat} (h:D ob):kP O dN p ob=O ob:=by
 unfold kP;rw [if_neg (by intro e; subst e; exact hn h)]
theorem jG (ob:Obj) {b:Nat} (h:b<w.heap.size):(w.alloc ob).heap[b]? = w.heap[b]? := by
 show (w.heap.push ob)[b]? = _;rw [Array.getElem?_push,if_neg (Nat.ne_of_lt h)]
theorem heap_alloc_new (ob:Obj):(w.alloc ob).heap[w.heap.size]? = some ob:=by
 show (w.heap.push ob)[w.heap.size]? = _;simp
theorem lQ (ob:Obj):(w.alloc ob).heap.size=w.heap.size+1:=by
 show (w.heap.push ob).size=_;simp
theorem uZ (c:Array Value) (e:TypeId) (j:Nat):(w.alloc (.cells c e)).cell? ⟨w.heap.size,j,none⟩=c[j]? := by
 unfold World.cell?;rw [heap_alloc_new];rfl
theorem RB (c:Array Value) (e:TypeId) (j:Nat):(w.alloc (.cells c e)).frozen? ⟨w.heap.size,j,none⟩=false:=by
 unfold World.frozen?;rw [heap_alloc_new];simp
theorem yX (c:Array Value) (e:TypeId):Ic (w.alloc (.cells c e)) w.heap.size c.size:=by
 intro j hj;rw [uZ,RB];simp [Array.getElem?_eq_getElem hj]
theorem qC (c:Array Value) (e:TypeId) (h1:∀j,j<c.size→(c.getD j Go.undef).oneCell'=true):uV (w.alloc (.cells c e)) w.heap.size 0 c.size:=
 ⟨yX c e,λ j _ hj=>by
  have:cellAt (w.alloc (.cells c e)) w.heap.size j=c.getD j Go.undef:=by
   rw [cellAt,uZ];simp
  rw [this];exact h1 j hj⟩
theorem mD (c:Array Value) (e:TypeId) (j:Nat):cellAt (w.alloc (.cells c e)) w.heap.size j=c.getD j Go.undef:=by
 rw [cellAt,uZ];simp
theorem dZ.push (hR:Rel cfg cx H D w I O) (ob:Obj) (p:Own) (hn:¬ D dN) {v:AV} {x:Value} (h:dZ w I O D v x):dZ (w.alloc ob) I (kP O dN p) (AY D dN) v x:=
 h.mono (λ _ h=>h) (λ b hb=>jG ob (hR.yT b hb)) (λ _ ho=>.inl (JZ hn ho)) (λ _ h=>.inl h) hR.used
theorem Rel.amx (hR:Rel cfg cx H D w I O) (hn:¬ D dN) (nb:Obj) (ob:dP) (p:Own) (zz:Nat) (hp:p.pl=some (w.heap.size,0,zz))
  (nk:iK (w.alloc nb) I (kP O dN p) (AY D dN) p ob):Rel cfg cx (lI H [(dN,some ob)]) (AY D dN) (w.alloc nb) I (kP O dN p):=by
 have hH:∀o,lI H [(dN,some ob)] o=if o=dN then some ob else H o:=by
  intro o;simp only [lI,look];cases hb:Nat.beq dN o with
  | true=>have:=Nat.eq_of_beq_eq_true hb; subst this; simp
  | false=>
   have:o≠dN:=λ e=>by subst e; simp at hb
   simp [this]
 have hOn:O dN=none:=by
  cases h:O dN with
  | none=>rfl
  | some p'=>exact absurd (hR.used dN p' h) hn
 have old:∀ {o p'},o≠dN→kP O dN p o=some p'→O o=some p':=λ hne h=>by unfold kP at h; rwa [if_neg hne] at h
 exact {
  dom:=λ o=>by
   rw [hH]; unfold kP
   by_cases h:o=dN
   ·simp [h]
   ·simp [h,hR.dom o]
  used:=λ o p' h=>by
   by_cases hne:o=dN
   ·exact Rx hne
   ·exact .inl (hR.used o p' (old hne h))
  objs:=λ o ob' p' h h'=>by
   by_cases hne:o=dN
   ·subst hne
    rw [hH,if_pos rfl] at h
    unfold kP at h'
    rw [if_pos rfl] at h'
    cases h; cases h'
    exact nk
   ·rw [hH,if_neg hne] at h
    have h'':=old hne h'
    exact (hR.objs o ob' p' h h'').mono (λ _ h=>h) (λ b hb=>jG _ (hR.yT b hb)) (λ _ ho=>.inl (JZ hn ho)) (λ _ h=>.inl h) hR.used
     (λ b bo sz hpl=>jG _ (hR.lt o p' b bo sz h'' hpl))
  inj:=λ o o' p1 p2 b bo sz b' ni sz' h1 h2 h3 h4 h5=>by
   by_cases e1:o=dN
   ·by_cases e2:o'=dN
    ·exact absurd (e1.trans e2.symm) h5
    ·unfold kP at h1
     rw [if_pos e1] at h1
     cases h1
     rw [hp] at h3
     cases h3
     have:=hR.lt o' p2 b' ni sz' (old e2 h2) h4
     omega
   ·by_cases e2:o'=dN
    ·unfold kP at h2
     rw [if_pos e2] at h2
     cases h2
     rw [hp] at h4
     cases h4
     have:=hR.lt o p1 b bo sz (old e1 h1) h3
     omega
    ·exact hR.inj o o' p1 p2 b bo sz b' ni sz' (old e1 h1) (old e2 h2) h3 h4 h5
  nL:=λ o p1 b bo sz h1 h2 h3=>by
   by_cases e1:o=dN
   ·unfold kP at h1
    rw [if_pos e1] at h1
    cases h1
    rw [hp] at h2
    cases h2
    have:=hR.yT _ h3
    omega
   ·exact hR.nL o p1 b bo sz (old e1 h1) h2 h3
  lt:=λ o p1 b bo sz h1 h2=>by
   have hs:(w.alloc nb).heap.size=w.heap.size+1:=lQ _
   by_cases e1:o=dN
   ·unfold kP at h1
    rw [if_pos e1] at h1
    cases h1
    rw [hp] at h2
    cases h2
    omega
   ·have:=hR.lt o p1 b bo sz (old e1 h1) h2
    omega
  yT:=λ b h=>by
   have:=hR.yT b h
   rw [lQ]
   omega
  size:=by
   have:=hR.size
   rw [lQ]
   omega
  env:=hR.env.step (iC.alloc _ _)
  frame:=λ b h1 h2=>by
   rw [jG _ (by have:=hR.size; omega)]
   exact hR.frame b h1 h2
  new:=λ o p1 b bo sz h1 h2=>by
   by_cases e1:o=dN
   ·unfold kP at h1
    rw [if_pos e1] at h1
    cases h1
    rw [hp] at h2
    cases h2
    exact .inl hR.size
   ·exact hR.new o p1 b bo sz (old e1 h1) h2
  glob:=λ g cs h=>(hR.glob g cs h).mono (λ _ h=>h) (λ b hb=>jG _ (hR.yT b hb))
  O9:=hR.O9
  Rw:=hR.Rw
  Vt:=λ o h=>by
   have hne:o≠dN:=λ e=>hn (e ▸ hR.Dm o h)
   unfold kP
   rw [if_neg hne]
   exact hR.Vt o h
  Dm:=λ o h=>.inl (hR.Dm o h) }
theorem Rel.push (hR:Rel cfg cx H D w I O) (hn:¬ D dN) (c:Array Value) (e:TypeId) (ob:dP) (p:Own) (hp:p.pl=some (w.heap.size,0,c.size))
  (nk:iK (w.alloc (.cells c e)) I (kP O dN p) (AY D dN) p ob):Rel cfg cx (lI H [(dN,some ob)]) (AY D dN) (w.alloc (.cells c e)) I (kP O dN p):=
 hR.amx hn _ ob p _ hp nk
theorem AB (u:Nat×Option dP) (l:jW):lI H (u::l)=lI (lI H l) [u]:=by
 funext o;simp only [lI,look];cases Nat.beq u.1 o<;>rfl
theorem fC.RD (hR:Rel cfg cx H D w I O) (hn:¬ D dN) {x:Value} {c:Array Value} {e:TypeId} {ob:dP} {p:Own} (ids:List Nat) (hrun:(execOp a.eval o).run P w=.ok (.value x) (w.alloc (.cells c e)))
  (hp:p.pl=some (w.heap.size,0,c.size)) (nk:iK (w.alloc (.cells c e)) (λ b=>I b∨Cr O ids b) (kP (kill O ids) dN p) (AY D dN) p ob)
  (hv:∀I' O' D',O' dN=some p→dZ (w.alloc (.cells c e)) I' O' D' v x):fC P cfg cx H D w I O dN o a v ((dN,some ob)::dead ids):=by
 intro next Q hnx
 have Pq:=hR.freeze ids;refine qW hrun (hnx x _ _ _ ?_ ?_ (hv (λ b=>I b∨Cr O ids b) (kP (kill O ids) dN p) _ (by simp [kP])))
 ·rw [AB];exact Pq.push hn c e ob p hp nk
 ·intro u y hu;exact (hu.kill hR ids).push Pq _ p hn
theorem Ou (t:TypeId) (v:Value):(newVar t v).run P w=.ok ⟨w.heap.size,0,none⟩ (w.alloc (.cells v.cells t)):=by
 simp only [newVar,newRow,newObj,Sem.run_bind,Sem.run,Result.andThen];rfl
theorem x9 (zs:List ZK) (c:Array Value) (n:Nat) (hl:zs.length=n) (hz:∀j,j<n→JW (zs.getD j .other) (c.getD j Go.undef)):∀j,j<n→ig w I (nth (xW zs) j) (c.getD j Go.undef):=by
 intro j hj;have key:∀(zs:List ZK) (j:Nat),j<zs.length→nth (xW zs) j=ofZ (zs.getD j .other):=by
  intro zs;induction zs with
  | nil=>intro j hj; cases hj
  | cons z l ih=>intro j hj; cases j with
   | zero=>rfl
   | succ j=>simpa [xW,nth] using ih j (by simpa using hj)
 rw [key zs j om];have:=hz j hj;cases hzz:zs.getD j .other<;>rw [hzz] at this<;>simp only [JW] at this<;>simp only [ofZ]<;>first | exact .undef _ | rw [this]
 ·exact .bool _
 ·exact .int _ _
 ·exact .str _
 ·exact .sl 0 0 (λ _ _=>Go.undef) (Nat.le_refl _) (λ _=>rfl) (λ h=>absurd rfl h) (λ i h=>by cases h) (λ i j h=>by cases h) (λ i j h=>by cases h) (λ i j h=>by cases h)
 ·exact .Ct
theorem rP (zs:List ZK) (c:Array Value) (n:Nat) (hz:∀j,j<n→JW (zs.getD j .other) (c.getD j Go.undef)):∀j,j<n→(c.getD j Go.undef).oneCell'=true:=by
 intro j hj;have:=hz j hj;cases hzz:zs.getD j .other<;>rw [hzz] at this<;>simp only [JW] at this<;>first | exact this | (rw [this]; rfl)
theorem iR (zs:List ZK):(xW zs).length=zs.length:=by
 induction zs with
 | nil=>rfl
 | cons z l ih=>simp [xW,ih]
theorem abP (n:Nat) (z:List ZK):(adM n z).length=n*z.length:=by
 induction n with
 | zero=>simp [adM]
 | succ n ih=>simp only [adM,List.length_append,ih]; rw [Nat.succ_mul]; omega
theorem abQ (l m:List ZK):xW (l++m)=xW l++xW m:=by
 induction l with
 | nil=>rfl
 | cons z l ih=>simp only [List.cons_append,xW,ih]
theorem agt:∀(n:Nat) (z:List ZK) (size:Nat),z.length=size→∀q j,q<n→j<size→nth (xW (adM n z)) (q*size+j)=nth (xW z) j:=by
 intro n;induction n with
 | zero=>intro z size _ q j h; exact absurd h (Nat.not_lt_zero _)
 | succ n ih=>
  intro z size hz q j hq hj;simp only [adM];rw [abQ,afn,iR,hz];cases q with
  | zero=>simp only [Nat.zero_mul,Nat.zero_add]; rw [if_pos hj]
  | succ q=>
   rw [if_neg (by rw [Nat.succ_mul]; omega)];have e1:(q+1)*size+j - size=q*size+j:=by rw [Nat.succ_mul]; omega
   rw [e1];exact ih z size hz q j om hj
theorem Yg {ti:Mh} (hz:zok ti=true) (hl:ti.zero.length=ti.size):(zeroOf ti).cells=xW ti.zero:=by
 unfold zok at hz;split at hz
 ·unfold zeroOf;cases ha:ti.agg with
  | true=>rfl
  | false=>
   rw [ha] at hz;have:ti.size=1:=Nat.eq_of_beq_eq_true hz;rw [this] at hl;match ti.zero,hl with
   | [q],_=>
    show (ofZ q).cells=[ofZ q]
    cases q<;>rfl
 ·cases hz
theorem aia (hc:gL P cfg) (hR:Rel cfg cx H D w I O) (hn:¬ D dN) {t:TypeId} (ho:o.op=.alloc t) (h:fD Sp H (gD cfg dN (.alloc t) ρ) v ups r):fC P cfg cx H D w I O dN o a v ups:=by
 simp only [gD] at h;obtain ⟨ti,ht,h1⟩:=h.kg;obtain ⟨i,d,z,hi,hu,hz,hs,_,_,hzs,hzl,Pt,_⟩:=(hc.ty t ti ht).ex;split at h1
 ·rename_i n et harr;obtain ⟨ei,hei,h2⟩:=h1.kg;obtain ⟨c1,h3⟩:=h2.bP;obtain ⟨c2,h4⟩:=h3.bP;obtain ⟨c3,h5⟩:=h4.bP;obtain ⟨rfl,rfl⟩:=h5.jY;have c2:0<n:=by
   rcases Nat.eq_zero_or_pos n with h0 | h0
   ·subst h0; cases c2
   ·exact h0
  have c3:=of_decide_eq_true c3;have hl:(xW ei.zero).length=ei.size:=by
   rw [iR];exact (hc.ty et ei hei).ex.elim λ _ h=>h.elim λ _ h=>h.elim λ _ h=>h.2.2.2.2.2.2.2.1
  have hcl:(zeroOf ei).cells=xW ei.zero:=Yg c1 (by rw [iR] at hl; exact hl);have hsz:ti.size=n*ei.size:=by
   rw [← hzl,c3,abP,← iR,hl]
  refine fC.RD (p:=⟨ei.size,n,some (w.heap.size,0,z.cells.size)⟩) (c:=z.cells) (e:=t) (x:=.pointer (some ⟨w.heap.size,0,none⟩)) hR hn [] ?_ rfl ?_ ?_
  ·simp [execOp,ho,Instr.alloc,zeroValue,typeInfo,hi,hz,Ou]
  ·refine ⟨rfl,rfl,λ _ _=>by rw [hcl]; exact hl,.inr ⟨_,_,_,rfl,qC _ _ (λ j hj=>rP _ _ _ Pt _ om),by omega,λ q j hq hj=>?_⟩⟩;rw [Nat.zero_add,mD];have hqj:q*ei.size+j<ti.size:=by
    have:(q+1)*ei.size≤n*ei.size:=Nat.mul_le_mul_right _ hq;rw [Nat.succ_mul] at this;omega
   refine ⟨?_,rP _ _ _ Pt _ hqj⟩;have:=x9 (w:=w.alloc (.cells z.cells t)) (I:=λ b=>I b∨Cr O [] b) _ _ ti.size hzl Pt _ hqj;rw [hcl];have e1:nth (xW ti.zero) (q*ei.size+j)=nth (xW ei.zero) j:=by
    rw [c3];exact agt n _ _ (by rw [← iR]; exact hl) q j hq hj
   rw [← e1];exact this
  ·intro I' O' D' hO;have h6:dZ (w.alloc (.cells z.cells t)) I' O' D' (.ptr dN 0 0) _:=.ptr (i:=0) (off:=0) hO rfl c2;have e0:0+(0*ei.size+0)=0:=by simp
   simp only [e0] at h6;exact h6
 obtain ⟨rfl,rfl⟩:=h1.jY;refine fC.RD (p:=⟨0,1,some (w.heap.size,0,z.cells.size)⟩) (c:=z.cells) (e:=t) (x:=.pointer (some ⟨w.heap.size,0,none⟩)) hR hn [] ?_ rfl ?_ ?_
 ·simp [execOp,ho,Instr.alloc,zeroValue,typeInfo,hi,hz,Ou]
 ·refine ⟨rfl,_,_,_,rfl,yX _ _,by rw [iR]; omega,λ j hj=>?_⟩;rw [Nat.zero_add,mD];exact .pure (x9 _ _ ti.size hzl Pt j (by rw [iR] at hj; omega))
 ·intro I' O' D' hO;exact .ptr (i:=0) (off:=0) hO rfl (by simp)
theorem anl (hR:Rel cfg cx H D w I O) (hn:¬ D dN) {t:TypeId} {x:Operand} (ho:o.op=.box t x) (hx:dZ w I O D (ρ x) (a.eval x)) (h:fD Sp H (gD cfg dN (.box t x) ρ) v ups r):fC P cfg cx H D w I O dN o a v ups:=by
 simp only [gD] at h;obtain ⟨hk,h1⟩:=h.Az;obtain ⟨rfl,rfl⟩:=h1.jY;obtain ⟨hl,hcs⟩:=hx.cells hk;refine fC.RD (p:=⟨0,1,some (w.heap.size,0,(a.eval x).cells.size)⟩) (c:=(a.eval x).cells) (e:=t) (x:=.pointer (some ⟨w.heap.size,0,none⟩)) hR hn [] ?_ rfl ?_ ?_
 ·simp [execOp,ho,Instr.box,Ou]
 ·refine ⟨rfl,_,_,_,rfl,yX _ _,by omega,λ j hj=>?_⟩;rw [Nat.zero_add,mD];exact ((hcs j hj).1.kill hR []).push (hR.freeze []) _ _ hn
 ·intro I' O' D' hO;exact .ptr (i:=0) (off:=0) hO rfl (by simp)
end
end Go.Ab
namespace Go.Ab
section
variable {P:Program} {cfg:uT} {cx:Ctx} {H:Nat→Option dP} {D:Nat→Prop} {w:World} {I:Nat→Prop} {O:OM} {Sp:ny}
variable {dN:Nat} {o:Oper} {a:Act} {ρ:Operand→AV} {v:AV} {ups:jW} {r:List Nat}
theorem run_places (l:List Field) (h:∀f∈l,(P.info? f.type).isSome=true):∃ps:List (Nat×Nat),ps.length=l.length∧(∀(k:Nat) (f:Field) (i:TypeInfo),l[k]? = some f→P.info? f.type=some i→ps[k]? = some (f.offset,i.size))∧
  (l.mapM (λ f:Field=>do pure (f.offset,← sizeOf f.type))).run P w=.ok ps w:=by
 induction l with
 | nil=>exact ⟨[],rfl,λ k f i h=>by simp at h,by simp⟩
 | cons f l ih=>
  obtain ⟨ps,h1,h2,h3⟩:=ih (λ f hf=>h f (List.mem_cons_of_mem _ hf));obtain ⟨i,hi⟩:=Option.isSome_iff_exists.1 (h f (by simp));refine ⟨(f.offset,i.size)::ps,by simp [h1],λ k f' i' hk hi'=>?_,?_⟩
  ·cases k with
   | zero=>simp at hk; subst hk; rw [hi] at hi'; cases hi'; simp
   | succ k=>simpa using h2 k f' i' (by simpa using hk) hi'
  ·rw [List.mapM_cons];simp only [bind_assoc,pure_bind,Sem.run_bind,fP hi,Result.andThen_ok,h3,Sem.run_pure]
def setAt (cells:Array Value) (off:Nat) (vs:Array Value):Array Value:=vs.zipIdx.foldl (λ cs (p:Value×Nat)=>cs.setIfInBounds (off+p.2) p.1) cells
theorem adY (off:Nat):∀(l:List Value) (n:Nat) (cells:Array Value),off+n+l.length≤cells.size→
  ((l.zipIdx n).foldl (λ (cs:Array Value) (p:Value×Nat)=>cs.setIfInBounds (off+p.2) p.1) cells).size=cells.size∧
  ∀k,((l.zipIdx n).foldl (λ (cs:Array Value) (p:Value×Nat)=>cs.setIfInBounds (off+p.2) p.1) cells).getD k Go.undef=
   if off+n≤k∧k<off+n+l.length then l.getD (k - (off+n)) Go.undef else cells.getD k Go.undef:=by
 intro l;induction l with
 | nil=>intro n cells _; exact ⟨rfl,λ k=>by simp [show ¬ (off+n≤k∧k<off+n) by omega]⟩
 | cons x l ih=>
  intro n cells hle;simp only [List.zipIdx_cons,List.foldl_cons];obtain ⟨h1,h2⟩:=ih (n+1) (cells.setIfInBounds (off+n) x) (by simp at hle ⊢; omega);refine ⟨by rw [h1]; simp,λ k=>?_⟩;rw [h2 k];by_cases hk:k=off+n
  ·subst hk;have hlt:off+n<cells.size:=by simp at hle; omega
   have e1:¬ (off+(n+1)≤off+n∧off+n<off+(n+1)+l.length):=by omega
   have e2:off+n≤off+n∧off+n<off+n+(x::l).length:=by simp
   rw [if_neg e1,if_pos e2];simp [hlt]
  ·by_cases hin:off+(n+1)≤k∧k<off+(n+1)+l.length
   ·have e2:off+n≤k∧k<off+n+(x::l).length:=by simp; omega
    rw [if_pos hin,if_pos e2];have:k - (off+n)=(k - (off+(n+1)))+1:=by omega
    rw [this];simp
   ·have e2:¬ (off+n≤k∧k<off+n+(x::l).length):=by simp; omega
    rw [if_neg hin,if_neg e2];have hne:off+n≠k:=λ e=>hk e.symm;simp [Array.getElem?_setIfInBounds_ne hne]
theorem V4 (cells:Array Value) (off:Nat) (vs:Array Value) (h:off+vs.size≤cells.size):(setAt cells off vs).size=cells.size∧
  ∀k,(setAt cells off vs).getD k Go.undef=if off≤k∧k<off+vs.size then vs.getD (k - off) Go.undef else cells.getD k Go.undef:=by
 have e:setAt cells off vs=(vs.toList.zipIdx 0).foldl (λ (cs:Array Value) (p:Value×Nat)=>cs.setIfInBounds (off+p.2) p.1) cells:=by
  unfold setAt;rw [← Array.foldl_toList];simp
 rw [e];obtain ⟨h1,h2⟩:=adY off vs.toList 0 cells (by simpa using h);refine ⟨h1,λ k=>?_⟩;rw [h2 k];simp
theorem yc:∀(new l:List AV) (off:Nat),(EG off new l).length=l.length:=by
 intro new l;induction l generalizing new with
 | nil=>intro off; cases new<;>cases off<;>simp [EG]
 | cons x l ih=>
  intro off;cases new with
  | nil=>cases off<;>simp [EG]
  | cons v new=>cases off<;>simp [EG,ih]
theorem V5:∀(l new:List AV) (off:Nat),off+new.length≤l.length→∀j,nth (EG off new l) j=if off≤j∧j<off+new.length then nth new (j - off) else nth l j:=by
 intro l;induction l with
 | nil=>
  intro new off h j;have:new=[]:=by cases new<;>simp_all
  subst this;rw [if_neg (by simp)];cases off<;>rfl
 | cons x l ih=>
  intro new off h j;cases new with
  | nil=>cases off<;>simp [EG,show ∀n:Nat,¬ (n≤j∧j<n) by omega]
  | cons v new=>
   cases off with
   | zero=>
    simp only [EG];cases j with
    | zero=>simp [nth]
    | succ j=>
     simp only [nth];rw [ih new 0 (by simp at h ⊢; omega) j];by_cases hj:j<new.length
     ·rw [if_pos om,if_pos (by simp; omega)]; simp [nth]
     ·rw [if_neg om,if_neg (by simp; omega)]
   | succ off=>
    simp only [EG];cases j with
    | zero=>simp [nth]
    | succ j=>
     simp only [nth];rw [ih (v::new) off (by simp at h ⊢; omega) j];by_cases hj:off≤j∧j<off+(v::new).length
     ·rw [if_pos hj,if_pos om]; congr 1; omega
     ·rw [if_neg hj,if_neg om]
def abR (w:World) (I:Nat→Prop) (O:OM) (D:Nat→Prop) (cs:List AV) (cells:Array Value):Prop:=cells.size=cs.length∧∀j,j<cs.length→dZ w I O D (nth cs j) (cells.getD j Go.undef)
theorem abR.put {cs new:List AV} {cells vs:Array Value} {off:Nat} (h:abR w I O D cs cells) (h':abR w I O D new vs) (hle:off+new.length≤cs.length):abR w I O D (EG off new cs) (setAt cells off vs):=by
 obtain ⟨h1,h2⟩:=h;obtain ⟨h3,h4⟩:=h';obtain ⟨s1,s2⟩:=V4 cells off vs om;refine ⟨by rw [s1,yc,h1],λ j hj=>?_⟩;rw [yc] at hj;rw [V5 _ _ _ hle,s2];by_cases hin:off≤j∧j<off+new.length
 ·rw [if_pos hin,if_pos om]; exact h4 _ om
 ·rw [if_neg hin,if_neg om]; exact h2 j hj
theorem Y6 (place:Nat→Option (Nat×Nat)) (cells:Array Value) (i:Nat) (v:Value) (rest:List (Nat×Value)) (off size:Nat) (hp:place i=some (off,size)) (hs:v.cells.size=size) (hle:off+v.cells.size≤cells.size):
  Instr.fill place cells ((i,v)::rest)=Instr.fill place (setAt cells off v.cells) rest:=by
 have hs':¬ v.cells.size≠size:=by omega
 have hle':¬ off+v.cells.size > cells.size:=by omega
 simp only [Instr.fill,hp];rw [if_neg (by simp; omega)];rfl
theorem Tq {fs:List (Nat×Nat)} {place:Nat→Option (Nat×Nat)} (hpl:∀k off t ti,Ul fs k=some (off,t)→look cfg.ty t=some ti→place k=some (off,ti.size)):
  ∀(parts:List (Nat×Operand)) (cs:List AV) (cells:Array Value) (k:List AV→Pg) (r:List Nat),(∀p∈parts,dZ w I O D (ρ p.2) (a.eval p.2))→abR w I O D cs cells→fD Sp H (abD cfg fs (parts.map λ p=>(p.1,ρ p.2)) cs k) v ups r→
   ∃cs' cells' r',fD Sp H (k cs') v ups r'∧Instr.fill place cells (parts.map λ p=>(p.1,a.eval p.2))=some cells'∧abR w I O D cs' cells':=by
 intro parts;induction parts with
 | nil=>intro cs cells k r _ hrep h; exact ⟨cs,cells,r,h,rfl,hrep⟩
 | cons p parts ih=>
  intro cs cells k r hx hrep h;simp only [List.map_cons,abD] at h;cases hf:Ul fs p.1 with
  | none=>simp only [hf] at h; exact (fD.aZ h).elim
  | some q=>
   obtain ⟨off,t⟩:=q;simp only [hf] at h;obtain ⟨ti,ht,h1⟩:=h.kg;obtain ⟨hk,h2⟩:=h1.Az;obtain ⟨hsz,h3⟩:=h2.bP;obtain ⟨hle,h4⟩:=h3.bP;have hsz:(ρ p.2).cells.length=ti.size:=Nat.eq_of_beq_eq_true hsz;have hle:off+(ρ p.2).cells.length≤cs.length:=Nat.le_of_ble_eq_true hle;obtain ⟨hl,hcs⟩:=(hx p (by simp)).cells hk;have aib:=hrep.put (off:=off) (new:=(ρ p.2).cells) (vs:=(a.eval p.2).cells) ⟨hl,λ j hj=>(hcs j hj).1⟩ hle;obtain ⟨cs',cells',r',q1,q2,q3⟩:=ih _ _ k r (λ p hp=>hx p (List.mem_cons_of_mem _ hp)) aib h4;refine ⟨cs',cells',r',q1,?_,q3⟩;simp only [List.map_cons];rw [Y6 place cells p.1 (a.eval p.2) _ off ti.size (hpl _ _ _ _ hf ht) om (by have:=hrep.1; omega)];exact q2
theorem aic {et sz:Nat}:∀(n b k:Nat) {off t:Nat},Ul (afg et sz n b) k=some (off,t)→off=(b+k)*sz∧t=et:=by
 intro n;induction n with
 | zero=>intro b k off t h; cases h
 | succ n ih=>
  intro b k off t h;cases k with
  | zero=>cases h; exact ⟨rfl,rfl⟩
  | succ k=>
   obtain ⟨h1,h2⟩:=ih (b+1) k h;exact ⟨by rw [h1]; congr 1; omega,h2⟩
theorem aie (hc:gL P cfg) (hR:Rel cfg cx H D w I O) {t:TypeId} {parts:Array (Nat×Operand)} (ho:o.op=.build t parts) (hx:∀p∈parts.toList,dZ w I O D (ρ p.2) (a.eval p.2))
  (h:fD Sp H (gD cfg dN (.build t parts) ρ) v ups r):fC P cfg cx H D w I O dN o a v ups:=by
 simp only [gD] at h;obtain ⟨ti,ht,h1⟩:=h.kg;obtain ⟨i,d,z,hi,hu,hz,hs,_,_,hzs,hzl,Pt,hd⟩:=(hc.ty t ti ht).ex;split at h1
 ·rename_i fs e;rw [e] at hd;obtain ⟨fields,rfl,hfs⟩:=hd;have hth:=hc.fields t ti _ ht hu;obtain ⟨ps,p1,p2,p3⟩:=run_places (P:=P) (w:=w) fields.toList hth;have hpl:∀k off t ti,Ul fs k=some (off,t)→look cfg.ty t=some ti→(ps.toArray[·]?) k=some (off,ti.size):=by
   intro k off t' ti' hk ht';have hf:Mi ti k=some (off,t'):=by unfold Mi; rw [e]; exact hk
   obtain ⟨fields',fd,q1,q2,q3,q4⟩:=hc.field ht hf;rw [hu] at q1;cases q1;obtain ⟨i',_,_,q5,_,_,q6,_⟩:=(hc.ty t' ti' ht').ex;have:=p2 k fd i' (by simpa using q2) (by rw [q4]; exact q5);simpa [q3,q6] using this
  have hrep:abR w I O D (xW ti.zero) z.cells:=⟨by rw [iR]; omega,λ j hj=>.pure (x9 _ _ ti.size hzl Pt j (by rw [iR] at hj; omega))⟩;obtain ⟨cs',cells',r',q1,q2,q3⟩:=Tq hpl parts.toList _ _ _ _ hx hrep h1;obtain ⟨rfl,rfl⟩:=q1.eZ;refine fC.dY (x:=.agg cells') hR ?_ (.agg q3.1 q3.2);have hm:(fields.mapM (λ f:Field=>do pure (f.offset,← sizeOf f.type))).run P w=.ok ps.toArray w:=by
   have e0:fields=fields.toList.toArray:=by simp
   rw [e0,List.mapM_toArray,map_eq_pure_bind,Sem.run_bind,p3];rfl
  have e1:(parts.map λ (p:Nat×Operand)=>(p.1,a.eval p.2)).toList=parts.toList.map λ p=>(p.1,a.eval p.2):=by simp
  simp only [execOp,ho,Instr.build,Sem.run_bind,zeroValue,typeInfo,program,Sem.run,hi,hz,Sem.run_pure,Result.andThen_ok,bN hu,hm,e1,q2]
 ·rename_i n et e;rw [e] at hd;have hd:d=.array n et:=hd;subst hd;obtain ⟨ei,he,h2⟩:=h1.kg;obtain ⟨ie,de,hie,apD,hde,ak6⟩:=hc.agg he;have hpl:∀k off t ti,Ul (afg et ei.size n 0) k=some (off,t)→look cfg.ty t=some ti→(λ i=>some (i*ei.size,ei.size):Nat→Option (Nat×Nat)) k=some (off,ti.size):=by
   intro k off t' ti' hk ht';obtain ⟨rfl,rfl⟩:=aic n 0 k hk;rw [he] at ht';cases ht';simp
  have hrep:abR w I O D (xW ti.zero) z.cells:=⟨by rw [iR]; omega,λ j hj=>.pure (x9 _ _ ti.size hzl Pt j (by rw [iR] at hj; omega))⟩;obtain ⟨cs',cells',r',q1,q2,q3⟩:=Tq hpl parts.toList _ _ _ _ hx hrep h2;obtain ⟨rfl,rfl⟩:=q1.eZ;refine fC.dY (x:=.agg cells') hR ?_ (.agg q3.1 q3.2);have e1:(parts.map λ (p:Nat×Operand)=>(p.1,a.eval p.2)).toList=parts.toList.map λ p=>(p.1,a.eval p.2):=by simp
  have e2:=fP (w:=w) hie;rw [ak6] at e2;simp only [execOp,ho,Instr.build,Sem.run_bind,zeroValue,typeInfo,program,Sem.run,hi,hz,Sem.run_pure,Result.andThen_ok,bN hu,e2,e1,q2]
 ·exact (fD.aZ h1).elim
end
end Go.Ab
namespace Go.Ab
section
variable {P:Program} {cfg:uT} {cx:Ctx} {H:Nat→Option dP} {D:Nat→Prop} {w:World} {I:Nat→Prop} {O:OM} {Sp:ny}
variable {dN:Nat} {o:Oper} {a:Act} {ρ:Operand→AV} {v:AV} {ups:jW} {r:List Nat}
theorem EK {ti:Mh} (h:zok ti=true):0<ti.size∧(ti.agg=false→ti.size=1):=by
 unfold zok at h;cases h0:Nat.blt 0 ti.size with
 | false=>simp [h0] at h
 | true=>
  simp only [h0] at h;refine ⟨by simpa using h0,λ ha=>?_⟩;simp only [ha] at h;exact Nat.eq_of_beq_eq_true h
theorem agu (z:ZK):(ofZ z).cells=[ofZ z]:=by cases z<;>rfl
theorem zV {ti:Mh} (hz:zok ti=true) (hl:ti.zero.length=ti.size):(zeroOf ti).cells=xW ti.zero:=by
 obtain ⟨h0,h1⟩:=EK hz;unfold zeroOf;cases ha:ti.agg with
 | true=>rfl
 | false=>
  have:=h1 ha;match hzz:ti.zero,hl with
  | [z],_=>simp only [xW,nth]; exact agu z
  | [],hl=>simp at hl; omega
  | _::_::_,hl=>simp at hl; omega
theorem rQ (z:Array Value) (len i j size:Nat) (hs:z.size=size) (hi:i<len) (hj:j<size):((Array.range (len*size)).map (λ k=>z[k % z.size]!)).getD (i*size+j) Go.undef=z.getD j Go.undef:=by
 have hlt:i*size+j<len*size:=by
  have:(i+1)*size≤len*size:=Nat.mul_le_mul_right _ hi;rw [Nat.succ_mul] at this;omega
 have hm:(i*size+j) % size=j:=by
  rw [Nat.mul_comm,Nat.mul_add_mod];exact Nat.mod_eq_of_lt hj
 have hjz:j<z.size:=by omega
 simp [hlt,hs,hm,getElem!_pos z j hjz,Array.getElem?_eq_getElem hjz]
variable {size:Nat}
theorem xK {z:Array Value} {n:Nat} (hs:z.size=size) (h1:∀j,j<size→(z.getD j Go.undef).oneCell'=true):∀j,j<(Builtin.zeroCells z n).size→((Builtin.zeroCells z n).getD j Go.undef).oneCell'=true:=λ j hj=>by
 have hlt:j<n*size:=by
  unfold Builtin.zeroCells at hj;simp at hj;rwa [hs] at hj
 rcases Nat.eq_zero_or_pos size with h0 | h0
 ·rw [h0,Nat.mul_zero] at hlt; exact absurd hlt (Nat.not_lt_zero _)
 ·have q1:j / size<n:=Nat.div_lt_of_lt_mul (by rw [Nat.mul_comm]; exact hlt);have q2:j % size<size:=Nat.mod_lt _ h0;have e:=rQ z n (j / size) (j % size) size hs q1 q2;rw [Nat.div_add_mod'] at e;unfold Builtin.zeroCells;rw [hs];rw [hs] at e;rw [e];exact h1 _ q2
def Gu (w:World) (I:Nat→Prop) (size len:Nat) (g:Nat→AV) (cells:Array Value):Prop:=cells.size=len*size∧∀i,i<len→(g i).cells.length=size∧∀j,j<size→ig w I (nth (g i).cells j) (cells.getD (i*size+j) Go.undef)∧(cells.getD (i*size+j) Go.undef).oneCell'=true
theorem Gu.obj {len:Nat} {g:Nat→AV} {cells:Array Value} {e:TypeId} {O':OM} {D':Nat→Prop} {p:Own} (hI:∀b,I b→b<w.heap.size) (h:Gu w I size len g cells) (hp:p=⟨size,len,some (w.heap.size,0,cells.size)⟩):
  iK (w.alloc (.cells cells e)) I O' D' p (.row size len g):=by
 subst hp;obtain ⟨h1,h2⟩:=h;have hone:∀j,j<cells.size→(cells.getD j Go.undef).oneCell'=true:=λ j hj=>by
  rcases Nat.eq_zero_or_pos size with h0 | h0
  ·rw [h1,h0,Nat.mul_zero] at hj; exact absurd hj (Nat.not_lt_zero _)
  ·have q1:j / size<len:=Nat.div_lt_of_lt_mul (by rw [Nat.mul_comm,← h1]; exact hj);have:=((h2 _ q1).2 (j % size) (Nat.mod_lt _ h0)).2;rwa [Nat.div_add_mod'] at this
 refine ⟨rfl,rfl,λ i hi=>(h2 i hi).1,.inr ⟨_,_,_,rfl,qC _ _ hone,by omega,λ i j hi hj=>?_⟩⟩;rw [Nat.zero_add,mD];exact ⟨((h2 i hi).2 j hj).1.mono (λ _ h=>h) (λ b hb=>jG _ (hI b hb)),((h2 i hi).2 j hj).2⟩
theorem aif (n i:Nat) (z:AV) (h:i<n):nth (agi n z) i=z:=by
 induction n generalizing i with
 | zero=>cases h
 | succ n ih=>cases i with
  | zero=>rfl
  | succ i=>exact ih i om
theorem abS (n:Nat) (z:AV):(agi n z).length=n:=by
 induction n with
 | zero=>rfl
 | succ n ih=>simp [agi,ih]
theorem Yh (l:List AV) (i:Nat) (v:AV):(DZ i v l).length=l.length:=by
 induction l generalizing i with
 | nil=>simp [DZ]
 | cons x l ih=>cases i<;>simp [DZ,ih]
theorem adZ (l:List AV) (i:Nat) (v:AV) (h:i<l.length) (k:Nat):nth (DZ i v l) k=if k=i then v else nth l k:=by
 induction l generalizing i k with
 | nil=>cases h
 | cons x l ih=>
  cases i with
  | zero=>cases k<;>simp [DZ,nth]
  | succ i=>cases k with
   | zero=>simp [DZ,nth]
   | succ k=>simp [DZ,nth,ih i (by simpa using h) k]
theorem CW {u:AV} {x:Value} (h:dZ w I (λ _=>none) (λ _=>False) u x):ig w I u x:=by
 induction h with
 | pure h=>exact h
 | ptr ho=>cases ho
 | dF ho=>cases ho
 | mref ho=>cases ho
 | xY _ hd=>exact hd.elim
 | xZ _ hd=>exact hd.elim
 | uU _ hd=>exact hd.elim
 | agg hl _ ih=>exact .agg hl ih
 | fn hl _ ih=>exact .fn hl ih
 | jM hl _ ih=>exact .jM hl ih
theorem abT {size len:Nat} {agg:Bool}:∀(ps:List (Nat×AV)) (vals:List (Nat×Value)) (es:List AV) (cells:Array Value) (k:List AV→Pg) (r:List Nat),vals.map (·.1)=ps.map (·.1)→
  (∀(j:Nat) (u:Nat×AV) (x:Nat×Value),ps[j]? = some u→vals[j]? = some x→ig w I u.2 x.2)→es.length=len→Gu w I size len (nth es) cells→fD Sp H (ae8 size agg ps es k) v ups r→
   ∃es' cells' r',fD Sp H (k es') v ups r'∧Instr.fill (λ i=>some (i*size,size)) cells vals=some cells'∧Gu w I size len (nth es') cells':=by
 intro ps;induction ps with
 | nil=>
  intro vals es cells k r hv _ _ hrep h;have:vals=[]:=by simpa using hv
  subst this;exact ⟨es,cells,r,h,rfl,hrep⟩
 | cons p ps ih=>
  intro vals es cells k r hv hx hl hrep h;cases vals with
  | nil=>simp at hv
  | cons x vals=>
   simp only [List.map_cons,List.cons.injEq] at hv;obtain ⟨i,u⟩:=p;obtain ⟨i',xv⟩:=x;simp only at hv;obtain ⟨rfl,hv⟩:=hv;simp only [ae8] at h;obtain ⟨_,h1⟩:=h.bP;obtain ⟨hk,h2⟩:=h1.Az;obtain ⟨hsz,h3⟩:=h2.bP;obtain ⟨hlt,h4⟩:=h3.bP;have hsz:u.cells.length=size:=Nat.eq_of_beq_eq_true hsz;have hlt:i'<es.length:=by simpa using hlt
   have hu:ig w I u xv:=hx 0 (i',u) (i',xv) rfl rfl;have hur:dZ w I (λ _=>none) (λ _=>False) u xv:=.pure hu;obtain ⟨hcl,hcs⟩:=hur.cells hk;obtain ⟨r1,r2⟩:=hrep;have hmul:(i'+1)*size≤len*size:=Nat.mul_le_mul_right _ om;rw [Nat.succ_mul] at hmul;obtain ⟨s1,s2⟩:=V4 cells (i'*size) xv.cells om;have aib:Gu w I size len (nth (DZ i' u es)) (setAt cells (i'*size) xv.cells):=by
    refine ⟨by omega,λ j hj=>?_⟩;rw [adZ es i' u hlt];by_cases hji:j=i'
    ·subst hji;rw [if_pos rfl];refine ⟨hsz,λ q hq=>?_⟩;rw [s2,if_pos om,Nat.add_sub_cancel_left];exact ⟨CW (hcs q om).1,(hcs q om).2⟩
    ·rw [if_neg hji];refine ⟨(r2 j hj).1,λ q hq=>?_⟩;have hne:¬ (i'*size≤j*size+q∧j*size+q<i'*size+xv.cells.size):=by
      rcases Nat.lt_or_gt_of_ne hji with hlt' | hgt
      ·have:(j+1)*size≤i'*size:=Nat.mul_le_mul_right _ om;rw [Nat.succ_mul] at this;omega
      ·have:(i'+1)*size≤j*size:=Nat.mul_le_mul_right _ om;rw [Nat.succ_mul] at this;omega
     rw [s2,if_neg hne];exact (r2 j hj).2 q hq
   obtain ⟨es',cells',r',q1,q2,q3⟩:=ih vals _ _ k r hv (λ j u x hj hj'=>hx (j+1) u x (by simpa using hj) (by simpa using hj')) (by rw [Yh]; exact hl) aib h4;refine ⟨es',cells',r',q1,?_,q3⟩;rw [Y6 _ cells i' xv vals (i'*size) size rfl om om];exact q2
theorem V6 (hR:Rel cfg cx H D w I O):∀(parts:List (Nat×Operand)) (k:List (Nat×AV)→List Nat→Pg) (r:List Nat),(∀p∈parts,dZ w I O D (ρ p.2) (a.eval p.2))→fD Sp H (Pj (parts.map λ p=>(p.1,ρ p.2)) k) v ups r→
  ∃ps ids r',fD Sp H (k ps ids) v ups r'∧(parts.map λ p=>(p.1,a.eval p.2)).map (·.1)=ps.map (·.1)∧
   ∀(j:Nat) (u:Nat×AV) (x:Nat×Value),ps[j]? = some u→(parts.map λ p=>(p.1,a.eval p.2))[j]? = some x→ig w (λ b=>I b∨Cr O ids b) u.2 x.2:=by
 intro parts;induction parts with
 | nil=>intro k r _ h; exact ⟨[],[],r,h,rfl,λ j u x hu=>by simp at hu⟩
 | cons p parts ih=>
  intro k r hx h;simp only [List.map_cons,Pj] at h;obtain ⟨u,i1,r1,h1,h2⟩:=(EJ hR fuel).1 _ _ _ _ _ h;obtain ⟨ps,i2,r2,h3,h4,h5⟩:=ih _ _ (λ p hp=>hx p (List.mem_cons_of_mem _ hp)) h1;refine ⟨(p.1,u)::ps,i1++i2,r2,h3,by simpa using h4,λ j u' x' hu' hx'=>?_⟩;cases j with
  | zero=>
   simp at hu' hx';subst hu'; subst hx';exact (h2 _ (hx p (by simp))).mono (λ b h=>h.elim .inl λ h=>.inr h.adW) (λ _ _=>rfl)
  | succ j=>
   exact (h5 j u' x' (by simpa using hu') (by simpa using hx')).mono (λ b h=>h.elim .inl λ h=>.inr h.adX) (λ _ _=>rfl)
theorem Yi (hc:gL P cfg) (hR:Rel cfg cx H D w I O) (hn:¬ D dN) {t:TypeId} {len:Nat} {parts:Array (Nat×Operand)} (ho:o.op=.buildSlice t len parts) (hx:∀p∈parts.toList,dZ w I O D (ρ p.2) (a.eval p.2))
  (h:fD Sp H (gD cfg dN (.buildSlice t len parts) ρ) v ups r):fC P cfg cx H D w I O dN o a v ups:=by
 simp only [gD] at h;obtain ⟨tt,e,ti,h1,h2,h3,h4⟩:=h.nY;obtain ⟨hz,h5⟩:=h4.bP;obtain ⟨hle,h6⟩:=h5.bP;have hle:len*ti.size≤4096:=Nat.le_of_ble_eq_true hle;obtain ⟨z0,z1⟩:=EK hz;obtain ⟨hu,i,z,hi,hiz,hs,hby,hzs⟩:=hc.slice h1 h2 h3;obtain ⟨i',_,z',hi',_,J2,_,_,_,_,hzl,Pt,_⟩:=(hc.ty e ti h3).ex;rw [hi] at hi'; cases hi';rw [hiz] at J2; cases J2;obtain ⟨ps,ids,r1,h7,h8,h9⟩:=V6 hR parts.toList _ _ hx h6;have hzero:Gu w (λ b=>I b∨Cr O ids b) ti.size len (nth (agi len (zeroOf ti))) ((Array.range (len*ti.size)).map (λ k=>z.cells[k % z.cells.size]!)):=by
  refine ⟨by simp,λ j hj=>?_⟩;rw [aif _ _ _ hj,zV hz hzl];refine ⟨by rw [iR]; exact hzl,λ q hq=>?_⟩;rw [rQ z.cells len j q ti.size hzs hj hq];exact ⟨x9 _ _ ti.size hzl Pt q hq,rP _ _ ti.size Pt q hq⟩
 obtain ⟨es',cells',r2,q1,q2,q3⟩:=abT ps _ _ _ _ _ h8 h9 (abS _ _) hzero h7;obtain ⟨rfl,rfl⟩:=q1.jY;refine fC.RD (p:=⟨ti.size,len,some (w.heap.size,0,cells'.size)⟩) (c:=cells') (e:=e) (x:=.slice (some ⟨w.heap.size,0,none⟩) len len) hR hn ids ?_ rfl (Gu.obj (hR.freeze ids).yT q3 rfl) ?_
 ·have e1:(parts.map λ (p:Nat×Operand)=>(p.1,a.eval p.2)).toList=parts.toList.map λ p=>(p.1,a.eval p.2):=by simp
  have hno:¬ len*ti.size > 2 ^ 24:=by omega
  by_cases h0:len*ti.size=0
  ·have hcell:cells'=#[]:=by
    have:=q3.1;rw [h0] at this;exact Array.eq_empty_of_size_eq_zero this
   have hf:Instr.fill (λ i=>some (i*ti.size,ti.size)) ((Array.range (len*ti.size)).map (λ k=>(#[]:Array Value)[k % (#[]:Array Value).size]!)) (parts.toList.map λ p=>(p.1,a.eval p.2))=some cells':=by
    have e0:∀f:Nat→Value,(Array.range (len*ti.size)).map f=#[]:=λ f=>Array.eq_empty_of_size_eq_zero (by simp [h0]);rw [e0] at q2 ⊢;exact q2
   simp only [execOp,ho,Instr.buildSlice,Sem.run_bind,bN hu,fP hi,hs,if_neg hno,if_pos h0,Sem.run_pure,e1,hf,newRow,newObj,Sem.run,Result.andThen];rfl
  ·simp only [execOp,ho,Instr.buildSlice,Sem.run_bind,bN hu,fP hi,hs,if_neg hno,if_neg h0,zeroValue,typeInfo,program,Sem.run,hi,hiz,Sem.run_pure,e1,q2,newRow,newObj,Result.andThen];rfl
 ·intro I' O' D' hO;refine .dF hO (by simp) (Nat.le_refl _) (λ _=>rfl) (λ _=>⟨_,_,_,rfl,by simp,?_⟩) (by simp);have:=q3.1;simp [this]
theorem afp {m b:Nat} (h:m*b≤140737488355328):¬ ((b:Int)*(m:Int) > 2 ^ 48):=by
 have e:(2:Int) ^ 48=((281474976710656:Nat):Int):=by decide
 rw [e,← Int.natCast_mul,Nat.mul_comm];omega
theorem Z8 (hc:gL P cfg) (hR:Rel cfg cx H D w I O) (hn:¬ D dN) {t:TypeId} {l c:Operand} (ho:o.op=.makeSlice t l c) (hx:dZ w I O D (ρ l) (a.eval l)) (hxc:dZ w I O D (ρ c) (a.eval c))
  (h:fD Sp H (gD cfg dN (.makeSlice t l c) ρ) v ups r):fC P cfg cx H D w I O dN o a v ups:=by
 simp only [gD] at h;obtain ⟨tt,e,ti,h1,h2,h3,h4⟩:=h.nY;split at h4
 ·rename_i k n en;rw [en] at hx;have hlv:=hx.iD;cases hsame:CU (some l) (some c) with
  | false=>
   simp only [hsame] at h4;split at h4
   ·rename_i k2 nc enc;rw [enc] at hxc;have hcv:=hxc.iD;obtain ⟨hb0,h6⟩:=h4.bP;obtain ⟨hz,h7⟩:=h6.bP;obtain ⟨⟨arv,hn0,hbig⟩,h8⟩:=h7.uX;obtain ⟨rfl,rfl⟩:=h8.jY;subst arv;have hb0:0<ti.bytes:=by simpa using hb0
    obtain ⟨z0,z1⟩:=EK hz;obtain ⟨hu,i,z,hi,hiz,hs,hby,hzs⟩:=hc.slice h1 h2 h3;obtain ⟨i',_,z',hi',_,J2,_,_,_,_,hzl,Pt,_⟩:=(hc.ty e ti h3).ex;rw [hi] at hi'; cases hi';rw [hiz] at J2; cases J2;obtain ⟨m,rfl⟩:=Int.eq_ofNat_of_zero_le hn0;have hbig':m*ti.bytes≤140737488355328:=by
     have:((m*ti.bytes:Nat):Int)≤((140737488355328:Nat):Int):=by simpa [big] using hbig
     exact_mod_cast this
    have arw:m≤140737488355328:=Nat.le_trans (Nat.le_mul_of_pos_right _ hb0) hbig';have hw:IntKind.i64.wrap (m:Int)=m:=wrap_i64 ⟨by omega,by omega⟩;have hw0:IntKind.i64.wrap (0:Int)=0:=wrap_i64 ⟨by omega,by omega⟩;refine fC.RD (p:=⟨ti.size,0,some (w.heap.size,0,((Array.range (m*ti.size)).map (λ k=>z.cells[k % z.cells.size]!)).size)⟩) (c:=(Array.range (m*ti.size)).map (λ k=>z.cells[k % z.cells.size]!)) (e:=e) (x:=.slice (some ⟨w.heap.size,0,none⟩) 0 m) hR hn [] ?_ rfl ⟨rfl,rfl,λ _ h=>absurd h (Nat.not_lt_zero _),.inr ⟨_,_,_,rfl,qC _ _ (by have:=xK (n:=m) hzs (rP _ _ ti.size Pt); unfold Builtin.zeroCells at this; rw [hzs] at this ⊢; exact this),by omega,λ _ _ h=>absurd h (Nat.not_lt_zero _)⟩⟩ ?_
    ·have hge:¬ ((m:Int)<0):=by omega
     have hb2:¬ ((ti.bytes:Int)*(m:Int) > 2 ^ 48):=afp hbig';have hroom:(askRoom (m*ti.bytes)).run P w=.ok () w:=by
      unfold askRoom;by_cases h:m*ti.bytes > roomBytes
      ·rw [if_pos h]; rfl
      ·rw [if_neg h]; rfl
     have hcond:(decide ((m:Int)<0)||decide ((ti.bytes:Int)*(m:Int) > 2 ^ 48)||decide ((0:Int)<0)||decide ((0:Int) > (m:Int)))=false:=by
      rw [decide_eq_false hge,decide_eq_false hb2]; first | rfl | simp
     clear h1 h2 h3 h4 h6 h7 h8 Pt hR hc hbig;by_cases h0:m*ti.size=0
     ·have e0:∀f:Nat→Value,(Array.range (m*ti.size)).map f=#[]:=λ f=>Array.eq_empty_of_size_eq_zero (by simp [h0]);simp only [execOp,ho,hlv,hcv,Instr.makeSlice,Sem.run_bind,bN hu,Result.andThen,asInt,asIntOf,Sem.run_pure,typeInfo,program,Sem.run,hi,hw,hw0,hby,Int.toNat_natCast,hcond,Bool.false_eq_true,if_false,hroom,fP hi,hs,if_pos h0,e0,newRow,newObj];rfl
     ·simp only [execOp,ho,hlv,hcv,Instr.makeSlice,Sem.run_bind,bN hu,Result.andThen,asInt,asIntOf,Sem.run_pure,typeInfo,program,Sem.run,hi,hw,hw0,hby,Int.toNat_natCast,hcond,Bool.false_eq_true,if_false,hroom,fP hi,hs,if_neg h0,zeroValue,hiz,newRow,newObj];rfl
    ·intro I' O' D' hO;refine .dF hO (by simp) (Nat.zero_le _) (λ h=>by cases h) (λ _=>⟨_,_,_,rfl,by simp,?_⟩) (by simp);simp
   ·exact (fD.aZ h4).elim
  | true=>
  simp only [hsame] at h4;obtain ⟨hb0,h6⟩:=h4.bP;obtain ⟨hz,h7⟩:=h6.bP;obtain ⟨⟨hn0,hbig⟩,h8⟩:=h7.uX;obtain ⟨rfl,rfl⟩:=h8.jY;have hcl:c=l:=by have:=RA hsame; simpa using this.symm
  subst hcl;have hb0:0<ti.bytes:=by simpa using hb0
  obtain ⟨z0,z1⟩:=EK hz;obtain ⟨hu,i,z,hi,hiz,hs,hby,hzs⟩:=hc.slice h1 h2 h3;obtain ⟨i',_,z',hi',_,J2,_,_,_,_,hzl,Pt,_⟩:=(hc.ty e ti h3).ex;rw [hi] at hi'; cases hi';rw [hiz] at J2; cases J2;obtain ⟨m,rfl⟩:=Int.eq_ofNat_of_zero_le hn0;have hbig':m*ti.bytes≤140737488355328:=by
   have:((m*ti.bytes:Nat):Int)≤((140737488355328:Nat):Int):=by simpa [big] using hbig
   exact_mod_cast this
  have arw:m≤140737488355328:=Nat.le_trans (Nat.le_mul_of_pos_right _ hb0) hbig';have hw:IntKind.i64.wrap (m:Int)=m:=wrap_i64 ⟨by omega,by omega⟩;have hcells:Gu w (λ b=>I b∨Cr O [] b) ti.size m (λ _=>zeroOf ti) ((Array.range (m*ti.size)).map (λ k=>z.cells[k % z.cells.size]!)):=by
   refine ⟨by simp,λ j hj=>?_⟩;rw [zV hz hzl];refine ⟨by rw [iR]; exact hzl,λ q hq=>?_⟩;rw [rQ z.cells m j q ti.size hzs hj hq];exact ⟨x9 _ _ ti.size hzl Pt q hq,rP _ _ ti.size Pt q hq⟩
  have e2:((m:Int)).toNat=m:=by simp
  rw [e2];have hlen:=hcells.1;refine fC.RD (p:=⟨ti.size,m,some (w.heap.size,0,((Array.range (m*ti.size)).map (λ k=>z.cells[k % z.cells.size]!)).size)⟩) (c:=(Array.range (m*ti.size)).map (λ k=>z.cells[k % z.cells.size]!)) (e:=e) (x:=.slice (some ⟨w.heap.size,0,none⟩) m m) hR hn [] ?_ rfl (Gu.obj (hR.freeze []).yT hcells rfl) ?_
  ·have hge:¬ ((m:Int)<0):=by omega
   have hb2:¬ ((ti.bytes:Int)*(m:Int) > 2 ^ 48):=afp hbig';have hroom:(askRoom (m*ti.bytes)).run P w=.ok () w:=by
    unfold askRoom;by_cases h:m*ti.bytes > roomBytes
    ·rw [if_pos h]; rfl
    ·rw [if_neg h]; rfl
   have hcond:(decide ((m:Int)<0)||decide ((ti.bytes:Int)*(m:Int) > 2 ^ 48)||decide ((m:Int)<0)||decide ((m:Int) > (m:Int)))=false:=by
    rw [decide_eq_false hge,decide_eq_false hb2,decide_eq_false (Int.lt_irrefl _)]; rfl
   clear h1 h2 h3 h4 h6 h7 h8 Pt hR hc hcells hlen hbig;by_cases h0:m*ti.size=0
   ·have e0:∀f:Nat→Value,(Array.range (m*ti.size)).map f=#[]:=λ f=>Array.eq_empty_of_size_eq_zero (by simp [h0]);simp only [execOp,ho,hlv,Instr.makeSlice,Sem.run_bind,bN hu,Result.andThen,asInt,asIntOf,Sem.run_pure,typeInfo,program,Sem.run,hi,hw,hby,Int.toNat_natCast,hcond,Bool.false_eq_true,if_false,hroom,fP hi,hs,if_pos h0,e0,newRow,newObj];rfl
   ·simp only [execOp,ho,hlv,Instr.makeSlice,Sem.run_bind,bN hu,Result.andThen,asInt,asIntOf,Sem.run_pure,typeInfo,program,Sem.run,hi,hw,hby,Int.toNat_natCast,hcond,Bool.false_eq_true,if_false,hroom,fP hi,hs,if_neg h0,zeroValue,hiz,newRow,newObj];rfl
  ·intro I' O' D' hO;refine .dF hO (by simp) (Nat.le_refl _) (λ _=>rfl) (λ _=>⟨_,_,_,rfl,by simp,?_⟩) (by simp);simp
 ·exact (fD.aZ h4).elim
end
end Go.Ab
namespace Go.Ab
section
variable {P:Program} {cfg:uT} {cx:Ctx} {H:Nat→Option dP} {D:Nat→Prop} {w:World} {I:Nat→Prop} {O:OM} {Sp:ny}
variable {dN:Nat} {o:Oper} {a:Act} {ρ:Operand→AV} {v:AV} {ups:jW} {r:List Nat}
variable {w':World}
theorem Rel.Gv (h:w'.heap=w.heap) (he:iC w' w) (hR:Rel cfg cx H D w I O):Rel cfg cx H D w' I O:=
 { hR with
  objs:=λ o ob p h1 h2=>(hR.objs o ob p h1 h2).mono (λ _ h=>h) (λ _ _=>by rw [h]) (λ _ _=>.inl rfl) (λ _ h=>h) hR.used (λ _ _ _ _=>by rw [h])
  lt:=λ o p b bo sz h1 h2=>by rw [h]; exact hR.lt o p b bo sz h1 h2
  yT:=λ b hb=>by rw [h]; exact hR.yT b hb
  size:=by rw [h]; exact hR.size
  frame:=λ b h1 h2=>by rw [h]; exact hR.frame b h1 h2
  env:=hR.env.step he
  glob:=λ g cs hg=>(hR.glob g cs hg).mono (λ _ h=>h) (λ _ _=>by rw [h]) }
theorem dZ.Gv (h:w'.heap=w.heap) (hR:Rel cfg cx H D w I O) {v:AV} {x:Value} (hx:dZ w I O D v x):dZ w' I O D v x:=
 hx.mono (λ _ h=>h) (λ _ _=>by rw [h]) (λ _ _=>.inl rfl) (λ _ h=>h) hR.used
theorem Rel.drop (hR:Rel cfg cx H D w I O) (ids:List Nat):Rel cfg cx (lI H (dead ids)) D w I (kill O ids):=by
 have hF:=hR.freeze ids;exact { hF with
  objs:=λ o ob p h h'=>by
   rw [Mq] at h; unfold kill at h'
   by_cases h0:o∈ids<;>simp [h0] at h h'
   exact (hR.objs o ob p h h').mono (λ _ h=>h) (λ _ _=>rfl) (λ o _=>by unfold kill; by_cases h0:o∈ids<;>simp [h0]) (λ _ h=>h) hR.used (λ _ _ _ _=>rfl)
  nL:=λ o p b bo sz h1 h2 h3=>hF.nL o p b bo sz h1 h2 (.inl h3)
  yT:=hR.yT
  glob:=hR.glob
  O9:=hR.O9
  Rw:=hR.Rw }
theorem dZ.drop (hR:Rel cfg cx H D w I O) (ids:List Nat) {v:AV} {x:Value} (h:dZ w I O D v x):dZ w I (Ab.kill O ids) D v x:=
 h.mono (λ _ h=>h) (λ _ _=>rfl) (λ o _=>by unfold Ab.kill; by_cases h0:o∈ids<;>simp [h0]) (λ _ h=>h) hR.used
variable {b:Nat} {bo:Nat} {sz:Nat}
theorem Rel.place (hR:Rel cfg cx H D w I O) (hn:¬ D dN) (he:iC w' w) (ob:dP) (p:Own) (hp:p.pl=some (b,bo,sz)) (hb:∀b',b'≠b→w'.heap[b']? = w.heap[b']?) (hs:w'.heap.size=w.heap.size)
  (hlt:b<w.heap.size) (hnew:cx.w0.heap.size≤b∨cx.M b) (hnI:¬ I b) (hfree:∀o p b' ni sz',O o=some p→p.pl=some (b',ni,sz')→b'≠b)
  (nk:iK w' I (kP O dN p) (AY D dN) p ob) (hnm:∀kd z f,ob≠.map kd z f:=by intro _ _ _ h; cases h):Rel cfg cx (lI H [(dN,some ob)]) (AY D dN) w' I (kP O dN p):=by
 have hH:∀o,lI H [(dN,some ob)] o=if o=dN then some ob else H o:=by
  intro o;simp only [lI,look];cases hb:Nat.beq dN o with
  | true=>have:=Nat.eq_of_beq_eq_true hb; subst this; simp
  | false=>
   have:o≠dN:=λ e=>by subst e; simp at hb
   simp [this]
 have old:∀ {o p'},o≠dN→kP O dN p o=some p'→O o=some p':=λ hne h=>by unfold kP at h; rwa [if_neg hne] at h
 have RF:∀b',I b'→w'.heap[b']? = w.heap[b']? := λ b' h=>hb b' (λ e=>hnI (e ▸ h));exact {
  dom:=λ o=>by
   rw [hH]; unfold kP
   by_cases h:o=dN
   ·simp [h]
   ·simp [h,hR.dom o]
  used:=λ o p' h=>by
   by_cases hne:o=dN
   ·exact Rx hne
   ·exact .inl (hR.used o p' (old hne h))
  objs:=λ o ob' p' h h'=>by
   by_cases hne:o=dN
   ·subst hne
    rw [hH,if_pos rfl] at h
    unfold kP at h'
    rw [if_pos rfl] at h'
    cases h; cases h'
    exact nk
   ·rw [hH,if_neg hne] at h
    have h'':=old hne h'
    exact (hR.objs o ob' p' h h'').mono (λ _ h=>h) RF (λ _ ho=>.inl (JZ hn ho)) (λ _ h=>.inl h) hR.used (λ b' ni sz' hpl=>hb b' (hfree o p' b' ni sz' h'' hpl))
  inj:=λ o o' p1 p2 b1 Pb Pd b2 bo2 sz2 h1 h2 h3 h4 h5=>by
   by_cases e1:o=dN
   ·by_cases e2:o'=dN
    ·exact absurd (e1.trans e2.symm) h5
    ·unfold kP at h1
     rw [if_pos e1] at h1
     cases h1
     rw [hp] at h3
     cases h3
     exact λ e=>hfree o' p2 b2 bo2 sz2 (old e2 h2) h4 e.symm
   ·by_cases e2:o'=dN
    ·unfold kP at h2
     rw [if_pos e2] at h2
     cases h2
     rw [hp] at h4
     cases h4
     exact hfree o p1 b1 Pb Pd (old e1 h1) h3
    ·exact hR.inj o o' p1 p2 b1 Pb Pd b2 bo2 sz2 (old e1 h1) (old e2 h2) h3 h4 h5
  nL:=λ o p1 b1 Pb Pd h1 h2 h3=>by
   by_cases e1:o=dN
   ·unfold kP at h1
    rw [if_pos e1] at h1
    cases h1
    rw [hp] at h2
    cases h2
    exact hnI h3
   ·exact hR.nL o p1 b1 Pb Pd (old e1 h1) h2 h3
  lt:=λ o p1 b1 Pb Pd h1 h2=>by
   by_cases e1:o=dN
   ·unfold kP at h1
    rw [if_pos e1] at h1
    cases h1
    rw [hp] at h2
    cases h2
    omega
   ·have:=hR.lt o p1 b1 Pb Pd (old e1 h1) h2
    omega
  yT:=λ b' h=>by rw [hs]; exact hR.yT b' h
  size:=by rw [hs]; exact hR.size
  env:=hR.env.step he
  frame:=λ b' h1 h2=>by
   rw [hb b' (λ e=>by subst e; rcases hnew with h | h; omega; exact h2 h)]
   exact hR.frame b' h1 h2
  new:=λ o p1 b1 Pb Pd h1 h2=>by
   by_cases e1:o=dN
   ·unfold kP at h1
    rw [if_pos e1] at h1
    cases h1
    rw [hp] at h2
    cases h2
    exact hnew
   ·exact hR.new o p1 b1 Pb Pd (old e1 h1) h2
  glob:=λ g cs h=>(hR.glob g cs h).mono (λ _ h=>h) RF
  O9:=hR.O9
  Rw:=hR.Rw
  Vt:=λ o h=>by
   have hne:o≠dN:=λ e=>hn (e ▸ hR.Dm o h)
   unfold kP
   rw [if_neg hne]
   exact hR.Vt o h
  Dm:=λ o h=>.inl (hR.Dm o h) }
theorem dZ.place (hR:Rel cfg cx H D w I O) (hn:¬ D dN) {p:Own} (hb:∀b',I b'→w'.heap[b']? = w.heap[b']?) {v:AV} {x:Value} (h:dZ w I O D v x):dZ w' I (kP O dN p) (AY D dN) v x:=
 h.mono (λ _ h=>h) hb (λ _ ho=>.inl (JZ hn ho)) (λ _ h=>.inl h) hR.used
theorem Rel.empty (hR:Rel cfg cx H D w I O) (hn:¬ D dN) (es:Nat) (g:Nat→AV):Rel cfg cx (lI H [(dN,some (.row es 0 g))]) (AY D dN) w I (kP O dN ⟨es,0,none⟩):=by
 have hH:∀o,lI H [(dN,some (.row es 0 g))] o=if o=dN then some (.row es 0 g) else H o:=by
  intro o;simp only [lI,look];cases hb:Nat.beq dN o with
  | true=>have:=Nat.eq_of_beq_eq_true hb; subst this; simp
  | false=>
   have:o≠dN:=λ e=>by subst e; simp at hb
   simp [this]
 have old:∀ {o p' b bo sz},kP O dN ⟨es,0,none⟩ o=some p'→p'.pl=some (b,bo,sz)→O o=some p':=λ h h'=>by
  unfold kP at h;split at h
  ·cases h; cases h'
  ·exact h
 exact {
  dom:=λ o=>by
   rw [hH]; unfold kP
   by_cases h:o=dN
   ·simp [h]
   ·simp [h,hR.dom o]
  used:=λ o p' h=>by
   by_cases hne:o=dN
   ·exact Rx hne
   ·unfold kP at h
    rw [if_neg hne] at h
    exact .inl (hR.used o p' h)
  objs:=λ o ob' p' h h'=>by
   by_cases hne:o=dN
   ·subst hne
    rw [hH,if_pos rfl] at h
    unfold kP at h'
    rw [if_pos rfl] at h'
    cases h; cases h'
    exact ⟨rfl,rfl,λ i hi=>absurd hi om,.inl ⟨rfl,rfl⟩⟩
   ·rw [hH,if_neg hne] at h
    unfold kP at h'
    rw [if_neg hne] at h'
    exact (hR.objs o ob' p' h h').mono (λ _ h=>h) (λ _ _=>rfl) (λ _ ho=>.inl (JZ hn ho)) (λ _ h=>.inl h) hR.used (λ _ _ _ _=>rfl)
  inj:=λ o o' p1 p2 b1 Pb Pd b2 bo2 sz2 h1 h2 h3 h4 h5=>hR.inj o o' p1 p2 b1 Pb Pd b2 bo2 sz2 (old h1 h3) (old h2 h4) h3 h4 h5
  nL:=λ o p1 b1 Pb Pd h1 h2 h3=>hR.nL o p1 b1 Pb Pd (old h1 h2) h2 h3
  lt:=λ o p1 b1 Pb Pd h1 h2=>hR.lt o p1 b1 Pb Pd (old h1 h2) h2
  yT:=hR.yT
  size:=hR.size
  frame:=hR.frame
  env:=hR.env
  new:=λ o p1 b1 Pb Pd h1 h2=>hR.new o p1 b1 Pb Pd (old h1 h2) h2
  glob:=hR.glob
  O9:=hR.O9
  Rw:=hR.Rw
  Vt:=λ o h=>by
   have hne:o≠dN:=λ e=>hn (e ▸ hR.Dm o h)
   unfold kP
   rw [if_neg hne]
   exact hR.Vt o h
  Dm:=λ o h=>.inl (hR.Dm o h) }
theorem Rel.aii (hR:Rel cfg cx H D w I O) (he:EI cx w') {ob:Nat} {p:Own} (x:dP) (ho:O ob=some p) (hp:p.pl=some (b,bo,sz)) (hb:∀b',b'≠b→w'.heap[b']? = w.heap[b']?) (hs:w'.heap.size=w.heap.size)
  (nk:iK w' I O D p x):Rel cfg cx (lI H [(ob,some x)]) D w' I O:=by
 have hnI:=hR.nL ob p b bo sz ho hp;have RF:∀b',I b'→w'.heap[b']? = w.heap[b']? := λ b' h=>hb b' (λ e=>hnI (e ▸ h));have hH:∀o,lI H [(ob,some x)] o=if o=ob then some x else H o:=by
  intro o;simp only [lI,look];cases hb:Nat.beq ob o with
  | true=>have:=Nat.eq_of_beq_eq_true hb; subst this; simp
  | false=>
   have:o≠ob:=λ e=>by subst e; simp at hb
   simp [this]
 exact { hR with
  dom:=λ o=>by
   rw [hH]
   by_cases h:o=ob
   ·subst h; simp [ho]
   ·simp [h,hR.dom o]
  objs:=λ o ob' p' h h'=>by
   by_cases hne:o=ob
   ·subst hne
    rw [hH,if_pos rfl] at h
    rw [ho] at h'
    cases h; cases h'
    exact nk
   ·rw [hH,if_neg hne] at h
    exact (hR.objs o ob' p' h h').mono (λ _ h=>h) RF (λ _ _=>.inl rfl) (λ _ h=>h) hR.used (λ b' ni sz' hpl=>hb b' (hR.inj o ob p' p b' ni sz' b bo sz h' ho hpl hp hne))
  lt:=λ o p1 b1 Pb Pd h1 h2=>by rw [hs]; exact hR.lt o p1 b1 Pb Pd h1 h2
  yT:=λ b' h=>by rw [hs]; exact hR.yT b' h
  size:=by rw [hs]; exact hR.size
  env:=he
  frame:=λ b' h1 h2=>by
   rw [hb b' (λ e=>by subst e; rcases hR.new ob p b' bo sz ho hp with h | h; omega; exact h2 h)]
   exact hR.frame b' h1 h2
  glob:=λ g cs h=>(hR.glob g cs h).mono (λ _ h=>h) RF }
theorem Rel.write (hR:Rel cfg cx H D w I O) (he:iC w' w) {ob:Nat} {p:Own} (x:dP) (ho:O ob=some p) (hp:p.pl=some (b,bo,sz)) (hb:∀b',b'≠b→w'.heap[b']? = w.heap[b']?) (hs:w'.heap.size=w.heap.size)
  (nk:iK w' I O D p x) (hnm:∀kd z f,x≠.map kd z f:=by intro _ _ _ h; cases h):Rel cfg cx (lI H [(ob,some x)]) D w' I O:=
 hR.aii (hR.env.step he) x ho hp hb hs nk
theorem iC.setCell (w:World) (a:Addr) (v:Value):iC (w.setCell a v) w:=⟨rfl,rfl,rfl,λ i o hi ho=>by
 unfold World.setCell;simp only [Array.getElem?_modify];split
 ·rw [hi];cases o with
  | cells c t f=>cases ho
  | _=>rfl
 ·exact hi⟩
theorem nN (b:Nat):∀(vs:List Value) (off:Nat) (w:World),iC (w.setCells b off vs) w
 | [],_,w=>iC.refl w
 | v::r,off,w=>(nN b r (off+1) (w.setCell ⟨b,off,none⟩ v)).trans (iC.setCell w _ v)
theorem lZ (b:Nat):∀(vs:List Value) (off:Nat) (w:World),(w.setCells b off vs).heap.size=w.heap.size∧∀b',b'≠b→(w.setCells b off vs).heap[b']? = w.heap[b']?
 | [],_,_=>⟨rfl,λ _ _=>rfl⟩
 | v::r,off,w=>by
  obtain ⟨h1,h2⟩:=lZ b r (off+1) (w.setCell ⟨b,off,none⟩ v);have e1:(w.setCell ⟨b,off,none⟩ v).heap.size=w.heap.size:=by simp [World.setCell]
  refine ⟨by rw [World.setCells,h1,e1],λ b' hb=>?_⟩;rw [World.setCells,h2 b' hb];simp [World.setCell,Array.getElem?_modify,Ne.symm hb]
theorem Ig (b:Nat):∀(vs:List Value) (off:Nat) (w:World) (j:Nat),(w.setCells b off vs).frozen? ⟨b,j,none⟩=w.frozen? ⟨b,j,none⟩
 | [],_,_,_=>rfl
 | v::r,off,w,j=>by
  rw [World.setCells,Ig b r (off+1) _ j];unfold World.frozen? World.setCell;simp only [Array.getElem?_modify];cases hb:w.heap[b]? with
  | none=>simp
  | some ob=>cases ob<;>simp
theorem ko (h:Ic w b sz) (off:Nat) (vs:List Value) (hle:off+vs.length≤sz):Ic (w.setCells b off vs) b sz∧
  ∀j,j<sz→cellAt (w.setCells b off vs) b j=if off≤j∧j<off+vs.length then vs.getD (j - off) Go.undef else cellAt w b j:=by
 have hin:=World.cell?_setCells_in b vs off w (λ j hj=>(h (off+j) om).1);have key:∀j,j<sz→(w.setCells b off vs).cell? ⟨b,j,none⟩=some (if off≤j∧j<off+vs.length then vs.getD (j - off) Go.undef else cellAt w b j):=by
  intro j hj;by_cases hc:off≤j∧j<off+vs.length
  ·rw [if_pos hc];have:=hin (j - off) om;rw [show off+(j - off)=j by omega] at this;rw [this];simp [show j - off<vs.length by omega]
  ·rw [if_neg hc,World.cell?_setCells_out b vs off w ⟨b,j,none⟩ (λ _ _=>by simp; omega)];exact uh h hj
 refine ⟨λ j hj=>⟨by rw [key j hj]; rfl,by rw [Ig]; exact (h j hj).2⟩,λ j hj=>by rw [cellAt,key j hj]; rfl⟩
theorem nZ (h:uV w b bo sz) (off:Nat) (vs:List Value) (hle:off+vs.length≤sz) (h1:∀q,q<vs.length→(vs.getD q Go.undef).oneCell'=true):uV (w.setCells b off vs) b bo sz:=
 ⟨(ko h.al off vs hle).1,λ j hb hj=>by
  rw [(ko h.al off vs hle).2 j hj];split
  ·exact h1 _ om
  ·exact h.one j hb hj⟩
end
end Go.Ab
namespace Go.Ab
section
variable {P:Program} {cfg:uT} {cx:Ctx} {H:Nat→Option dP} {D:Nat→Prop} {w:World} {I:Nat→Prop} {O:OM} {Sp:ny}
variable {dN:Nat} {o:Oper} {a:Act} {ρ:Operand→AV} {v:AV} {ups:jW} {r:List Nat}
theorem run_store {t:TypeId} {i:TypeInfo} (hi:P.info? t=some i) {b off sz:Nat} (hal:Ic w b sz) (x:Value) (hs:x.cells.size=i.size) (hle:off+x.cells.size≤sz) (h1:∀j,j<x.cells.size→(x.cells.getD j Go.undef).oneCell'=true):
  (Instr.storeAt t (.pointer (some ⟨b,off,none⟩)) x).run P w=.ok () (w.setCells b off x.cells.toList):=by
 have:=run_storeCells_cells (P:=P) b off x.cells.toList 0 w (λ j hj=>(hal (off+0+j) (by simp at hj; omega)).1) (λ j hj=>(hal (off+0+j) (by simp at hj; omega)).2)
  (λ u hu=>by
    obtain ⟨j,hj,rfl⟩:=List.mem_iff_getElem.1 hu
    have hj':j<x.cells.size:=by simpa using hj
    simpa [hj'] using h1 j hj')
 rw [Nat.add_zero] at this;have hne:¬ x.cells.size≠i.size:=by omega
 simp only [Instr.storeAt,Instr.sureAddr,Sem.run_bind,Sem.run_pure,Result.andThen,storeVar,fP hi,if_neg hne,this]
theorem Pv {w':World} {next:Act→World→Prop} {Q:Exit→Act→World→Prop} (h:(execOp a.eval o).run P w=.ok .skip w') (hn:next (a.put o.dst Go.undef) w'):o.wp P a w next Q:=by
 unfold Oper.wp; rw [h]; exact hn
theorem wQ {x:Nat} {l:List Nat} (h:zS x l=false):x ∉ l:=by
 induction l with
 | nil=>simp
 | cons b l ih=>
  unfold zS at h;cases hb:Nat.beq x b with
  | true=>simp [hb] at h
  | false=>
   simp only [hb] at h;have hne:x≠b:=λ e=>by subst e; simp at hb
   simp [hne,ih h]
theorem aij (hc:gL P cfg) (hR:Rel cfg cx H D w I O) {t:TypeId} {x y:Operand} (ho:o.op=.store t x y) (hx:dZ w I O D (ρ x) (a.eval x)) (hy:dZ w I O D (ρ y) (a.eval y))
  (h:fD Sp H (gD cfg dN (.store t x y) ρ) v ups r):fC P cfg cx H D w I O dN o a v ups:=by
 simp only [gD] at h;obtain ⟨ti,ht,h1⟩:=h.kg;obtain ⟨i,d,hi,hu,hd,hs⟩:=hc.agg ht;split at h1
 ·rename_i ob k off e;rw [e] at hx;obtain ⟨obj,_,nk,h2⟩:=h1.lY;obtain ⟨p,hp,hO⟩:=hR.live nk;obtain ⟨b,bo,sz,hpl,hk,hxv⟩:=hx.nM hp;cases obj with
  | map=>exact (fD.aZ h2).elim
  | box cs=>
   obtain ⟨hn,b',ni,sz',hpl',hal,hle,hcs⟩:=hO;rw [hpl] at hpl';cases hpl';have hk0:k=0:=by omega
   subst hk0;obtain ⟨hok,h3⟩:=h2.Az;obtain ⟨hsz,h4⟩:=h3.bP;obtain ⟨hin,h5⟩:=h4.bP;obtain ⟨rfl,rfl⟩:=h5.jY;have hsz:(ρ y).cells.length=ti.size:=Nat.eq_of_beq_eq_true hsz;have hin:off+(ρ y).cells.length≤cs.length:=Nat.le_of_ble_eq_true hin;obtain ⟨hcl,hcc⟩:=hy.cells hok;have hrun:=run_store (P:=P) hi hal (a.eval y) (off:=bo+off) om om (λ j hj=>(hcc j om).2);obtain ⟨V7,hcell⟩:=ko hal (bo+off) (a.eval y).cells.toList (by simp; omega);obtain ⟨hh1,X5⟩:=lZ b (a.eval y).cells.toList (bo+off) w;have RF:∀b',I b'→(w.setCells b (bo+off) (a.eval y).cells.toList).heap[b']? = w.heap[b']? := λ b' hb=>X5 b' (λ e=>hR.nL ob p b bo sz hp hpl (e ▸ hb));have keep:∀u z,dZ w I O D u z→dZ (w.setCells b (bo+off) (a.eval y).cells.toList) I O D u z:=λ u z hu=>hu.mono (λ _ h=>h) RF (λ _ _=>.inl rfl) (λ _ h=>h) hR.used;have J3:=hR.write (nN _ _ _ _) (.box (EG off (ρ y).cells cs)) hp hpl X5 hh1 (by
    refine ⟨hn,b,bo,sz,hpl,V7,by rw [yc]; exact hle,λ j hj=>?_⟩
    rw [yc] at hj
    rw [V5 _ _ _ hin,hcell (bo+j) om]
    by_cases hc1:off≤j∧j<off+(ρ y).cells.length
    ·rw [if_pos hc1,if_pos (by simp; omega)]
     have:=keep _ _ (hcc (j - off) om).1
     have e2:bo+j - (bo+off)=j - off:=by omega
     rw [e2]
     have hlt:j - off<(a.eval y).cells.size:=by omega
     simpa [hlt] using this
    ·rw [if_neg hc1,if_neg (by simp; omega)]
     exact keep _ _ (hcs j hj))
   intro next Q hnx
   refine Pv (w':=w.setCells b (bo+off) (a.eval y).cells.toList) ?_ (hnx Go.undef _ I O (J3.wh dN) (λ u z hu=>(keep u z hu).wh J3 dN) (.pure (.undef _)));simp only [Nat.zero_mul,Nat.zero_add] at hxv;simp only [execOp,ho,hxv,Sem.run_bind,hrun,Result.andThen,Sem.run_pure]
  | row es n g=>
   simp only at h2;split at h2
   ·obtain ⟨x',ids,_,h3,ano⟩:=(EJ hR fuel).1 _ _ _ _ _ h2;obtain ⟨hmem,h4⟩:=h3.bP;have hmem:ob ∉ ids:=wQ (by simpa using hmem);obtain ⟨hok,h5⟩:=h4.Az;obtain ⟨hsz,h6⟩:=h5.bP;obtain ⟨c1,h7⟩:=h6.bP;obtain ⟨c2,h8⟩:=h7.bP;obtain ⟨c3,h9⟩:=h8.bP;obtain ⟨rfl,rfl⟩:=h9.jY;obtain ⟨rfl,rfl⟩:=Vu c3;have hsz:x'.cells.length=ti.size:=Nat.eq_of_beq_eq_true hsz;have c1:es=1:=Nat.eq_of_beq_eq_true c1;have c2:n=ti.size:=Nat.eq_of_beq_eq_true c2;subst c1;have hyp:=ano _ hy;have Pq:=hR.freeze ids;have hp1:kill O ids ob=some p:=by unfold kill; rw [if_neg hmem]; exact hp
    have hyr:dZ w (λ b=>I b∨Cr O ids b) (kill O ids) D x' (a.eval y):=.pure hyp;obtain ⟨hcl,hcc⟩:=hyr.cells hok;have hcp:∀j,j<x'.cells.length→ig w (λ b=>I b∨Cr O ids b) (nth x'.cells j) ((a.eval y).cells.getD j Go.undef):=by
     have anp:dZ w (λ b=>I b∨Cr O ids b) (λ _=>none) (λ _=>False) x' (a.eval y):=.pure hyp;exact λ j hj=>CW ((anp.cells hok).2 j hj).1
    obtain ⟨hn,hes,hlen,hpl' | ⟨b',ni,sz',hpl',hal,hle,hcs⟩⟩:=hO
    ·rw [hpl] at hpl'; cases hpl'.2
    rw [hpl] at hpl';cases hpl';simp only [Nat.zero_mul,Nat.add_zero] at hxv;have hrun:=run_store (P:=P) hi hal.al (a.eval y) (off:=bo) om om (λ j hj=>(hcc j om).2);have V7:=nZ hal bo (a.eval y).cells.toList (by simp; omega) (λ q hq=>by have hlt:q<(a.eval y).cells.size:=(by simpa using hq); simpa [hlt] using (hcc q om).2);obtain ⟨_,hcell⟩:=ko hal.al bo (a.eval y).cells.toList (by simp; omega);obtain ⟨hh1,X5⟩:=lZ b (a.eval y).cells.toList bo w;have RF:∀b',(λ b=>I b∨Cr O ids b) b'→(w.setCells b bo (a.eval y).cells.toList).heap[b']? = w.heap[b']? := λ b' hb=>X5 b' (λ e=>Pq.nL ob p b bo sz hp1 hpl (e ▸ hb));have keep:∀u z,dZ w (λ b=>I b∨Cr O ids b) (kill O ids) D u z→dZ (w.setCells b bo (a.eval y).cells.toList) (λ b=>I b∨Cr O ids b) (kill O ids) D u z:=λ u z hu=>hu.mono (λ _ h=>h) RF (λ _ _=>.inl rfl) (λ _ h=>h) Pq.used;have J4:∀u z,ig w (λ b=>I b∨Cr O ids b) u z→ig (w.setCells b bo (a.eval y).cells.toList) (λ b=>I b∨Cr O ids b) u z:=λ u z hu=>hu.mono (λ _ h=>h) RF;have hone:∀q,q<n→(nth x'.cells q).cells=[nth x'.cells q]:=λ q hq=>by
     have:=Tn hok q om;cases hv:nth x'.cells q with
     | agg cs=>rw [hv] at this; cases this
     | _=>rfl
    have J3:=Pq.write (nN _ _ _ _) (.row 1 n (Tg x'.cells)) hp1 hpl X5 hh1 (by
     refine ⟨hn,hes,λ q hq=>by show (nth x'.cells q).cells.length=1; rw [hone q hq]; rfl,.inr ⟨b,bo,sz,hpl,V7,hle,λ q j hq hj=>?_⟩⟩
     have hj0:j=0:=by omega
     subst hj0
     simp only [Nat.mul_one,Nat.add_zero]
     rw [hcell (bo+q) om,if_pos (by simp; omega)]
     have e2:bo+q - bo=q:=by omega
     rw [e2]
     have hlt:q<(a.eval y).cells.size:=by omega
     show ig _ _ (nth (nth x'.cells q).cells 0) _∧_
     rw [hone q hq]
     have:=J4 _ _ (hcp q om)
     exact ⟨by simpa [hlt,nth] using this,by simpa [hlt] using (hcc q om).2⟩)
    intro next Q hnx
    refine Pv (w':=w.setCells b bo (a.eval y).cells.toList) ?_ (hnx Go.undef _ _ _ (by rw [AB]; exact J3.wh dN) (λ u z hu=>(keep u z (hu.kill hR ids)).wh J3 dN) (.pure (.undef _)));simp only [execOp,ho,hxv,Sem.run_bind,hrun,Result.andThen,Sem.run_pure]
   obtain ⟨x',ids,_,h3,ano⟩:=(EJ hR fuel).1 _ _ _ _ _ h2;obtain ⟨hmem,h4⟩:=h3.bP;have hmem:ob ∉ ids:=wQ (by simpa using hmem);obtain ⟨hok,h5⟩:=h4.Az;obtain ⟨hsz,h6⟩:=h5.bP;obtain ⟨hpos,h7⟩:=h6.bP;obtain ⟨hin,h8⟩:=h7.bP;obtain ⟨rfl,rfl⟩:=h8.jY;have hsz:x'.cells.length=ti.size:=Nat.eq_of_beq_eq_true hsz;have hpos:0<ti.size:=by simpa using hpos
   have hin:off+x'.cells.length≤es:=Nat.le_of_ble_eq_true hin;have hyp:=ano _ hy;have Pq:=hR.freeze ids;have hp1:kill O ids ob=some p:=by unfold kill; rw [if_neg hmem]; exact hp
   have hyr:dZ w (λ b=>I b∨Cr O ids b) (kill O ids) D x' (a.eval y):=.pure hyp;obtain ⟨hcl,hcc⟩:=hyr.cells hok;have hcp:∀j,j<x'.cells.length→ig w (λ b=>I b∨Cr O ids b) (nth x'.cells j) ((a.eval y).cells.getD j Go.undef):=by
    have anp:dZ w (λ b=>I b∨Cr O ids b) (λ _=>none) (λ _=>False) x' (a.eval y):=.pure hyp;exact λ j hj=>CW ((anp.cells hok).2 j hj).1
   obtain ⟨hn,hes,hlen,hpl' | ⟨b',ni,sz',hpl',hal,hle,hcs⟩⟩:=hO
   ·rw [hpl] at hpl'; cases hpl'.2
   rw [hpl] at hpl';cases hpl';rw [hes] at hxv;have hkn:k<n:=by omega
   have hmul:(k+1)*es≤n*es:=Nat.mul_le_mul_right _ hkn;rw [Nat.succ_mul] at hmul;have hrun:=run_store (P:=P) hi hal.al (a.eval y) (off:=bo+(k*es+off)) om om (λ j hj=>(hcc j om).2);have V7:=nZ hal (bo+(k*es+off)) (a.eval y).cells.toList (by simp; omega) (λ q hq=>by have hlt:q<(a.eval y).cells.size:=(by simpa using hq); simpa [hlt] using (hcc q om).2);obtain ⟨_,hcell⟩:=ko hal.al (bo+(k*es+off)) (a.eval y).cells.toList (by simp; omega);obtain ⟨hh1,X5⟩:=lZ b (a.eval y).cells.toList (bo+(k*es+off)) w;have RF:∀b',(λ b=>I b∨Cr O ids b) b'→(w.setCells b (bo+(k*es+off)) (a.eval y).cells.toList).heap[b']? = w.heap[b']? := λ b' hb=>X5 b' (λ e=>Pq.nL ob p b bo sz hp1 hpl (e ▸ hb));have keep:∀u z,dZ w (λ b=>I b∨Cr O ids b) (kill O ids) D u z→dZ (w.setCells b (bo+(k*es+off)) (a.eval y).cells.toList) (λ b=>I b∨Cr O ids b) (kill O ids) D u z:=λ u z hu=>hu.mono (λ _ h=>h) RF (λ _ _=>.inl rfl) (λ _ h=>h) Pq.used;have J4:∀u z,ig w (λ b=>I b∨Cr O ids b) u z→ig (w.setCells b (bo+(k*es+off)) (a.eval y).cells.toList) (λ b=>I b∨Cr O ids b) u z:=λ u z hu=>hu.mono (λ _ h=>h) RF;have hel:∀gk,gk=g k→(match gk with | .agg cs=>AV.agg (EG off x'.cells cs) | _=>x').cells.length=es∧
     ∀j,j<es→nth (match gk with | .agg cs=>AV.agg (EG off x'.cells cs) | _=>x').cells j=if off≤j∧j<off+x'.cells.length then nth x'.cells (j - off) else nth gk.cells j:=by
    intro gk hgk
    have hl:=hlen k hkn
    rw [← hgk] at hl
    have one:gk.cells=[gk]→x'.cells.length=es∧∀j,j<es→nth x'.cells j=if off≤j∧j<off+x'.cells.length then nth x'.cells (j - off) else nth gk.cells j:=by
     intro hc1
     rw [hc1] at hl
     simp at hl
     have:off=0:=by omega
     subst this
     exact ⟨by omega,λ j hj=>by rw [if_pos om]; rfl⟩
    cases gk with
    | agg cs=>
     simp only [AV.cells] at hl ⊢
     exact ⟨by rw [yc]; exact hl,λ j hj=>V5 cs x'.cells off om j⟩
    | _=>exact one rfl
   have arz:∀q:Bool,q=(ZT off&&Nat.beq x'.cells.length es)→(match q with | true=>x' | false=>match g k with | .agg cs=>AV.agg (EG off x'.cells cs) | _=>x').cells.length=es∧
     ∀j,j<es→nth (match q with | true=>x' | false=>match g k with | .agg cs=>AV.agg (EG off x'.cells cs) | _=>x').cells j=if off≤j∧j<off+x'.cells.length then nth x'.cells (j - off) else nth (g k).cells j:=by
    intro q hq
    cases q with
    | false=>exact hel (g k) rfl
    | true=>
     simp only [eq_comm (a:=true),Bool.and_eq_true] at hq
     have h0:off=0:=by cases off with | zero=>rfl | succ n=>cases hq.1
     have hq1:=Nat.eq_of_beq_eq_true hq.2
     subst h0
     exact ⟨hq1,λ j hj=>by rw [if_pos om]; rfl⟩
   obtain ⟨arA,arB⟩:=arz _ rfl;have J3:=Pq.write (nN _ _ _ _) (.row es n (abC g k (match ZT off&&Nat.beq x'.cells.length es with | true=>x' | false=>match g k with | .agg cs=>.agg (EG off x'.cells cs) | _=>x'))) hp1 hpl X5 hh1 (by
    refine ⟨hn,hes,λ j hj=>?_,.inr ⟨b,bo,sz,hpl,V7,hle,λ j q hj hq=>?_⟩⟩
    ·simp only [abC]
     cases hb:Nat.beq j k with
     | true=>simp only [cond_true]; exact arA
     | false=>simp only [cond_false]; exact hlen j hj
    ·have hmj:(j+1)*es≤n*es:=Nat.mul_le_mul_right _ hj
     rw [Nat.succ_mul] at hmj
     rw [hcell (bo+(j*es+q)) om]
     simp only [abC]
     cases hb:Nat.beq j k with
     | true=>
      have hjk:=Nat.eq_of_beq_eq_true hb
      subst hjk
      simp only [cond_true]
      rw [arB q hq]
      by_cases hc1:off≤q∧q<off+x'.cells.length
      ·rw [if_pos hc1,if_pos (by simp; omega)]
       have e2:bo+(j*es+q) - (bo+(j*es+off))=q - off:=by omega
       rw [e2]
       have hlt:q - off<(a.eval y).cells.size:=by omega
       have:=J4 _ _ (hcp (q - off) om)
       exact ⟨by simpa [hlt] using this,by simpa [hlt] using (hcc (q - off) om).2⟩
      ·rw [if_neg hc1,if_neg (by simp; omega)]
       exact ⟨J4 _ _ ((hcs j q hj hq).1.mono (λ _ h=>.inl h) (λ _ _=>rfl)),(hcs j q hj hq).2⟩
     | false=>
      have hjk:j≠k:=λ e=>by subst e; simp at hb
      simp only [cond_false]
      have hne:¬ (bo+(k*es+off)≤bo+(j*es+q)∧bo+(j*es+q)<bo+(k*es+off)+(a.eval y).cells.toList.length):=by
       simp only [Array.length_toList]
       rcases Nat.lt_or_gt_of_ne hjk with hlt' | hgt
       ·have:(j+1)*es≤k*es:=Nat.mul_le_mul_right _ om
        rw [Nat.succ_mul] at this
        omega
       ·have:(k+1)*es≤j*es:=Nat.mul_le_mul_right _ om
        rw [Nat.succ_mul] at this
        omega
      rw [if_neg hne]
      exact ⟨J4 _ _ ((hcs j q hj hq).1.mono (λ _ h=>.inl h) (λ _ _=>rfl)),(hcs j q hj hq).2⟩)
   intro next Q hnx
   refine Pv (w':=w.setCells b (bo+(k*es+off)) (a.eval y).cells.toList) ?_ (hnx Go.undef _ _ _ (by rw [AB]; exact J3.wh dN) (λ u z hu=>(keep u z (hu.kill hR ids)).wh J3 dN) (.pure (.undef _)));simp only [execOp,ho,hxv,Sem.run_bind,hrun,Result.andThen,Sem.run_pure]
 ·exact (fD.aZ h1).elim
end
end Go.Ab
namespace Go.Ab
section
variable {P:Program} {cfg:uT} {cx:Ctx} {H:Nat→Option dP} {D:Nat→Prop} {w:World} {I:Nat→Prop} {O:OM} {Sp:ny}
variable {dN:Nat} {o:Oper} {a:Act} {ρ:Operand→AV} {v:AV} {ups:jW} {r:List Nat}
def Reads (P:Program) (w:World) (I:Nat→Prop) (size n:Nat) (g:Nat→AV) (x:Value):Prop:=
 ∃cells:Array Value,Gu w I size n g cells∧∀w':World,w'.heap=w.heap→(Builtin.firstCells size n x).run P w'=.ok cells w'
variable {size:Nat} {g:Nat→AV}
theorem kr {n:Nat} {aa:Option Addr} {n' cap:Nat} (b off:Nat) (vs:Nat→Nat→Value) (ha:n≠0→aa=some ⟨b,off,none⟩) (hes:∀i,i<n→(g i).cells.length=size)
  (hm:∀i j,i<n→j<size→w.cell? ⟨b,off+(i*size+j),none⟩=some (vs i j)) (h1:∀i j,i<n→j<size→(vs i j).oneCell'=true) (hr:∀i j,i<n→j<size→ig w I (nth (g i).cells j) (vs i j)) (hs:0<size):
  Reads P w I size n g (.slice aa n' cap):=by
 refine ⟨((List.range (n*size)).map (λ k=>vs (k / size) (k % size))).toArray,⟨by simp,λ i hi=>⟨hes i hi,λ j hj=>?_⟩⟩,λ w' hw=>?_⟩
 ·have hlt:i*size+j<n*size:=by
   have:(i+1)*size≤n*size:=Nat.mul_le_mul_right _ hi;rw [Nat.succ_mul] at this;omega
  have e1:(i*size+j) / size=i:=by
   rw [Nat.mul_comm,Nat.mul_add_div hs,Nat.div_eq_of_lt hj,Nat.add_zero]
  have e2:(i*size+j) % size=j:=by
   rw [Nat.mul_comm,Nat.mul_add_mod];exact Nat.mod_eq_of_lt hj
  exact ⟨by simpa [hlt,e1,e2] using hr i j hi hj,by simpa [hlt,e1,e2] using h1 i j hi hj⟩
 ·by_cases hn:n=0
  ·subst hn;cases aa with
   | none=>simp [Builtin.firstCells]
   | some aa=>simp [Builtin.firstCells,loadCells,loadCellsFrom]
  ·rw [ha hn];simp only [Builtin.firstCells];have:=run_loadCells_list (P:=P) w' ⟨b,off,none⟩ ((List.range (n*size)).map (λ k=>vs (k / size) (k % size))) (λ k u hk=>by
    have hlt:k<n*size:=by
     rcases Nat.lt_or_ge k (n*size) with h | h
     ·exact h
     ·simp [h] at hk
    simp [hlt] at hk;rw [← hk,Addr.add_mid,cell?_of_heap (w:=w) (w':=w') (by rw [hw])];have h1:k / size<n:=(Nat.div_lt_iff_lt_mul hs).2 hlt;have h2:k % size<size:=Nat.mod_lt _ hs;have:=hm _ _ h1 h2;rwa [Nat.div_add_mod'] at this)
   simpa using this
theorem abU {es n:Nat} {full:Bool} {x:Value} (h:ig w I (.sl es n full g) x) (he:Om es n size=true) (hs:0<size):Reads P w I size n g x:=by
 cases h with
 | sl b off vs hcap hfull ha hes hm h11 hr=>
  by_cases hn:n=0
  ·subst hn;exact kr b off vs (λ h=>absurd rfl h) (λ i hi=>absurd hi om) (λ i j hi=>absurd hi om) (λ i j hi=>absurd hi om) (λ i j hi=>absurd hi om) hs
  ·have:=wP he hn;subst this;exact kr b off vs (λ h=>(ha h).1) hes hm h11 hr hs
theorem RG {m i n cap:Nat} {aa:Option Addr} {p:Own} {O':OM} {D':Nat→Prop} (hO:iK w I O' D' p (.row size m g)) (hi:i+n≤p.n) (hcap:n≤cap) (hs:0<size)
  (hpl:cap≠0→∃b bo sz,p.pl=some (b,bo,sz)∧aa=some ⟨b,bo+i*p.es,none⟩∧bo+(i+cap)*p.es≤sz):Reads P w I size n (nI i g) (.slice aa n cap):=by
 obtain ⟨hn,hes,hlen,hpl'⟩:=hO;by_cases h0:n=0
 ·subst h0;exact kr 0 0 (λ _ _=>Go.undef) (λ h=>absurd rfl h) (λ i hi=>absurd hi om) (λ i j hi=>absurd hi om) (λ i j hi=>absurd hi om) (λ i j hi=>absurd hi om) hs
 ·obtain ⟨b,bo,sz,h1,h2,h3⟩:=hpl om;rcases hpl' with ⟨_,h4⟩ | ⟨b',ni,sz',h4,hal,hle,hcs⟩
  ·rw [h1] at h4; cases h4
  ·rw [h1] at h4;cases h4;subst hn;refine kr b (bo+i*size) (λ k j=>cellAt w b (bo+((i+k)*size+j))) (λ _=>by rw [h2,hes]) (λ k hk=>by rw [AA]; exact hlen _ om) (λ k j hk hj=>?_) (λ k j hk hj=>(hcs (i+k) j om hj).2) (λ k j hk hj=>?_) hs
   ·have e:bo+i*size+(k*size+j)=bo+((i+k)*size+j):=by rw [Nat.add_mul]; omega
    rw [e];refine uh hal.al ?_;have:(i+k+1)*size≤p.n*size:=Nat.mul_le_mul_right _ om;rw [Nat.succ_mul] at this;omega
   ·rw [AA];exact (hcs (i+k) j om hj).1
theorem run_append_grow {t t' e e' ty:TypeId} {i:TypeInfo} {z:Value} (hu:P.underlying t=some (.slice e)) (hu':P.underlying t'=some (.slice e')) (hi:P.info? e=some i) (hz:i.zero=some z)
  {base base':Option Addr} {cap n m c:Nat} {olds news:Array Value} (ho:∀w':World,w'.heap=w.heap→(Builtin.firstCells i.size n (.slice base n cap)).run P w'=.ok olds w')
  (hn:∀w':World,w'.heap=w.heap→(Builtin.firstCells i.size m (.slice base' m c)).run P w'=.ok news w') (hcap:cap<n+m) (hb:(n+m)*i.bytes≤140737488355328) (hb0:0<i.bytes):
  ∃c' rest,n+m≤c'∧rest=Builtin.zeroCells z.cells (c' - (n+m))∧(Builtin.append_ #[t,t'] ty #[.slice base n cap,.slice base' m c]).run P w=
   .ok (.slice (some ⟨w.heap.size,0,none⟩) (n+m) c') (w.drew.alloc (.cells (olds++news++rest) e)):=by
 refine ⟨grownCap w (n+m) cap e,Builtin.zeroCells z.cells (grownCap w (n+m) cap e - (n+m)),grownCap_ge _ _ _ _,rfl,?_⟩;have hnm:n+m≤140737488355328:=Nat.le_trans (Nat.le_mul_of_pos_right _ hb0) hb;have h1:¬ n+m≤cap:=by omega
 have h63':¬ (9223372036854775807<((n:Int)+(m:Int))):=by omega
 have h48':¬ (281474976710656<Builtin.nextslicecap (n+m) cap*i.bytes):=by have:=growslice_fits hcap hb; omega
 have ho':=ho w.drew rfl;have hn':=hn w.drew rfl;simp [Builtin.append_,run_underlying hu,run_underlying hu',sizeOf,typeInfo,zeroValue,hi,hz,Builtin.lenOf,h1,h63',h48',Question.forced,ho',hn',newRow,grownCap]
theorem rR {t t' e e' ty:TypeId} {i:TypeInfo} (hu:P.underlying t=some (.slice e)) (hu':P.underlying t'=some (.slice e')) (hi:P.info? e=some i)
  {base base':Option Addr} {cap n m c:Nat} {news:Array Value} (hn:(Builtin.firstCells i.size m (.slice base' m c)).run P w=.ok news w) (hcap:n+m≤cap) {w':World}
  (hst:∀ad,base=some ad→(storeCells (ad.add (n*i.size)) news.toList).run P w=.ok () w') (hno:base=none→w'=w):
  (Builtin.append_ #[t,t'] ty #[.slice base n cap,.slice base' m c]).run P w=.ok (.slice base (n+m) cap) w':=by
 cases base with
 | none=>
  have:=hno rfl;subst this;simp [Builtin.append_,run_underlying hu,run_underlying hu',sizeOf,typeInfo,hi,Builtin.lenOf,hcap,hn]
 | some ad=>
  have:=hst ad rfl;simp [Builtin.append_,run_underlying hu,run_underlying hu',sizeOf,typeInfo,hi,Builtin.lenOf,hcap,hn,this]
end
end Go.Ab
namespace Go.Ab
section
variable {P:Program} {cfg:uT} {cx:Ctx} {H:Nat→Option dP} {D:Nat→Prop} {w:World} {I:Nat→Prop} {O:OM} {Sp:ny}
variable {dN:Nat} {o:Oper} {a:Act} {ρ:Operand→AV} {v:AV} {ups:jW} {r:List Nat}
variable {k:Nat}
theorem Mr {n:Nat} (h:¬ k<n):Nat.blt k n=false:=by
 cases hb:Nat.blt k n with
 | false=>rfl
 | true=>exact absurd (by simpa using hb) h
variable {size:Nat} {g:Nat→AV} {h:Nat→AV}
theorem RH {n m:Nat} {olds news rest:Array Value} (ho:Gu w I size n g olds) (hn:Gu w I size m h news):∀k,k<n+m→((appG n g h) k).cells.length=size∧
  ∀j,j<size→ig w I (nth ((appG n g h) k).cells j) ((olds++news++rest).getD (k*size+j) Go.undef)∧((olds++news++rest).getD (k*size+j) Go.undef).oneCell'=true:=by
 intro k hk;obtain ⟨h1,h2⟩:=ho;obtain ⟨h3,h4⟩:=hn;by_cases hkn:k<n
 ·have e:appG n g h k=g k:=by
   have:Nat.blt k n=true:=by simpa using hkn
   simp [appG,this]
  rw [e];refine ⟨(h2 k hkn).1,λ j hj=>?_⟩;have hm:(k+1)*size≤n*size:=Nat.mul_le_mul_right _ hkn;rw [Nat.succ_mul] at hm;have e2:(olds++news++rest).getD (k*size+j) Go.undef=olds.getD (k*size+j) Go.undef:=by
   have hlt:k*size+j<olds.size:=by omega
   simp [Array.getElem?_append_left hlt]
  rw [e2];exact (h2 k hkn).2 j hj
 ·have e:appG n g h k=h (k - n):=by
   have:Nat.blt k n=false:=Mr hkn;simp [appG,this]
  rw [e];have hkm:k - n<m:=by omega
  refine ⟨(h4 _ hkm).1,λ j hj=>?_⟩;have hm:(k - n+1)*size≤m*size:=Nat.mul_le_mul_right _ hkm;rw [Nat.succ_mul] at hm;have hkk:k*size=n*size+(k - n)*size:=by rw [← Nat.add_mul]; congr 1; omega
  have e2:(olds++news++rest).getD (k*size+j) Go.undef=news.getD ((k - n)*size+j) Go.undef:=by
   have hge:olds.size≤k*size+j:=by omega
   have hlt2:(k - n)*size+j<news.size:=by omega
   have e3:k*size+j - olds.size=(k - n)*size+j:=by omega
   simp [Array.getElem?_append_right hge,e3,Array.getElem?_append_left hlt2]
  rw [e2];exact (h4 _ hkm).2 j hj
variable {e:TypeId}
theorem fC.ak7 (hR:Rel cfg cx H D w I O) (hn:¬ D dN) {x:Value} {c:Array Value} {ob:dP} {p:Own} (ids:List Nat) {w1:World} (hw1:w1.heap=w.heap) (he1:iC w1 w) (hrun:(execOp a.eval o).run P w=.ok (.value x) (w1.alloc (.cells c e)))
  (hp:p.pl=some (w1.heap.size,0,c.size)) (nk:iK (w1.alloc (.cells c e)) I (kP (kill O ids) dN p) (AY D dN) p ob)
  (hv:∀I' O' D',O' dN=some p→dZ (w1.alloc (.cells c e)) I' O' D' v x):fC P cfg cx H D w I O dN o a v ((dN,some ob)::dead ids):=by
 intro next Q hnx
 have hR0:=hR.Gv hw1 he1;have Pq:=hR0.drop ids;refine qW hrun (hnx x _ _ _ ?_ ?_ (hv I (kP (kill O ids) dN p) _ (by simp [kP])))
 ·rw [AB];exact Pq.push hn c e ob p hp nk
 ·intro u y hu;exact ((hu.Gv hw1 hR).drop hR0 ids).push Pq _ p hn
theorem fC.grown (hR:Rel cfg cx H D w I O) (hn:¬ D dN) (ids:List Nat) {n m c':Nat} {olds news rest:Array Value} {e:TypeId} (ho:Gu w I size n g olds) (hnw:Gu w I size m h news)
  (hc':n+m≤c') (hrest:rest.size=(c' - (n+m))*size) (hr1:∀j,j<rest.size→(rest.getD j Go.undef).oneCell'=true) (hrun:(execOp a.eval o).run P w=.ok (.value (.slice (some ⟨w.heap.size,0,none⟩) (n+m) c')) (w.drew.alloc (.cells (olds++news++rest) e))):
  fC P cfg cx H D w I O dN o a (.dF dN 0 (n+m) false) ((dN,some (.row size (n+m) (appG n g h)))::dead ids):=by
 have hcells:=RH (rest:=rest) ho hnw;have hsz:(olds++news++rest).size=c'*size:=by
  rw [Array.size_append,Array.size_append,ho.1,hnw.1,hrest,← Nat.add_mul,← Nat.add_mul];congr 1;omega
 have hle:(n+m)*size≤c'*size:=Nat.mul_le_mul_right _ hc';refine fC.ak7 (p:=⟨size,n+m,some (w.drew.heap.size,0,(olds++news++rest).size)⟩) hR hn ids (w1:=w.drew) rfl (iC.heap rfl rfl rfl rfl) hrun rfl ?_ ?_
 ·have hone:∀j,j<(olds++news++rest).size→((olds++news++rest).getD j Go.undef).oneCell'=true:=λ j hj=>by
   have hsz2:(olds++news).size=(n+m)*size:=by rw [Array.size_append,ho.1,hnw.1,← Nat.add_mul]
   rcases Nat.lt_or_ge j ((n+m)*size) with hlt | hge
   ·rcases Nat.eq_zero_or_pos size with h0 | h0
    ·rw [h0,Nat.mul_zero] at hlt; exact absurd hlt (Nat.not_lt_zero _)
    ·have q1:j / size<n+m:=Nat.div_lt_of_lt_mul (by rw [Nat.mul_comm]; exact hlt);have:=((hcells _ q1).2 (j % size) (Nat.mod_lt _ h0)).2;rwa [Nat.div_add_mod'] at this
   ·have e:(olds++news++rest).getD j Go.undef=rest.getD (j - (n+m)*size) Go.undef:=by
     rw [Array.getD_eq_getD_getElem?, Array.getD_eq_getD_getElem?, Array.getElem?_append_right om,hsz2]
    rw [e];exact hr1 _ (by rw [Array.size_append,hsz2] at hj; omega)
  refine ⟨rfl,rfl,λ k hk=>(hcells k hk).1,.inr ⟨_,_,_,rfl,qC _ _ hone,by omega,λ k j hk hj=>?_⟩⟩;rw [Nat.zero_add,mD];exact ⟨ig.mono (w:=w) (λ _ h=>h) (λ b hb=>jG (w:=w.drew) _ (hR.yT b hb)) ((hcells k hk).2 j hj).1,((hcells k hk).2 j hj).2⟩
 ·intro I' O' D' hO;refine .dF hO (by simp) hc' (λ h=>by cases h) (λ _=>⟨_,_,_,rfl,?_,?_⟩) (by simp; omega)
  ·simp
  ·simp only [Nat.zero_add];omega
theorem Z9 {u:AV} {k:Nat→Nat→(Nat→AV)→Pg} {x:Value} (hR:Rel cfg cx H D w I O) (hx:dZ w I O D u x) (h:fD Sp H (Ti u k) v ups r):
  ∃es m g base c r',x=.slice base m c∧fD Sp H (k es m g) v ups r'∧∀size,Om es m size=true→0<size→Reads P w I size m g x:=by
 unfold Ti at h;split at h
 ·rename_i es n f g;have hp:=hx.yV;cases hp with
  | sl b off vs hcap hfull ha hes hm h1 hr=>exact ⟨es,n,g,_,_,r,rfl,h,λ size he hs=>abU (ig.sl b off vs hcap hfull ha hes hm h1 hr) he hs⟩
 ·rename_i ob i n f;obtain ⟨obj,r',nk,h1⟩:=h.lY;obtain ⟨p,hp,hO⟩:=hR.live nk;cases obj with
  | map=>exact (fD.aZ h1).elim
  | box cs=>exact (fD.aZ h1).elim
  | row es m g=>
   obtain ⟨aa,cap,rfl,h2,h3,h4,h5⟩:=hx.lD hp;refine ⟨es,n,nI i g,aa,cap,r',rfl,h1,λ size he hs=>?_⟩;by_cases hn:n=0
   ·subst hn;exact kr 0 0 (λ _ _=>Go.undef) (λ h=>absurd rfl h) (λ i hi=>absurd hi om) (λ i j hi=>absurd hi om) (λ i j hi=>absurd hi om) (λ i j hi=>absurd hi om) hs
   ·have:=wP he hn;subst this;exact RG hO h2 h3 hs h5
 ·exact (fD.aZ h).elim
theorem aik {es:Nat} :Om es 0 size=true:=by unfold Om; cases Nat.beq es size<;>rfl
theorem RI {ob:Nat} {x:dP} (h:H ob=some x):lI H [(ob,some x)]=H:=by
 funext k;simp only [lI,look];cases hb:Nat.beq ob k with
 | true=>have:=Nat.eq_of_beq_eq_true hb; subst this; simp [h]
 | false=>rfl
theorem V8 (i:Nat) (g h:Nat→AV):cpG i 0 g h=g:=by
 funext j;unfold cpG;cases h1:Nat.ble i j with
 | false=>rfl
 | true=>
  have h1:=Nat.le_of_ble_eq_true h1;rw [Mr om];rfl
theorem V9 {i j:Nat} (h1:i≤j) (h2:j<i+k):cpG i k g h j=h (j - i):=by
 unfold cpG;have a1:Nat.ble i j=true:=Nat.ble_eq_true_of_le h1;have a2:Nat.blt j (i+k)=true:=by simpa using h2
 rw [a1,a2];rfl
theorem Pw {i j:Nat} (hn:¬ (i≤j∧j<i+k)):cpG i k g h j=g j:=by
 unfold cpG;by_cases h1:i≤j
 ·rw [Mr om];cases Nat.ble i j<;>rfl
 ·have a1:Nat.ble i j=false:=by
   cases hb:Nat.ble i j with
   | false=>rfl
   | true=>exact absurd (Nat.le_of_ble_eq_true hb) h1
  rw [a1];rfl
theorem Rel.ail (hR:Rel cfg cx H D w I O) {ob es N i0 b bo sz:Nat} {g':Nat→AV} {p:Own} (hp:O ob=some p) (hO:iK w I O D p (.row es N g)) (hpl:p.pl=some (b,bo,sz)) (hpos:0<es) {cells:Array Value} (hcells:Gu w I es k g' cells) (hle0:i0+k≤N):
  (storeCells ⟨b,bo+i0*es,none⟩ cells.toList).run P w=.ok () (w.setCells b (bo+i0*es) cells.toList)∧Rel cfg cx (lI H [(ob,some (.row es N (cpG i0 k g g')))]) D (w.setCells b (bo+i0*es) cells.toList) I O∧
   ∀u z,dZ w I O D u z→dZ (w.setCells b (bo+i0*es) cells.toList) I O D u z:=by
 obtain ⟨hn,ak8,hlen,hpl' | ⟨b',ni,sz',hpl',hal,hle,hcs⟩⟩:=hO
 ·rw [hpl] at hpl'; cases hpl'.2
 rw [hpl] at hpl';cases hpl';have hmul:(i0+k)*es≤N*es:=Nat.mul_le_mul_right _ hle0;rw [Nat.add_mul] at hmul;have hcsz:=hcells.1;have hone:∀j,j<cells.size→(cells.getD j Go.undef).oneCell'=true:=λ j hj=>by
  rw [hcsz] at hj;have h1:j / es<k:=(Nat.div_lt_iff_lt_mul hpos).2 hj;have h2:=((hcells.2 _ h1).2 (j % es) (Nat.mod_lt _ hpos)).2;rwa [Nat.div_add_mod'] at h2
 have hst:=run_storeCells_cells (P:=P) b (bo+i0*es) cells.toList 0 w (λ j hj=>(hal (bo+i0*es+0+j) (by simp at hj; omega)).1) (λ j hj=>(hal (bo+i0*es+0+j) (by simp at hj; omega)).2)
  (λ u hu=>by
    obtain ⟨j,hj,rfl⟩:=List.mem_iff_getElem.1 hu
    have hj':j<cells.size:=by simpa using hj
    simpa [hj'] using hone j hj')
 rw [Nat.add_zero] at hst;have V7:=nZ hal (bo+i0*es) cells.toList (by simp; omega) (λ j hj=>by have hj':j<cells.size:=(by simpa using hj); simpa [hj'] using hone j hj');obtain ⟨_,hcell⟩:=ko hal.al (bo+i0*es) cells.toList (by simp; omega);obtain ⟨hh1,X5⟩:=lZ b cells.toList (bo+i0*es) w;have RF:∀b',I b'→(w.setCells b (bo+i0*es) cells.toList).heap[b']? = w.heap[b']? := λ b' hb=>X5 b' (λ e=>hR.nL ob p b bo sz hp hpl (e ▸ hb));have keep:∀u z,dZ w I O D u z→dZ (w.setCells b (bo+i0*es) cells.toList) I O D u z:=λ u z hu=>hu.mono (λ _ h=>h) RF (λ _ _=>.inl rfl) (λ _ h=>h) hR.used;have J4:∀u z,ig w I u z→ig (w.setCells b (bo+i0*es) cells.toList) I u z:=λ u z hu=>hu.mono (λ _ h=>h) RF;refine ⟨hst,hR.write (nN _ _ _ _) (.row es N (cpG i0 k g g')) hp hpl X5 hh1 ?_,keep⟩;refine ⟨hn,ak8,λ j hj=>?_,.inr ⟨b,bo,sz,hpl,V7,hle,λ j q hj hq=>?_⟩⟩
 ·by_cases hin:i0≤j∧j<i0+k
  ·rw [V9 hin.1 hin.2];exact (hcells.2 (j - i0) om).1
  ·rw [Pw hin];exact hlen j hj
 ·have hmj:(j+1)*es≤N*es:=Nat.mul_le_mul_right _ hj;rw [Nat.succ_mul] at hmj;rw [hcell _ om];by_cases hin:i0≤j∧j<i0+k
  ·rw [V9 hin.1 hin.2];have q1:i0*es≤j*es:=Nat.mul_le_mul_right _ hin.1;have q2:(j+1)*es≤(i0+k)*es:=Nat.mul_le_mul_right _ hin.2;rw [Nat.succ_mul,Nat.add_mul] at q2;have q3:(j - i0)*es=j*es - i0*es:=Nat.sub_mul _ _ _;rw [if_pos (by simp; omega)];have e3:bo+(j*es+q) - (bo+i0*es)=(j - i0)*es+q:=by omega
   rw [e3];have hh:=(hcells.2 (j - i0) om).2 q hq;have e4:cells.toList.getD ((j - i0)*es+q) Go.undef=cells.getD ((j - i0)*es+q) Go.undef:=by
    have hlt:(j - i0)*es+q<cells.size:=by omega
    simp [hlt]
   rw [e4];exact ⟨J4 _ _ hh.1,hh.2⟩
  ·rw [Pw hin];rw [if_neg ?_]
   ·exact ⟨J4 _ _ (hcs j q hj hq).1,(hcs j q hj hq).2⟩
   ·intro ⟨r1,r2⟩;have r2:bo+(j*es+q)<bo+i0*es+cells.size:=by simpa using r2
    apply hin;constructor
    ·rcases Nat.lt_or_ge j i0 with h | h
     ·have:(j+1)*es≤i0*es:=Nat.mul_le_mul_right _ h;rw [Nat.succ_mul] at this;omega
     ·exact h
    ·rcases Nat.lt_or_ge j (i0+k) with h | h
     ·exact h
     ·have:(i0+k)*es≤j*es:=Nat.mul_le_mul_right _ h;rw [Nat.add_mul] at this;omega
theorem Wd (hR:Rel cfg cx H D w I O) {xd xs:Operand} {d s:AV} {t t' e e':TypeId} {ti:Mh} {i:TypeInfo} (hdr:dZ w I O D d (a.eval xd)) (hsr:dZ w I O D s (a.eval xs))
  (hu:P.underlying t=some (.slice e)) (hu':P.underlying t'=some (.slice e')) (hi:P.info? e=some i) (hsz:i.size=ti.size) (hpos:0<ti.size)
  (run:∀ {x' w'},(Builtin.append_ #[t,t'] o.type #[a.eval xd,a.eval xs]).run P w=.ok x' w'→(execOp a.eval o).run P w=.ok (.value x') w')
  (h:fD Sp H (ZU ti d s) v ups r):fC P cfg cx H D w I O dN o a v ups:=by
 unfold ZU at h;obtain ⟨es',m,g',base',c',r1,hsv,h5,hreads⟩:=Z9 (P:=P) hR hsr h;obtain ⟨hes',h6⟩:=h5.bP;obtain ⟨news,hnews,CX⟩:=hreads ti.size hes' hpos;have CX:=CX w rfl;rw [hsv] at CX;rw [← hsz] at CX;split at h6
 ·rename_i ob i0 n full;obtain ⟨obj,_,nk,h7⟩:=h6.lY;obtain ⟨p,hp,hO⟩:=hR.live nk;cases obj with
  | map=>exact (fD.aZ h7).elim
  | box cs=>exact (fD.aZ h7).elim
  | row es N g=>
   obtain ⟨hes,h8⟩:=h7.bP;have hes:es=ti.size:=Nat.eq_of_beq_eq_true hes;obtain ⟨hle,h9⟩:=h8.uX;obtain ⟨rfl,rfl⟩:=h9.jY;subst hes;have Rz:p.es=ti.size:=hO.2.1;have hpn:p.n=N:=hO.1;obtain ⟨aa,cap,hdv,a1,a2,a3,a4⟩:=hdr.lD hp;have hext:p.n≤i0+cap:=(hdv ▸ hdr).CV hp;have hcap:n+m≤cap:=by omega
   by_cases hz:cap=0
   ·have hm0:m=0:=by omega
    have hn0:n=0:=by omega
    subst hm0;have hce:news=#[]:=Array.eq_empty_of_size_eq_zero (by have:=hnews.1; omega);rw [V8];have hr:=rR (P:=P) (ty:=o.type) (base:=aa) hu hu' hi CX hcap (w':=w) (λ ad _=>by rw [hce]; rfl) (λ _=>rfl);rw [← hdv,← hsv] at hr;intro next Q hnx
    refine qW (run hr) (hnx _ w I O (by rw [RI nk]; exact hR.wh dN) (λ u y hu=>hu.wh hR dN) ?_);have h2:=hdr.wh hR dN;rw [hdv] at h2;exact .dF hp om hcap (λ h=>by cases h) a4 hext
   ·obtain ⟨b,bo,sz,hpl,haa,hcapz⟩:=a4 hz;have hR2:=hR;obtain ⟨hst,J3,keep⟩:=hR.ail (P:=P) (i0:=i0+n) (k:=m) hp hO hpl hpos hnews om;have hr:=rR (P:=P) (ty:=o.type) (base:=aa) hu hu' hi CX hcap (w':=w.setCells b (bo+(i0+n)*ti.size) news.toList) (λ ad had=>by
     rw [haa] at had;cases had;rw [Rz,hsz,Addr.add_mid];have e1:bo+i0*ti.size+n*ti.size=bo+(i0+n)*ti.size:=by rw [Nat.add_mul]; omega
     rw [e1];exact hst) (λ had=>by rw [haa] at had; cases had)
    rw [← hdv,← hsv] at hr;intro next Q hnx
    refine qW (run hr) (hnx _ _ I O (J3.wh dN) (λ u y hu=>(keep u y hu).wh J3 dN) ?_);exact .dF hp om hcap (λ h=>by cases h) a4 hext
 ·exact (fD.aZ h6).elim
end
end Go.Ab
namespace Go.Ab
section
variable {P:Program} {cfg:uT} {cx:Ctx} {H:Nat→Option dP} {D:Nat→Prop} {w:World} {I:Nat→Prop} {O:OM} {Sp:ny}
variable {dN:Nat} {o:Oper} {a:Act} {ρ:Operand→AV} {v:AV} {ups:jW} {r:List Nat}
theorem ad2 {s:AV} {f:Int→Pg} {k:Pg} (h:¬ ∃kk n,s=.int kk n):apj s f k=k:=by
 cases s<;>first | rfl | exact absurd ⟨_,_,rfl⟩ h
theorem RJ {t t' e ty:TypeId} {i:TypeInfo} {z:Value} {kn kq:IntKind} (hu:P.underlying t=some (.slice e)) (hu':P.underlying t'=some (.int kn)) (hi:P.info? e=some i) (hz:i.zero=some z)
  {base:Option Addr} {k:Nat} (h0:0<k) (hs:0<i.size) (hb:k*i.bytes≤140737488355328) (hb0:0<i.bytes):
  ∃c' rest,0+k≤c'∧rest=Builtin.zeroCells z.cells (c' - (0+k))∧(Builtin.append_ #[t,t'] ty #[.slice base 0 0,.int kq k]).run P w=
   .ok (.slice (some ⟨w.heap.size,0,none⟩) (0+k) c') (w.drew.alloc (.cells (#[]++Builtin.zeroCells z.cells k++rest) e)):=by
 refine ⟨grownCap w (0+k) 0 e,Builtin.zeroCells z.cells (grownCap w (0+k) 0 e - (0+k)),grownCap_ge _ _ _ _,rfl,?_⟩;have hnm:k≤140737488355328:=Nat.le_trans (Nat.le_mul_of_pos_right _ hb0) hb;have hk:k≠0:=by omega
 have hw:IntKind.i64.wrap (k:Int)=k:=by rw [IntKind.wrap_i64]; omega
 have h63':¬ (9223372036854775807<(k:Int)):=by omega
 have h48':¬ (281474976710656<Builtin.nextslicecap k 0*i.bytes):=by have:=growslice_fits (need:=k) (old:=0) h0 hb; omega
 have h48i:¬ (281474976710656<(k:Int)*(i.bytes:Int)):=by
  rw [← Int.natCast_mul];omega
 have hneg:¬ ((k:Int)<0):=by omega
 have hns:¬ (k*i.size=0):=Nat.mul_ne_zero hk om;have hold:(Builtin.firstCells i.size 0 (.slice base 0 0)).run P w.drew=.ok #[] w.drew:=by
  cases base with
  | none=>rfl
  | some a=>simp [Builtin.firstCells,loadCells,loadCellsFrom]
 simp [Builtin.append_,run_underlying hu,run_underlying hu',sizeOf,typeInfo,zeroValue,hi,hz,asInt,asIntOf,hw,hk,hneg,hns,h63',h48',h48i,Question.forced,hold,newRow,grownCap]
theorem Um (hc:gL P cfg) (hR:Rel cfg cx H D w I O) (hn:¬ D dN) {d:AV} {kk:IntKind} {k:Int} {t t':TypeId} {xd xs:Operand} (hdr:dZ w I O D d (a.eval xd)) (hsr:dZ w I O D (.int kk k) (a.eval xs))
  (run:∀ {x' w'},(Builtin.append_ #[t,t'] o.type #[a.eval xd,a.eval xs]).run P w=.ok x' w'→(execOp a.eval o).run P w=.ok (.value x') w')
  (h:fD Sp H (ana cfg dN t t' d k) v ups r):fC P cfg cx H D w I O dN o a v ups:=by
 unfold ana at h;obtain ⟨ti',ht',h1⟩:=h.kg;obtain ⟨tt,e,ti,p1,p2,p3,h2⟩:=h1.nY;obtain ⟨hu,i,z,hi,hz,hsz,hby,hzs⟩:=hc.slice p1 p2 p3;obtain ⟨i',_,z',hi',_,J2,_,_,_,_,hzl,Pt,_⟩:=(hc.ty e ti p3).ex;rw [hi] at hi'; cases hi';rw [hz] at J2; cases J2;obtain ⟨_,dd,_,_,hud,_,_,_,_,_,_,_,hm⟩:=(hc.ty t' ti' ht').ex;split at h2
 ·rename_i kn es n full g hdd;rw [hdd] at hm;have hm:dd=.int kn:=hm;subst hm;obtain ⟨c0,h3⟩:=h2.bP;obtain ⟨c1,h4⟩:=h3.bP;obtain ⟨c2,h5⟩:=h4.bP;obtain ⟨c3,h6⟩:=h5.bP;obtain ⟨⟨q0,q1⟩,h7⟩:=h6.uX;obtain ⟨rfl,rfl⟩:=h7.jY;have c1:0<ti.size:=by simpa using c1
  have c2:0<ti.bytes:=by simpa using c2
  obtain ⟨m,rfl⟩:=Int.eq_ofNat_of_zero_le (show 0≤k by omega);have hbig':m*ti.bytes≤140737488355328:=by
   have:((m*ti.bytes:Nat):Int)≤((140737488355328:Nat):Int):=by simpa [big] using q1
   exact_mod_cast this
  have hsv:=hsr.iD;have hp:=hdr.yV;generalize hdv:a.eval xd=dv at hp;unfold zf at c0;split at c0
  ·split at c0
   ·cases hp with
    | @sl _ _ _ _ aa cap b off vs hcap hfl ha anq hm h11 hr=>
     have hcn:cap=0:=hfl rfl;subst hcn;obtain ⟨c',rest,g1,g2,g3⟩:=RJ (P:=P) (w:=w) (ty:=o.type) (kq:=kk) (base:=aa) (k:=m) hu hud hi hz om om (by rw [hby]; exact hbig') om;have hnew:Gu w I ti.size m (λ _=>zeroOf ti) (Builtin.zeroCells z.cells m):=by
      have hzz:Builtin.zeroCells z.cells m=(Array.range (m*ti.size)).map (λ k=>z.cells[k % z.cells.size]!):=by unfold Builtin.zeroCells; rw [hzs]
      rw [hzz];refine ⟨by simp,λ j hj=>?_⟩;rw [zV c3 hzl];refine ⟨by rw [iR]; exact hzl,λ q hq=>?_⟩;rw [rQ z.cells m j q ti.size hzs hj hq];exact ⟨x9 _ _ ti.size hzl Pt q hq,rP _ _ ti.size Pt q hq⟩
     have hold:Gu w I ti.size 0 (λ _=>zeroOf ti) #[]:=⟨by simp,λ k hk=>absurd hk (Nat.not_lt_zero _)⟩;have key:=fC.grown (P:=P) (o:=o) (a:=a) (dN:=dN) (rest:=rest) hR hn [] hold hnew g1 (by rw [g2,size_zeroCells,hzs]) (by rw [g2]; exact xK hzs (rP _ _ ti.size Pt)) (run (by rw [hdv,hsv]; exact g3));have e3:appG 0 (λ _=>zeroOf ti) (λ _=>zeroOf ti)=(λ _=>zeroOf ti):=by
      funext k;simp [appG]
     rw [e3] at key;simpa [dead] using key
   ·cases c0
  ·cases c0
 ·exact (fD.aZ h2).elim
theorem agw (hc:gL P cfg) (hR:Rel cfg cx H D w I O) (hn:¬ D dN) {c:Call} (ho:o.op=.call c) (hcl:c.callee=.builtin .append) (hx:∀x∈c.args.toList,dZ w I O D (ρ x) (a.eval x))
  (h:fD Sp H (gD cfg dN (.call c) ρ) v ups r):fC P cfg cx H D w I O dN o a v ups:=by
 simp only [gD,hcl] at h;split at h
 ·rename_i d s t t' e1 e2;obtain ⟨xd,xs,hargs,hd,hs⟩:=args2 e1;have hty:c.argTypes=#[t,t']:=by rw [← Array.toList_inj]; simpa using e2
  have hdr:dZ w I O D d (a.eval xd):=hd ▸ hx xd (by simp [hargs]);have hsr:dZ w I O D s (a.eval xs):=hs ▸ hx xs (by simp [hargs]);have run:∀ {x' w'},(Builtin.append_ #[t,t'] o.type #[a.eval xd,a.eval xs]).run P w=.ok x' w'→(execOp a.eval o).run P w=.ok (.value x') w':=by
   intro x' w' hr;simp only [execOp,ho,hcl,resolve,invoke,builtin,Sem.run_bind,Sem.run_pure,Result.andThen_ok,hargs,hty,List.map_toArray,List.map_cons,List.map_nil,hr]
  by_cases hsi:∃kk n,s=.int kk n
  ·obtain ⟨kk,n,rfl⟩:=hsi;exact Um hc hR hn hdr hsr run h
  rw [ad2 hsi] at h;obtain ⟨tt',e',ti',q1,q2,q3,h1⟩:=h.nY;obtain ⟨tt,e,ti,p1,p2,p3,h2⟩:=h1.nY;obtain ⟨hpos,h3⟩:=h2.bP;obtain ⟨hbp,h4⟩:=h3.bP;have hpos:0<ti.size:=by simpa using hpos
  have hbp:0<ti.bytes:=by simpa using hbp
  obtain ⟨hu',_⟩:=hc.slice q1 q2 q3;obtain ⟨hu,i,z,hi,hz,hsz,hby,hzs⟩:=hc.slice p1 p2 p3;obtain ⟨i',_,z',hi',_,J2,_,_,_,_,hzl,Pt,_⟩:=(hc.ty e ti p3).ex;rw [hi] at hi'; cases hi';rw [hz] at J2; cases J2;clear h h1 h2 h3;split at h4
  ·exact Wd hR hdr hsr hu hu' hi hsz hpos run h4
  rename_i hself;clear hself;unfold abE at h4;obtain ⟨es',m,g',base',c',r1,hsv,h5,hreads⟩:=Z9 (P:=P) hR hsr h4;obtain ⟨hes',h6⟩:=h5.bP;obtain ⟨news,hnews,CX⟩:=hreads ti.size hes' hpos;rw [hsv] at CX;rw [← hsz] at CX;clear h4 h5 hreads;split at h6
  ·rename_i es n full g;obtain ⟨hfull,h7⟩:=h6.bP;have hes:Om es n ti.size=true:=by
    cases es with
    | zero=>
     simp only at h7;obtain ⟨hz0,_⟩:=h7.bP;cases n with
     | zero=>exact aik
     | succ=>cases hz0
    | succ es1=>
     simp only at h7;exact h7.bP.1
   have hp:=hdr.yV;obtain ⟨olds,holds,Y7⟩:=abU (P:=P) hp hes hpos;generalize hdv:a.eval xd=dv at hp Y7;cases hp with
   | @sl _ _ _ _ aa cap b off vs hcap hfl ha anq hm h11 hr=>
    have hcn:cap=n:=hfl hfull;subst hcn;rw [← hsz] at Y7;clear h6 hdr;have grow:∀(hm0:0<m) (hb:(cap+m)*ti.bytes≤140737488355328),∃c'' rest,cap+m≤c''∧(rest.size=(c'' - (cap+m))*ti.size∧∀j,j<rest.size→(rest.getD j Go.undef).oneCell'=true)∧
      (execOp a.eval o).run P w=.ok (.value (.slice (some ⟨w.heap.size,0,none⟩) (cap+m) c'')) (w.drew.alloc (.cells (olds++news++rest) e)):=by
     intro hm0 hb
     obtain ⟨c'',rest,g1,g2,g3⟩:=run_append_grow (P:=P) (ty:=o.type) hu hu' hi hz Y7 CX om (by rw [hby]; exact hb) om
     exact ⟨c'',rest,g1,⟨by rw [g2,size_zeroCells,hzs],by rw [g2]; exact xK hzs (rP _ _ ti.size Pt)⟩,run (by rw [hdv,hsv]; exact g3)⟩
    have same:m=0→(execOp a.eval o).run P w=.ok (.value (.slice aa (cap+m) cap)) w:=by
     intro hm0;subst hm0;have hnz:news=#[]:=Array.eq_empty_of_size_eq_zero (by have:=hnews.1; omega);refine run ?_;rw [hdv,hsv];exact rR hu hu' hi (CX w rfl) om (λ ad _=>by rw [hnz]; rfl) (λ _=>rfl)
    cases hee:es with
    | zero=>
     rw [hee] at h7;simp only at h7;obtain ⟨hz0,h8⟩:=h7.bP;have hcc:cap=0:=by cases hc0:cap with
      | zero=>rfl
      | succ=>rw [hc0] at hz0; cases hz0
     obtain ⟨hbg,h9⟩:=h8.uX;obtain ⟨rfl,rfl⟩:=h9.jY;by_cases hm0:m=0
     ·have hrun:=same hm0;subst hm0;intro next Q hnx
      have hR2:=hR.empty hn ti.size g';refine qW hrun (hnx _ w I _ hR2 (λ u y hu=>hu.place hR hn (λ _ _=>rfl)) ?_);rw [hcc];exact .dF (p:=⟨ti.size,0,none⟩) (by simp [kP]) (by simp) om (λ h=>by cases h) (λ h=>absurd rfl h) (Nat.zero_le _)
     ·obtain ⟨c'',rest,g1,g2,g3⟩:=grow om (by rw [hcc,Nat.zero_add]; simpa [big] using hbg);have ho0:Gu w I ti.size 0 g' olds:=⟨by have:=holds.1; rw [hcc] at this; exact this,λ k hk=>absurd hk om⟩;rw [hcc] at g1 g2 g3;have key:=fC.grown (P:=P) (o:=o) (a:=a) hR hn [] (g:=g') ho0 hnews g1 g2.1 g2.2 g3;have e3:appG 0 g' g'=g':=by
       funext k;simp [appG]
      rw [e3] at key;simpa [dead] using key
    | succ es1=>
     rw [hee] at h7;simp only at h7;obtain ⟨_,h8⟩:=h7.bP;obtain ⟨hbg,rfl,rfl⟩:=h8.iy;by_cases hm0:m=0
     ·refine fC.dY hR (same hm0) (.pure ?_);subst hm0;by_cases hc0:cap=0
      ·subst hc0;exact .sl 0 0 (λ _ _=>Go.undef) (Nat.le_refl _) (λ h=>by cases h) (λ h=>absurd rfl h) (λ i h=>absurd h om) (λ i j h=>absurd h om) (λ i j h=>absurd h om) (λ i j h=>absurd h om)
      have arC:=wP hes hc0;rw [arC] at anq hm h11 hr;have e3:∀k,k<cap→appG cap g g' k=g k:=λ k hk=>by
       have:Nat.blt k cap=true:=by simpa using hk
       simp [appG,this]
      exact .sl b off vs om (λ h=>by cases h) (λ h=>ha om) (λ k hk=>by rw [e3 k om]; exact anq k om) (λ k j hk hj=>hm k j om hj) (λ k j hk hj=>h11 k j om hj) (λ k j hk hj=>by rw [e3 k om]; exact hr k j om hj)
     ·obtain ⟨c'',rest,g1,g2,g3⟩:=grow om (by simpa [big] using hbg);have hcells:=RH (rest:=rest) holds hnews;have hsize:(olds++news++rest).size=c''*ti.size:=by
       rw [Array.size_append,Array.size_append,holds.1,hnews.1,g2.1,← Nat.add_mul,← Nat.add_mul];congr 1;omega
      have key:=fC.grown (P:=P) (o:=o) (a:=a) (dN:=dN) hR hn [] holds hnews g1 g2.1 g2.2 g3;intro next Q hnx
      have hR0:=Rel.Gv (w:=w) (w':=w.drew) rfl (iC.heap rfl rfl rfl rfl) hR;have ak9:∀b,I b→(w.drew.alloc (.cells (olds++news++rest) e)).heap[b]? = w.heap[b]? := λ b hb=>jG (w:=w.drew) _ (hR.yT b hb);refine qW g3 (hnx _ _ (λ b=>I b∨b=w.heap.size) O ?_ ?_ (.pure ?_))
      ·rw [AZ];have Pq:=(hR0.wh dN);exact { Pq with
        objs:=λ o ob p h1 h2=>((hR.wh dN).objs o ob p h1 h2).mono (λ _ h=>.inl h) ak9 (λ _ _=>.inl rfl) (λ _ h=>h) Pq.used (λ b bo sz hpl=>jG (w:=w.drew) _ (hR.lt o p b bo sz h2 hpl))
        nL:=λ o p b bo sz h1 h2 h3=>by
         rcases h3 with h3 | h3
         ·exact hR.nL o p b bo sz h1 h2 h3
         ·have:=hR.lt o p b bo sz h1 h2; omega
        lt:=λ o p b bo sz h1 h2=>by rw [lQ]; have:=hR.lt o p b bo sz h1 h2; exact Nat.lt_succ_of_lt this
        yT:=λ b h=>by
         rw [lQ]
         rcases h with h | h
         ·exact Nat.lt_succ_of_lt (hR.yT b h)
         ·subst h; exact Nat.lt_succ_self _
        size:=by rw [lQ]; exact Nat.le_succ_of_le hR.size
        env:=Pq.env.step (iC.alloc _ _)
        frame:=λ b h1 h2=>by rw [jG (w:=w.drew) _ (Nat.lt_of_lt_of_le h1 hR.size)]; exact hR.frame b h1 h2
        glob:=λ g cs h=>(hR.glob g cs h).mono (λ _ h=>.inl h) ak9
        O9:=λ b h=>.inl (hR.O9 b h)
        Rw:=λ b h=>by
         rcases h with h | h
         ·exact hR.Rw b h
         ·subst h; exact .inr (.inl hR.size) }
      ·intro u y hu;exact hu.mono (λ _ h=>.inl h) ak9 (λ _ _=>.inl rfl) (λ _ h=>.inl h) hR.used
      ·refine .sl w.heap.size 0 (λ k j=>(olds++news++rest).getD (k*ti.size+j) Go.undef) g1 (λ h=>by cases h) (λ _=>⟨rfl,.inr rfl⟩) (λ k hk=>(hcells k hk).1) (λ k j hk hj=>?_) (λ k j hk hj=>((hcells k hk).2 j hj).2) (λ k j hk hj=>((hcells k hk).2 j hj).1.mono (λ _ h=>.inl h) ak9);have hlt:k*ti.size+j<(olds++news++rest).size:=by
        rw [hsize];have:(k+1)*ti.size≤c''*ti.size:=Nat.mul_le_mul_right _ om;rw [Nat.succ_mul] at this;omega
       have:=uZ (w:=w.drew) (olds++news++rest) e (k*ti.size+j);rw [Nat.zero_add];refine Eq.trans this ?_;rw [Array.getD_eq_getD_getElem?, Array.getElem?_eq_getElem hlt];rfl
  ·rename_i ob k n full;obtain ⟨obj,_,nk,h7⟩:=h6.lY;obtain ⟨p,hp,hO⟩:=hR.live nk;cases obj with
   | map=>exact (fD.aZ h7).elim
   | box cs=>exact (fD.aZ h7).elim
   | row es n' g=>
    obtain ⟨hes,h8⟩:=h7.bP;have hes:es=ti.size:=Nat.eq_of_beq_eq_true hes;subst hes;obtain ⟨hbg,h9⟩:=h8.uX;have hbg:(n+m)*ti.bytes≤140737488355328:=by simpa [big] using hbg
    obtain ⟨aa,cap,hdv,hkn,hcap,hfl,hpl⟩:=hdr.lD hp;obtain ⟨olds,holds,Y7⟩:=RG (P:=P) hO hkn hcap hpos hpl;rw [← hsz] at Y7;have grow:∀(ids:List Nat) (hm0:cap<n+m),fC P cfg cx H D w I O dN o a (.dF dN 0 (n+m) false) ((dN,some (.row ti.size (n+m) (appG n (nI k g) g')))::dead ids):=by
     intro ids hm0;obtain ⟨c'',rest,g1,g2,g3⟩:=run_append_grow (P:=P) (ty:=o.type) hu hu' hi hz Y7 CX hm0 (by rw [hby]; exact hbg) om;exact fC.grown (rest:=rest) hR hn ids holds hnews g1 (by rw [g2,size_zeroCells,hzs]) (by rw [g2]; exact xK hzs (rP _ _ ti.size Pt)) (run (by rw [hdv,hsv]; exact g3))
    have other:fC P cfg cx H D w I O dN o a (.dF dN 0 (n+m) false) [(dN,some (.row ti.size (n+m) (appG n (nI k g) g'))),(ob,none)]:=by
     by_cases hroom:n+m≤cap
     ·by_cases hcap0:cap=0
      ·have hn0:n=0:=by omega
       have hm0:m=0:=by omega
       subst hn0; subst hm0;have hnz:news=#[]:=Array.eq_empty_of_size_eq_zero (by have:=hnews.1; omega);have hrun:=run (rR (P:=P) (ty:=o.type) hu hu' hi (base:=aa) (n:=0) (cap:=cap) (w':=w) (CX w rfl) om (λ ad _=>by rw [hnz]; rfl) (λ _=>rfl) |> λ q=>by rw [hdv,hsv]; exact q);intro next Q hnx
       have Pq:=hR.drop [ob];have hR2:=Pq.empty hn ti.size (appG 0 (nI k g) g');refine qW hrun (hnx _ w I _ (by rw [AB]; exact hR2) (λ u y hu=>(hu.drop hR [ob]).place Pq hn (λ _ _=>rfl)) ?_);exact .dF (p:=⟨ti.size,0,none⟩) (by simp [kP]) (by simp) om (λ h=>by cases h) (λ h=>absurd hcap0 h) (Nat.zero_le _)
      ·obtain ⟨b,bo,sz,abO,haa,hle⟩:=hpl hcap0;obtain ⟨hpn,Rz,hlen,hpl' | ⟨b',ni,sz',hpl',hal,hle',hcs⟩⟩:=hO
       ·rw [abO] at hpl'; cases hpl'.2
       rw [abO] at hpl';cases hpl';rw [Rz] at haa hle;have au5:(k+cap)*ti.size=k*ti.size+cap*ti.size:=Nat.add_mul _ _ _;have apF:(n+m)*ti.size≤cap*ti.size:=Nat.mul_le_mul_right _ hroom;rw [Nat.add_mul] at apF;have av8:=hnews.1;have hst:=run_storeCells_cells (P:=P) b (bo+k*ti.size+n*ti.size) news.toList 0 w (λ j hj=>(hal _ (by simp at hj; omega)).1) (λ j hj=>(hal _ (by simp at hj; omega)).2)
        (λ u hu=>by
          obtain ⟨q,hq,rfl⟩:=List.mem_iff_getElem.1 hu
          have hq':q<news.size:=by simpa using hq
          have hdiv:q / ti.size<m:=(Nat.div_lt_iff_lt_mul hpos).2 om
          have:=((hnews.2 _ hdiv).2 (q % ti.size) (Nat.mod_lt _ hpos)).2
          rw [Nat.div_add_mod'] at this
          simpa [hq'] using this)
       rw [Nat.add_zero] at hst;have hrun:=run (rR (P:=P) (ty:=o.type) hu hu' hi (base:=aa) (n:=n) (cap:=cap) (w':=w.setCells b (bo+k*ti.size+n*ti.size) news.toList) (CX w rfl) hroom
        (λ ad had=>by
          rw [haa] at had
          cases had
          rw [Addr.add_mid,hsz]
          exact hst) (λ hno=>by rw [haa] at hno; cases hno) |> λ q=>by rw [hdv,hsv]; exact q)
       have V7:=(nZ hal (bo+k*ti.size+n*ti.size) news.toList (by simp; omega) (λ q hq=>by
        have hq':q<news.size:=by simpa using hq
        have hdiv:q / ti.size<m:=(Nat.div_lt_iff_lt_mul hpos).2 om;have:=((hnews.2 _ hdiv).2 (q % ti.size) (Nat.mod_lt _ hpos)).2;rw [Nat.div_add_mod'] at this;simpa [hq'] using this)).up (ni:=bo+k*ti.size) om
       obtain ⟨_,hcell⟩:=ko hal.al (bo+k*ti.size+n*ti.size) news.toList (by simp; omega);obtain ⟨hh1,X5⟩:=lZ b news.toList (bo+k*ti.size+n*ti.size) w;have hnI:=hR.nL ob p b bo sz hp abO;have RF:∀b',I b'→(w.setCells b (bo+k*ti.size+n*ti.size) news.toList).heap[b']? = w.heap[b']? := λ b' hb=>X5 b' (λ e=>hnI (e ▸ hb));have Pq:=hR.drop [ob];have hfree:∀o1 p1 b1 Pb Pd,kill O [ob] o1=some p1→p1.pl=some (b1,Pb,Pd)→b1≠b:=by
        intro o1 p1 b1 Pb Pd w1 w2;unfold kill at w1;by_cases hne:o1∈[ob]
        ·simp [hne] at w1
        ·rw [if_neg hne] at w1;exact hR.inj o1 ob p1 p b1 Pb Pd b bo sz w1 hp w2 abO (by simpa using hne)
       have happ:=RH (rest:=#[]) holds hnews;have hR2:=Pq.place hn (w':=w.setCells b (bo+k*ti.size+n*ti.size) news.toList) (nN _ _ _ _) (.row ti.size (n+m) (appG n (nI k g) g')) ⟨ti.size,n+m,some (b,bo+k*ti.size,sz)⟩ rfl X5 hh1 (hR.lt ob p b bo sz hp abO) (hR.new ob p b bo sz hp abO) hnI hfree (by
        refine ⟨rfl,rfl,λ q hq=>(happ q hq).1,.inr ⟨_,_,_,rfl,V7,?_,λ q j hq hj=>?_⟩⟩
        ·rw [Nat.add_mul]; omega
        ·have hq2:(q+1)*ti.size≤(n+m)*ti.size:=Nat.mul_le_mul_right _ hq
         rw [Nat.succ_mul,Nat.add_mul] at hq2
         rw [hcell _ om]
         by_cases hqn:q<n
         ·have hq3:(q+1)*ti.size≤n*ti.size:=Nat.mul_le_mul_right _ hqn
          rw [Nat.succ_mul] at hq3
          rw [if_neg om]
          have e3:appG n (nI k g) g' q=g (k+q):=by
           have:Nat.blt q n=true:=by simpa using hqn
           simp [appG,this,AA]
          rw [e3]
          have e4:bo+k*ti.size+(q*ti.size+j)=bo+((k+q)*ti.size+j):=by rw [Nat.add_mul]; omega
          rw [e4]
          have:=hcs (k+q) j om hj
          exact ⟨this.1.mono (λ _ h=>h) RF,this.2⟩
         ·have hq3:n*ti.size≤q*ti.size:=Nat.mul_le_mul_right _ om
          rw [if_pos (by simp; omega)]
          have e3:appG n (nI k g) g' q=g' (q - n):=by
           have:Nat.blt q n=false:=Mr hqn
           simp [appG,this]
          rw [e3]
          have hqq:q*ti.size=n*ti.size+(q - n)*ti.size:=by rw [← Nat.add_mul]; congr 1; omega
          have e4:bo+k*ti.size+(q*ti.size+j) - (bo+k*ti.size+n*ti.size)=(q - n)*ti.size+j:=by omega
          rw [e4]
          have hlt:(q - n)*ti.size+j<news.size:=by omega
          have:=(hnews.2 (q - n) om).2 j hj
          simp [hlt] at this
          simp [hlt]
          exact ⟨this.1.mono (λ _ h=>h) RF,this.2⟩)
       intro next Q hnx
       refine qW hrun (hnx _ _ I _ (by rw [AB]; exact hR2) (λ u y hu=>(hu.drop hR [ob]).place Pq hn RF) ?_);rw [haa];refine .dF (p:=⟨ti.size,n+m,some (b,bo+k*ti.size,sz)⟩) (by simp [kP]) (by simp) hroom (λ h=>by cases h) (λ _=>⟨_,_,_,rfl,by simp,?_⟩) (by simp; omega);simp only [Nat.zero_add];omega
     ·exact grow [ob] om
    obtain ⟨rfl,rfl⟩:=h9.jY;exact other
  ·exact (fD.aZ h6).elim
 ·exact (fD.aZ h).elim
theorem ad3 {u:AV} {k:Nat→Nat→(Nat→AV)→Pg} {x:Value} (hR:Rel cfg cx H D w I O) (hx:dZ w I O D u x) (h:fD Sp H (Ti u k) v ups r):
  ∃es n g base c r',x=.slice base n c∧fD Sp H (k es n g) v ups r'∧∀size,Om es n size=true→0<size→∀q,q≤n→Reads P w I size q g x:=by
 unfold Ti at h;split at h
 ·rename_i es n f g;have hp:=hx.yV;cases hp with
  | sl b off vs hcap hfull ha hes hm h1 hr=>
   refine ⟨es,n,g,_,_,r,rfl,h,λ size he hs q hq=>?_⟩;by_cases hn:n=0
   ·have hq:q=0:=by omega
    subst hq;exact kr 0 0 (λ _ _=>Go.undef) (λ h=>absurd rfl h) (λ i hi=>absurd hi om) (λ i j hi=>absurd hi om) (λ i j hi=>absurd hi om) (λ i j hi=>absurd hi om) hs
   ·have:=wP he hn;subst this;exact kr b off vs (λ _=>(ha hn).1) (λ i hi=>hes i om) (λ i j hi=>hm i j om) (λ i j hi=>h1 i j om) (λ i j hi=>hr i j om) hs
 ·rename_i ob i n f;obtain ⟨obj,r',nk,h1⟩:=h.lY;obtain ⟨p,hp,hO⟩:=hR.live nk;cases obj with
  | map=>exact (fD.aZ h1).elim
  | box cs=>exact (fD.aZ h1).elim
  | row es m g=>
   obtain ⟨aa,cap,rfl,h2,h3,h4,h5⟩:=hx.lD hp;refine ⟨es,n,nI i g,aa,cap,r',rfl,h1,λ size he hs q hq=>?_⟩;by_cases hn:n=0
   ·have hq:q=0:=by omega
    subst hq;exact kr 0 0 (λ _ _=>Go.undef) (λ h=>absurd rfl h) (λ i hi=>absurd hi om) (λ i j hi=>absurd hi om) (λ i j hi=>absurd hi om) (λ i j hi=>absurd hi om) hs
   ·have:=wP he hn;subst this;obtain ⟨cells,hc1,hc2⟩:=RG (P:=P) (n:=q) (cap:=cap) (aa:=aa) hO om om hs h5;exact ⟨cells,hc1,λ w' hw=>by have:=hc2 w' hw; cases aa<;>exact this⟩
 ·exact (fD.aZ h).elim
theorem ala (hc:gL P cfg) (hR:Rel cfg cx H D w I O) {c:Call} (ho:o.op=.call c) (hcl:c.callee=.builtin .copy) (hx:∀x∈c.args.toList,dZ w I O D (ρ x) (a.eval x))
  (h:fD Sp H (gD cfg dN (.call c) ρ) v ups r):fC P cfg cx H D w I O dN o a v ups:=by
 simp only [gD,hcl] at h;split at h
 ·rename_i d s t t' e1 e2;obtain ⟨xd,xs,hargs,hd,hs⟩:=args2 e1;have hty:c.argTypes=#[t,t']:=by rw [← Array.toList_inj]; simpa using e2
  have hdr:dZ w I O D d (a.eval xd):=hd ▸ hx xd (by simp [hargs]);have hsr:dZ w I O D s (a.eval xs):=hs ▸ hx xs (by simp [hargs]);obtain ⟨tt',e',ti',q1,q2,q3,h1⟩:=h.nY;obtain ⟨tt,e,ti,p1,p2,p3,h2⟩:=h1.nY;obtain ⟨hpos,h4⟩:=h2.bP;have hpos:0<ti.size:=by simpa using hpos
  obtain ⟨hu,i,z,hi,hz,hsz,hby,hzs⟩:=hc.slice p1 p2 p3;have run:∀ {x' w'},(Builtin.copy_ #[t,t'] o.type #[a.eval xd,a.eval xs]).run P w=.ok x' w'→(execOp a.eval o).run P w=.ok (.value x') w':=by
   intro x' w' hr;simp only [execOp,ho,hcl,resolve,invoke,builtin,Sem.run_bind,Sem.run_pure,Result.andThen_ok,hargs,hty,List.map_toArray,List.map_cons,List.map_nil,hr]
  clear h h1 h2;unfold ahJ at h4;obtain ⟨es',m,g',base',c',r1,hsv,h5,hreads⟩:=ad3 (P:=P) hR hsr h4;obtain ⟨hes',h6⟩:=h5.bP;clear h4 h5;split at h6
  ·rename_i ob i0 n full;obtain ⟨obj,r',nk,h7⟩:=h6.lY;obtain ⟨p,hp,hO⟩:=hR.live nk;cases obj with
   | map=>exact (fD.aZ h7).elim
   | box cs=>exact (fD.aZ h7).elim
   | row es N g=>
    obtain ⟨aa,cap,hdv,a1,a2,a3,a4⟩:=hdr.lD hp;obtain ⟨hes,h8⟩:=h7.bP;have hes:es=ti.size:=Nat.eq_of_beq_eq_true hes;obtain ⟨rfl,rfl⟩:=h8.jY;obtain ⟨cells,hcells,hrd⟩:=hreads ti.size hes' hpos (Nat.min m n) (Nat.min_le_left _ _);have hrd:=hrd w rfl;rw [hsv,← hsz] at hrd;have hkn:Nat.min m n≤n:=Nat.min_le_right _ _;generalize hk:Nat.min m n=k at hcells hrd hkn;have apG:∀ {w'},(∀ad,aa=some ad→(storeCells ad cells.toList).run P w=.ok () w')→(aa=none→w'=w)→(Builtin.copy_ #[t,t'] o.type #[a.eval xd,a.eval xs]).run P w=.ok (goInt k) w':=by
     intro w' hw1 hw2;rw [hdv,hsv];cases aa with
     | none=>
      have:=hw2 rfl;subst this;simp [Builtin.copy_,run_underlying hu,sizeOf,typeInfo,hi,Builtin.lenOf,hk,hrd]
     | some ad=>
      have:=hw1 ad rfl;simp [Builtin.copy_,run_underlying hu,sizeOf,typeInfo,hi,Builtin.lenOf,hk,hrd,this]
    by_cases hk0:k=0
    ·subst hk0;have hce:cells=#[]:=Array.eq_empty_of_size_eq_zero (by have:=hcells.1; omega);have hrun:=run (apG (w':=w) (λ ad _=>by rw [hce]; rfl) (λ _=>rfl));rw [V8];intro next Q hnx
     have hR2:Rel cfg cx (lI H [(ob,some (.row es N g))]) (AY D dN) w I O:=by
      rw [RI nk];exact hR.wh dN
     exact qW hrun (hnx _ w I O hR2 (λ u y hu=>hu.wh hR dN) (.pure (.int _ _)))
    ·obtain ⟨b,bo,sz,hpl,haa,hcapz⟩:=a4 om;obtain ⟨hn,ak8,hlen,hpl' | ⟨b',ni,sz',hpl',hal,hle,hcs⟩⟩:=hO
     ·rw [hpl] at hpl'; cases hpl'.2
     rw [hpl] at hpl';cases hpl';rw [ak8] at haa hcapz;subst hes;have hmul:(i0+k)*ti.size≤N*ti.size:=Nat.mul_le_mul_right _ om;rw [Nat.add_mul] at hmul;have hcsz:=hcells.1;have hone:∀j,j<cells.size→(cells.getD j Go.undef).oneCell'=true:=λ j hj=>by
      rw [hcsz] at hj;have h1:j / ti.size<k:=(Nat.div_lt_iff_lt_mul hpos).2 hj;have h2:=((hcells.2 _ h1).2 (j % ti.size) (Nat.mod_lt _ hpos)).2;rwa [Nat.div_add_mod'] at h2
     have hst:=run_storeCells_cells (P:=P) b (bo+i0*ti.size) cells.toList 0 w (λ j hj=>(hal (bo+i0*ti.size+0+j) (by simp at hj; omega)).1) (λ j hj=>(hal (bo+i0*ti.size+0+j) (by simp at hj; omega)).2)
      (λ u hu=>by
        obtain ⟨j,hj,rfl⟩:=List.mem_iff_getElem.1 hu
        have hj':j<cells.size:=by simpa using hj
        simpa [hj'] using hone j hj')
     rw [Nat.add_zero] at hst;have hrun:=run (apG (w':=w.setCells b (bo+i0*ti.size) cells.toList) (λ ad h=>by rw [haa] at h; cases h; exact hst) (λ h=>by rw [haa] at h; cases h));have V7:=nZ hal (bo+i0*ti.size) cells.toList (by simp; omega) (λ j hj=>by have hj':j<cells.size:=(by simpa using hj); simpa [hj'] using hone j hj');obtain ⟨_,hcell⟩:=ko hal.al (bo+i0*ti.size) cells.toList (by simp; omega);obtain ⟨hh1,X5⟩:=lZ b cells.toList (bo+i0*ti.size) w;have RF:∀b',I b'→(w.setCells b (bo+i0*ti.size) cells.toList).heap[b']? = w.heap[b']? := λ b' hb=>X5 b' (λ e=>hR.nL ob p b bo sz hp hpl (e ▸ hb));have keep:∀u z,dZ w I O D u z→dZ (w.setCells b (bo+i0*ti.size) cells.toList) I O D u z:=λ u z hu=>hu.mono (λ _ h=>h) RF (λ _ _=>.inl rfl) (λ _ h=>h) hR.used;have J4:∀u z,ig w I u z→ig (w.setCells b (bo+i0*ti.size) cells.toList) I u z:=λ u z hu=>hu.mono (λ _ h=>h) RF;have J3:=hR.write (nN _ _ _ _) (.row ti.size N (cpG i0 k g g')) hp hpl X5 hh1 (by
      refine ⟨hn,ak8,λ j hj=>?_,.inr ⟨b,bo,sz,hpl,V7,hle,λ j q hj hq=>?_⟩⟩
      ·by_cases hin:i0≤j∧j<i0+k
       ·rw [V9 hin.1 hin.2]
        exact (hcells.2 (j - i0) om).1
       ·rw [Pw hin]
        exact hlen j hj
      ·have hmj:(j+1)*ti.size≤N*ti.size:=Nat.mul_le_mul_right _ hj
       rw [Nat.succ_mul] at hmj
       rw [hcell _ om]
       by_cases hin:i0≤j∧j<i0+k
       ·rw [V9 hin.1 hin.2]
        have q1:i0*ti.size≤j*ti.size:=Nat.mul_le_mul_right _ hin.1
        have q2:(j+1)*ti.size≤(i0+k)*ti.size:=Nat.mul_le_mul_right _ hin.2
        rw [Nat.succ_mul,Nat.add_mul] at q2
        have q3:(j - i0)*ti.size=j*ti.size - i0*ti.size:=Nat.sub_mul _ _ _
        rw [if_pos (by simp; omega)]
        have e3:bo+(j*ti.size+q) - (bo+i0*ti.size)=(j - i0)*ti.size+q:=by omega
        rw [e3]
        have hh:=(hcells.2 (j - i0) om).2 q hq
        have e4:cells.toList.getD ((j - i0)*ti.size+q) Go.undef=cells.getD ((j - i0)*ti.size+q) Go.undef:=by
         have hlt:(j - i0)*ti.size+q<cells.size:=by omega
         simp [hlt]
        rw [e4]
        exact ⟨J4 _ _ hh.1,hh.2⟩
       ·rw [Pw hin]
        rw [if_neg ?_]
        ·exact ⟨J4 _ _ (hcs j q hj hq).1,(hcs j q hj hq).2⟩
        ·intro ⟨r1,r2⟩
         have r2:bo+(j*ti.size+q)<bo+i0*ti.size+cells.size:=by simpa using r2
         apply hin
         constructor
         ·rcases Nat.lt_or_ge j i0 with h | h
          ·have:(j+1)*ti.size≤i0*ti.size:=Nat.mul_le_mul_right _ h
           rw [Nat.succ_mul] at this
           omega
          ·exact h
         ·rcases Nat.lt_or_ge j (i0+k) with h | h
          ·exact h
          ·have:(i0+k)*ti.size≤j*ti.size:=Nat.mul_le_mul_right _ h
           rw [Nat.add_mul] at this
           omega)
     intro next Q hnx
     exact qW hrun (hnx _ _ I O (J3.wh dN) (λ u z hu=>(keep u z hu).wh J3 dN) (.pure (.int _ _)))
  ·exact (fD.aZ h6).elim
 ·exact (fD.aZ h).elim
end
end Go.Ab
namespace Go.Ab
section
variable {P:Program} {cfg:uT} {cx:Ctx} {H:Nat→Option dP} {D:Nat→Prop} {w:World} {I:Nat→Prop} {O:OM} {Sp:ny}
variable {dN:Nat} {o:Oper} {a:Act} {ρ:Operand→AV} {v:AV} {ups:jW} {r:List Nat}
theorem abV (g:Nat→AV) (ns:List Int):∀(k i:Nat) (s:ByteArray),k+i=ns.length→(∀j,i≤j→j<ns.length→g j=.int .u8 (ns.getD j 0))→Gq k i g s=(ns.drop i).foldl (λ r n=>r.push (UInt8.ofNat n.toNat)) s:=by
 intro k;induction k with
 | zero=>intro i s h _; rw [List.drop_eq_nil_of_le om]; rfl
 | succ k ih=>
  intro i s h hg;rw [show ns.drop i=ns.getD i 0::ns.drop (i+1) by rw [List.drop_eq_getElem_cons om,List.getD_eq_getElem?_getD,List.getElem?_eq_getElem om]; rfl];simp only [Gq,List.foldl_cons];rw [hg i (Nat.le_refl _) om];exact ih (i+1) _ om (λ j hj hj'=>hg j om hj')
theorem ain (hc:gL P cfg) (hR:Rel cfg cx H D w I O) {src dst:TypeId} {x:Operand} (ho:o.op=.convert src dst x) (hx:dZ w I O D (ρ x) (a.eval x)) {td:Mh} (hd:look cfg.ty dst=some td) (hs:am8 td.desc=true)
  (h:fD Sp H (ZX cfg src (ρ x)) v ups r):fC P cfg cx H D w I O dN o a v ups:=by
 unfold ZX at h;obtain ⟨tt,e,ei,p1,p2,p3,h1⟩:=h.nY;obtain ⟨hu8,h2⟩:=h1.bP;obtain ⟨hu,i,z,hi,hiz,hsz,_⟩:=hc.slice p1 p2 p3;obtain ⟨es,n,g,base,c,r1,hxv,h3,hreads⟩:=Z9 (P:=P) hR hx h2;obtain ⟨hes,h4⟩:=h3.bP;obtain ⟨hall,h5⟩:=h4.uX;obtain ⟨rfl,rfl⟩:=h5.eZ;obtain ⟨cells,hcells,hrd⟩:=hreads 1 hes om;have hue:P.underlying e=some (.int .u8):=by
  obtain ⟨_,d,_,_,hud,_,_,_,_,_,_,_,hm⟩:=(hc.ty e ei p3).ex;unfold u8D at hu8;split at hu8
  ·rename_i hdd;rw [hdd] at hm;have hm:d=.int .u8:=hm;rw [hud,hm]
  ·cases hu8
 have hdd:P.underlying dst=some .string:=by
  obtain ⟨_,d,_,_,hud,_,_,_,_,_,_,_,hm⟩:=(hc.ty dst td hd).ex;unfold am8 at hs;split at hs
  ·rename_i hq;rw [hq] at hm;have hm:d=.string:=hm;rw [hud,hm]
  ·cases hs
 have hus:∃ds,P.underlying src=some ds:=⟨_,hu⟩;let num:AV→Int:=λ u=>match u with | .int _ m=>m | _=>0
 have hg8:∀j,j<n→g j=.int .u8 (num (g j)):=λ j hj=>by
  have:=hall j hj;cases hgj:g j with
  | int k m=>rw [hgj] at this; cases k<;>first | rfl | cases this
  | _=>rw [hgj] at this; cases this
 obtain ⟨ns,hns⟩:∃ns:List Int,ns=(List.range n).map λ j=>num (g j):=⟨_,rfl⟩;have hnl:ns.length=n:=by rw [hns]; simp
 have hng:∀j,j<n→ns.getD j 0=num (g j):=λ j hj=>by
  rw [hns,List.getD_eq_getElem?_getD,List.getElem?_map,List.getElem?_range hj];rfl
 have hce:cells=(ns.map (Value.int .u8)).toArray:=by
  apply Array.ext
  ·rw [hcells.1]; simp [hnl]
  ·intro j h1 h2;have hj:j<n:=by have:=hcells.1; omega
   have h3:=((hcells.2 j hj).2 0 om).1;rw [hg8 j hj] at h3;have h4:ig w I (.int .u8 (num (g j))) (cells.getD (j*1+0) Go.undef):=h3;have h5:cells.getD (j*1+0) Go.undef=.int .u8 (num (g j)):=(dZ.pure (O:=λ _=>none) (D:=λ _=>False) h4).iD;rw [Nat.mul_one,Nat.add_zero] at h5;have h6:cells.getD j Go.undef=cells[j]:=by simp [h1]
   rw [h6] at h5;rw [h5];have:=hng j hj;rw [List.getD_eq_getElem?_getD,List.getElem?_eq_getElem om] at this;simp at this;simp [this]
 have hval:Gq n 0 g ByteArray.empty=ns.foldl (λ r n=>r.push (UInt8.ofNat n.toNat)) ByteArray.empty:=by
  have:=abV g ns n 0 ByteArray.empty om (λ j _ hj=>by rw [hng j om]; exact hg8 j om);rw [this,List.drop_zero]
 refine fC.dY (x:=.string (Gq n 0 g ByteArray.empty)) hR ?_ (.pure (.str _));rw [hval];simp only [execOp,ho,hxv,Sem.run_bind,run_convert_bytes_string w src dst e base n c hu hue hdd];cases base with
 | none=>
  have hn0:n=0:=by
   have h7:=hrd w rfl;rw [hxv] at h7;have h8:(#[]:Array Value)=cells:=by simpa [Builtin.firstCells] using h7
   have h9:=hcells.1;rw [← h8] at h9;simpa using h9.symm
  have:ns=[]:=List.eq_nil_of_length_eq_zero om;subst this;simp [Conv.bytesToString]
 | some ad=>
  have hload:(loadCells ad n).run P w=.ok (ns.map (Value.int .u8)).toArray w:=by
   have:=hrd w rfl;rw [hxv,hce] at this;have e1:Builtin.firstCells 1 n (.slice (some ad) n c)=loadCells ad (n*1):=rfl;rw [e1,Nat.mul_one] at this;exact this
  rw [run_bytesToString w ad n c ns hload];rfl
theorem ad4 (hc:gL P cfg) (hR:Rel cfg cx H D w I O) {s d:TypeId} {x:Operand} (ho:o.op=.convert s d x) (hx:dZ w I O D (ρ x) (a.eval x))
  (h:fD Sp H (gD cfg dN (.convert s d x) ρ) v ups r):fC P cfg cx H D w I O dN o a v ups:=by
 simp only [gD] at h;obtain ⟨ts,hs,h1⟩:=h.kg;obtain ⟨td,hd,h2⟩:=h1.kg;obtain ⟨_,ds,_,_,hus,_⟩:=(hc.ty s ts hs).ex;obtain ⟨_,dd,_,_,hud,_,_,_,_,_,_,_,hm⟩:=(hc.ty d td hd).ex;split at h2
 ·exact ain hc hR ho hx hd (by assumption) h2
 split at h2
 ·rename_i k k' n e1 e2;rw [e2] at hx;rw [e1] at hm;have hm:dd=.int k:=hm;subst hm;obtain ⟨rfl,rfl⟩:=h2.eZ;refine fC.dY (x:=.int k _) hR ?_ (.pure (.int _ _));simp [execOp,ho,hx.iD,convert,bN hus,bN hud,Conv.intToInt]
 ·exact (fD.aZ h2).elim
theorem aio (hc:gL P cfg) (hR:Rel cfg cx H D w I O) {c:Call} (ho:o.op=.call c) (hcl:c.callee=.builtin .clear) (hx:∀x∈c.args.toList,dZ w I O D (ρ x) (a.eval x))
  (h:fD Sp H (gD cfg dN (.call c) ρ) v ups r):fC P cfg cx H D w I O dN o a v ups:=by
 simp only [gD,hcl] at h;split at h
 ·rename_i ob i0 n full t e1 e2;obtain ⟨x,hargs,hd⟩:∃x,c.args=#[x]∧ρ x=.dF ob i0 n full:=by
   have hl:c.args.toList.length=1:=by
    have:=congrArg List.length e1;simpa using this
   match hh:c.args.toList,hl with
   | [x],_=>
    refine ⟨x,by rw [← Array.toList_inj]; simpa using hh,?_⟩
    rw [hh] at e1
    simpa using e1
  have hty:c.argTypes=#[t]:=by rw [← Array.toList_inj]; simpa using e2
  have hdr:dZ w I O D (.dF ob i0 n full) (a.eval x):=hd ▸ hx x (by simp [hargs]);obtain ⟨tt,e,ti,p1,p2,p3,h1⟩:=h.nY;obtain ⟨hz,h2⟩:=h1.bP;obtain ⟨hpos,_⟩:=EK hz;obtain ⟨hu,i,z,hi,hiz,hsz,hby,hzs⟩:=hc.slice p1 p2 p3;obtain ⟨i',_,z',hi',_,J2,_,_,_,_,hzl,Pt,_⟩:=(hc.ty e ti p3).ex;rw [hi] at hi'; cases hi';rw [hiz] at J2; cases J2;obtain ⟨obj,_,nk,h3⟩:=h2.lY;obtain ⟨p,hp,hO⟩:=hR.live nk;have run:∀ {x' w'},(Builtin.clear_ #[t] o.type #[a.eval x]).run P w=.ok x' w'→(execOp a.eval o).run P w=.ok (.value x') w':=by
   intro x' w' hr;simp only [execOp,ho,hcl,resolve,invoke,builtin,Sem.run_bind,Sem.run_pure,Result.andThen_ok,hargs,hty,List.map_toArray,List.map_cons,List.map_nil,hr]
  cases obj with
  | map=>exact (fD.aZ h3).elim
  | box cs=>exact (fD.aZ h3).elim
  | row es N g=>
   obtain ⟨hes,h4⟩:=h3.bP;have hes:es=ti.size:=Nat.eq_of_beq_eq_true hes;obtain ⟨rfl,rfl⟩:=h4.jY;subst hes;have Rz:p.es=ti.size:=hO.2.1;have hpn:p.n=N:=hO.1;obtain ⟨aa,cap,hdv,a1,a2,a3,a4⟩:=hdr.lD hp;by_cases hn0:n=0
   ·subst hn0;have hr:(Builtin.clear_ #[t] o.type #[a.eval x]).run P w=.ok (.tuple #[]) w:=by
     rw [hdv];cases aa<;>simp [Builtin.clear_,bN hu]
    intro next Q hnx
    refine qW (run hr) (hnx _ w I O (by rw [V8,RI nk]; exact hR.wh dN) (λ u y hu=>hu.wh hR dN) (.pure (.undef _)))
   ·obtain ⟨b,bo,sz,hpl,haa,hcapz⟩:=a4 om;have hcells:Gu w I ti.size n (λ _=>zeroOf ti) ((Array.range (n*ti.size)).map (λ k=>z.cells[k % z.cells.size]!)):=by
     refine ⟨by simp,λ j hj=>?_⟩;rw [zV hz hzl];refine ⟨by rw [iR]; exact hzl,λ q hq=>?_⟩;rw [rQ z.cells n j q ti.size hzs hj hq];exact ⟨x9 _ _ ti.size hzl Pt q hq,rP _ _ ti.size Pt q hq⟩
    obtain ⟨hst,J3,keep⟩:=hR.ail (P:=P) (i0:=i0) (k:=n) hp hO hpl hpos hcells om;have hzc:Builtin.zeroCells z.cells n=(Array.range (n*ti.size)).map (λ k=>z.cells[k % z.cells.size]!):=by
     unfold Builtin.zeroCells;rw [hzs]
    have hr:(Builtin.clear_ #[t] o.type #[a.eval x]).run P w=.ok (.tuple #[]) (w.setCells b (bo+i0*ti.size) ((Array.range (n*ti.size)).map (λ k=>z.cells[k % z.cells.size]!)).toList):=by
     rw [hdv,haa,Rz];rw [← hzc] at hst ⊢;cases n with
     | zero=>exact absurd rfl hn0
     | succ n=>
      simp only [Builtin.clear_,List.getElem?_toArray,List.getElem?_cons_zero,Sem.run_bind,Sem.run_pure,bN hu,zeroValue,typeInfo,program,Sem.run,hi,hiz,Result.andThen] at hst ⊢;rw [hst]
    intro next Q hnx
    exact qW (run hr) (hnx _ _ I O (J3.wh dN) (λ u y hu=>(keep u y hu).wh J3 dN) (.pure (.undef _)))
 ·exact (fD.aZ h).elim
end
end Go.Ab
namespace Go.Ab
section
variable {P:Program} {cfg:uT} {cx:Ctx} {H:Nat→Option dP} {D:Nat→Prop} {w:World} {I:Nat→Prop} {O:OM} {Sp:ny}
variable {dN:Nat} {o:Oper} {a:Act} {ρ:Operand→AV} {v:AV} {ups:jW} {r:List Nat}
theorem dZ.yg {u:AV} {x:Value} (h:dZ w I O D u x) (hp:nX u=true):ig w I u x:=by
 cases h with
 | pure h=>exact h
 | _=>cases hp
theorem Yj {l:List AV} (h:wO l=true):∀j,j<l.length→nX (nth l j)=true:=by
 induction l with
 | nil=>intro j hj; cases hj
 | cons u l ih=>
  intro j hj;unfold wO at h;cases hv:nX u with
  | false=>simp [hv] at h
  | true=>
   simp only [hv] at h;cases j with
   | zero=>exact hv
   | succ j=>exact ih h j (by simpa using hj)
theorem EL:∀(l:List Nat) (x k j:Nat),tq l x k=some j→k≤j∧j - k<l.length∧gT l (j - k)=x:=by
 intro l;induction l with
 | nil=>intro x k j h; cases h
 | cons y l ih=>
  intro x k j h;unfold tq at h;cases hb:Nat.beq y x with
  | true=>
   simp only [hb] at h;cases h;exact ⟨Nat.le_refl _,by simp,by simp [gT,Nat.eq_of_beq_eq_true hb]⟩
  | false=>
   simp only [hb] at h;obtain ⟨h1,h2,h3⟩:=ih x (k+1) j h;refine ⟨by omega,by simp; omega,?_⟩;have:j - k=(j - (k+1))+1:=by omega
   rw [this];exact h3
theorem abW:∀(sg:List Nat) (k:List dP→Pg) (r:List Nat),fD Sp H (afb sg k) v ups r→∃obs r',fD Sp H (k obs) v ups r'∧obs.length=sg.length∧∀j,j<sg.length→∃x,hof obs j=some x∧H (gT sg j)=some x:=by
 intro sg;induction sg with
 | nil=>intro k r h; exact ⟨[],r,h,rfl,λ j hj=>by cases hj⟩
 | cons x sg ih=>
  intro k r h;simp only [afb] at h;obtain ⟨ob,r1,nk,h1⟩:=h.lY;obtain ⟨obs,r2,h2,h3,h4⟩:=ih _ _ h1;refine ⟨ob::obs,r2,h2,by simp [h3],λ j hj=>?_⟩;cases j with
  | zero=>exact ⟨ob,rfl,nk⟩
  | succ j=>exact h4 j (by simpa using hj)
def og (O:OM) (sg:List Nat):OM:=λ j=>if j<sg.length then O (gT sg j) else none
variable {sg:List Nat}
theorem wR (hR:Rel cfg cx H D w I O) (hlive:∀j,j<sg.length→∃x,H (gT sg j)=some x) {o j:Nat} (h:tq sg o 0=some j):j<sg.length∧∃p,O o=some p∧og O sg j=some p:=by
 obtain ⟨_,h2,h3⟩:=EL sg o 0 j h;simp only [Nat.sub_zero] at h2 h3;obtain ⟨y,hy⟩:=hlive j h2;rw [h3] at hy;obtain ⟨p,hp,_⟩:=hR.live hy;exact ⟨h2,p,hp,by unfold og; rw [if_pos h2,h3]; exact hp⟩
theorem abX (hR:Rel cfg cx H D w I O) (hlive:∀j,j<sg.length→∃x,H (gT sg j)=some x) {u:AV} {k:AV→Pg} {r:List Nat} (h:fD Sp H (ahK sg u k) v ups r):
  ∃u',fD Sp H (k u') v ups r∧∀(I':Nat→Prop) (_:∀b,I b→I' b) x,dZ w I O D u x→dZ w I' (og O sg) (λ o=>o<sg.length) u' x:=by
 have Wh:nX u=true→∀(I':Nat→Prop) (_:∀b,I b→I' b) x,dZ w I O D u x→dZ w I' (og O sg) (λ o=>o<sg.length) u x:=λ hp I' hI x hx=>.pure ((hx.yg hp).mono hI (λ _ _=>rfl));unfold ahK at h;split at h
 ·rename_i ob i off;cases hi:tq sg ob 0 with
  | none=>rw [hi] at h; exact (fD.aZ h).elim
  | some j=>
   rw [hi] at h;obtain ⟨h1,p,h2,h3⟩:=wR hR hlive hi;refine ⟨_,h,λ I' hI x hx=>?_⟩;obtain ⟨b,bo,sz,q1,q2,rfl⟩:=hx.nM h2;exact .ptr h3 q1 q2
 ·rename_i ob i n f;cases hi:tq sg ob 0 with
  | none=>rw [hi] at h; exact (fD.aZ h).elim
  | some j=>
   rw [hi] at h;obtain ⟨h1,p,h2,h3⟩:=wR hR hlive hi;refine ⟨_,h,λ I' hI x hx=>?_⟩;obtain ⟨aa,cap,rfl,q1,q2,q3,q4⟩:=hx.lD h2;exact .dF h3 q1 q2 q3 q4 (hx.CV h2)
 ·rename_i ob;cases hi:tq sg ob 0 with
  | none=>rw [hi] at h; exact (fD.aZ h).elim
  | some j=>
   rw [hi] at h;obtain ⟨h1,p,h2,h3⟩:=wR hR hlive hi;refine ⟨_,h,λ I' hI x hx=>?_⟩;obtain ⟨b,bo,sz,q1,rfl⟩:=hx.uW h2;exact .mref h3 q1
 ·obtain ⟨hp,h⟩:=h.bP;exact ⟨_,h,Wh hp⟩
theorem Wi (hR:Rel cfg cx H D w I O) (hlive:∀j,j<sg.length→∃x,H (gT sg j)=some x):∀(l:List AV) (k:List AV→Pg) (r:List Nat),fD Sp H (adL sg l k) v ups r→
  ∃l',fD Sp H (k l') v ups r∧l'.length=l.length∧∀j,j<l.length→∀(I':Nat→Prop) (_:∀b,I b→I' b) x,dZ w I O D (nth l j) x→dZ w I' (og O sg) (λ o=>o<sg.length) (nth l' j) x:=by
 intro l;induction l with
 | nil=>intro k r h; exact ⟨[],h,rfl,λ j hj=>by cases hj⟩
 | cons u l ih=>
  intro k r h;simp only [adL] at h;obtain ⟨u',h1,h2⟩:=abX hR hlive h;obtain ⟨l',h3,h4,h5⟩:=ih _ _ h1;refine ⟨u'::l',h3,by simp [h4],λ j hj I' hI x hx=>?_⟩;cases j with
  | zero=>exact h2 I' hI x hx
  | succ j=>exact h5 j (by simpa using hj) I' hI x hx
theorem Wj (hR:Rel cfg cx H D w I O) (hlive:∀j,j<sg.length→∃x,H (gT sg j)=some x) {f:FuncId} {cs:List AV} {k:List AV→Pg} {r:List Nat} (h:fD Sp H (adL sg cs k) v ups r):
  ∃cs',fD Sp H (k cs') v ups r∧∀(I':Nat→Prop) (_:∀b,I b→I' b) x,dZ w I O D (.fn f cs) x→dZ w I' (og O sg) (λ o=>o<sg.length) (.fn f cs') x:=by
 obtain ⟨cs',h1,h2,h3⟩:=Wi hR hlive cs _ _ h;refine ⟨cs',h1,λ I' hI x hx=>?_⟩;obtain ⟨xs,rfl,hl,hr⟩:=hx.JX;exact .fn (by rw [h2]; exact hl) λ j hj=>h3 j om I' hI _ (hr j om)
theorem Nr (hR:Rel cfg cx H D w I O) (hlive:∀j,j<sg.length→∃x,H (gT sg j)=some x) {u:AV} {k:AV→List Nat→Pg} (h:fD Sp H (Mj sg u k) v ups r):
  ∃u' ids r',fD Sp H (k u' ids) v ups r'∧∀x,dZ w I O D u x→dZ w (λ b=>I b∨Cr O ids b) (og O sg) (λ o=>o<sg.length) u' x:=by
 have dflt:∀ {u:AV} {r:List Nat},fD Sp H (X4 fuel u k) v ups r→∃u' ids r',fD Sp H (k u' ids) v ups r'∧∀x,dZ w I O D u x→dZ w (λ b=>I b∨Cr O ids b) (og O sg) (λ o=>o<sg.length) u' x:=by
  intro u r h;obtain ⟨u',ids,r',h1,h2⟩:=(EJ hR fuel).1 _ _ _ _ _ h;exact ⟨u',ids,r',h1,λ x hx=>.pure (h2 x hx)⟩
 unfold Mj at h;split at h
 ·rename_i ob i off;cases hi:tq sg ob 0 with
  | none=>rw [hi] at h; exact dflt h
  | some j=>
   rw [hi] at h;obtain ⟨_,h2,h3⟩:=EL sg ob 0 j hi;simp only [Nat.sub_zero] at h2 h3;refine ⟨_,_,r,h,λ x hx=>?_⟩;obtain ⟨y,hy⟩:=hlive j h2;rw [h3] at hy;obtain ⟨p,hp,_⟩:=hR.live hy;obtain ⟨b,bo,sz,q1,q2,rfl⟩:=hx.nM hp;exact .ptr (by unfold og; rw [if_pos h2,h3]; exact hp) q1 q2
 ·rename_i ob i n f;cases hi:tq sg ob 0 with
  | none=>rw [hi] at h; exact dflt h
  | some j=>
   rw [hi] at h;obtain ⟨_,h2,h3⟩:=EL sg ob 0 j hi;simp only [Nat.sub_zero] at h2 h3;refine ⟨_,_,r,h,λ x hx=>?_⟩;obtain ⟨y,hy⟩:=hlive j h2;rw [h3] at hy;obtain ⟨p,hp,_⟩:=hR.live hy;obtain ⟨aa,cap,rfl,q1,q2,q3,q4⟩:=hx.lD hp;exact .dF (by unfold og; rw [if_pos h2,h3]; exact hp) q1 q2 q3 q4 (hx.CV hp)
 ·rename_i ob;cases hi:tq sg ob 0 with
  | none=>rw [hi] at h; exact dflt h
  | some j=>
   rw [hi] at h;obtain ⟨_,p,h2,h3⟩:=wR hR hlive hi;refine ⟨_,_,r,h,λ x hx=>?_⟩;obtain ⟨b,bo,sz,q1,rfl⟩:=hx.uW h2;exact .mref h3 q1
 ·rename_i f cs;cases hi:afa sg (Tj cs) with
  | false=>rw [hi] at h; exact dflt h
  | true=>
   rw [hi] at h;obtain ⟨cs',h1,h2⟩:=Wj (f:=f) hR hlive h;exact ⟨_,_,r,h1,λ x hx=>h2 _ (λ b hb=>.inl hb) x hx⟩
 ·rename_i cs;cases hi:afa sg (Tj cs) with
  | false=>rw [hi] at h; exact dflt h
  | true=>
   rw [hi] at h;obtain ⟨cs',h1,h2,h3⟩:=Wi hR hlive cs _ _ h;refine ⟨_,_,r,h1,λ x hx=>?_⟩;obtain ⟨xs,rfl,hl,hr⟩:=hx.qB;exact .agg (by rw [h2]; exact hl) λ j hj=>h3 j om _ (λ b hb=>.inl hb) _ (hr j om)
 ·exact dflt h
theorem J5 (hR:Rel cfg cx H D w I O) (hlive:∀j,j<sg.length→∃x,H (gT sg j)=some x):∀(l:List AV) (k:List AV→List Nat→Pg) (r:List Nat),fD Sp H (EH sg l k) v ups r→
  ∃l' ids r',fD Sp H (k l' ids) v ups r'∧l'.length=l.length∧∀j,j<l.length→∀x,dZ w I O D (nth l j) x→dZ w (λ b=>I b∨Cr O ids b) (og O sg) (λ o=>o<sg.length) (nth l' j) x:=by
 intro l;induction l with
 | nil=>intro k r h; exact ⟨[],[],r,h,rfl,λ j hj=>by cases hj⟩
 | cons u l ih=>
  intro k r h;simp only [EH] at h;obtain ⟨u',i1,r1,h1,h2⟩:=Nr hR hlive h;obtain ⟨l',i2,r2,h3,h4,h5⟩:=ih _ _ h1;have jv:∀o p,og O sg o=some p→o<sg.length:=λ o p h=>by
   unfold og at h;split at h
   ·assumption
   ·cases h
  refine ⟨u'::l',i1++i2,r2,h3,by simp [h4],λ j hj x hx=>?_⟩;cases j with
  | zero=>exact (h2 x hx).mono (λ b h=>h.elim .inl λ h=>.inr h.adW) (λ _ _=>rfl) (λ _ _=>.inl rfl) (λ _ h=>h) jv
  | succ j=>exact (h5 j (by simpa using hj) x hx).mono (λ b h=>h.elim .inl λ h=>.inr h.adX) (λ _ _=>rfl) (λ _ _=>.inl rfl) (λ _ h=>h) jv
theorem Gw:∀(l:List Nat),nJ l=true→∀i j,i<l.length→j<l.length→gT l i=gT l j→i=j:=by
 have mem:∀(l:List Nat) (j:Nat),j<l.length→gT l j∈l:=by
  intro l;induction l with
  | nil=>intro j hj; cases hj
  | cons x l ih=>intro j hj; cases j with
   | zero=>simp [gT]
   | succ j=>exact List.mem_cons_of_mem _ (ih j (by simpa using hj))
 intro l;induction l with
 | nil=>intro _ i j hi; cases hi
 | cons x l ih=>
  intro h i j hi hj he;unfold nJ at h;cases hm:zS x l with
  | true=>simp [hm] at h
  | false=>
   simp only [hm] at h;have hx:=wQ hm;cases i with
   | zero=>cases j with
    | zero=>rfl
    | succ j=>simp only [gT] at he; exact absurd (he ▸ mem l j (by simpa using hj)) hx
   | succ i=>cases j with
    | zero=>simp only [gT] at he; exact absurd (he ▸ mem l i (by simpa using hi)) hx
    | succ j=>simp only [gT] at he; rw [ih h i j (by simpa using hi) (by simpa using hj) he]
theorem pU:∀(l:List Nat) (j:Nat),j<l.length→gT l j∈l:=by
 intro l;induction l with
 | nil=>intro j hj; cases hj
 | cons x l ih=>intro j hj; cases j with
  | zero=>simp [gT]
  | succ j=>exact List.mem_cons_of_mem _ (ih j (by simpa using hj))
theorem Wm:∀(l:List Nat) (x:Nat),x∈l→∃j,j<l.length∧gT l j=x:=by
 intro l;induction l with
 | nil=>intro x h; cases h
 | cons y l ih=>
  intro x h;rcases List.mem_cons.1 h with h | h
  ·exact ⟨0,by simp,h.symm⟩
  ·obtain ⟨j,h1,h2⟩:=ih x h;exact ⟨j+1,by simp; omega,h2⟩
theorem Ov:∀(l m:List Nat),JR l m=true→∀x∈l,x ∉ m:=by
 intro l;induction l with
 | nil=>intro m _ x hx; cases hx
 | cons y l ih=>
  intro m h x hx;unfold JR at h;cases hm:zS y m with
  | true=>simp [hm] at h
  | false=>
   simp only [hm] at h;rcases List.mem_cons.1 hx with hx | hx
   ·subst hx; exact wQ hm
   ·exact ih m h x hx
theorem ad5 (hR:Rel cfg cx H D w I O) (hlive:∀j,j<sg.length→∃x,H (gT sg j)=some x) {u:AV} {k:AV→Pg} {r:List Nat} (h:fD Sp H (inv1 sg u k) v ups r):
  ∃u',fD Sp H (k u') v ups r∧∀(I':Nat→Prop) (_:∀b,I b→I' b) x,dZ w I O D u x→dZ w I' (og O sg) (λ o=>o<sg.length) u' x:=by
 have Wh:nX u=true→∀(I':Nat→Prop) (_:∀b,I b→I' b) x,dZ w I O D u x→dZ w I' (og O sg) (λ o=>o<sg.length) u x:=λ hp I' hI x hx=>.pure ((hx.yg hp).mono hI (λ _ _=>rfl));unfold inv1 at h;split at h
 ·rename_i ob i off;cases hi:tq sg ob 0 with
  | none=>rw [hi] at h; exact (fD.aZ h).elim
  | some j=>
   rw [hi] at h;obtain ⟨h1,p,h2,h3⟩:=wR hR hlive hi;refine ⟨_,h,λ I' hI x hx=>?_⟩;obtain ⟨b,bo,sz,q1,q2,rfl⟩:=hx.nM h2;exact .ptr h3 q1 q2
 ·rename_i ob i n f;cases hi:tq sg ob 0 with
  | none=>rw [hi] at h; exact (fD.aZ h).elim
  | some j=>
   rw [hi] at h;obtain ⟨h1,p,h2,h3⟩:=wR hR hlive hi;refine ⟨_,h,λ I' hI x hx=>?_⟩;obtain ⟨aa,cap,rfl,q1,q2,q3,q4⟩:=hx.lD h2;exact .dF h3 q1 q2 q3 q4 (hx.CV h2)
 ·rename_i ob;cases hi:tq sg ob 0 with
  | none=>rw [hi] at h; exact (fD.aZ h).elim
  | some j=>
   rw [hi] at h;obtain ⟨h1,p,h2,h3⟩:=wR hR hlive hi;refine ⟨_,h,λ I' hI x hx=>?_⟩;obtain ⟨b,bo,sz,q1,rfl⟩:=hx.uW h2;exact .mref h3 q1
 ·rename_i f cs;obtain ⟨cs',h1,h2⟩:=Wj (f:=f) hR hlive h;exact ⟨_,h1,h2⟩
 ·obtain ⟨hp,h⟩:=h.bP;exact ⟨_,h,Wh hp⟩
theorem ad6 (hR:Rel cfg cx H D w I O) (hlive:∀j,j<sg.length→∃x,H (gT sg j)=some x):∀(l:List AV) (k:List AV→Pg) (r:List Nat),fD Sp H (akN sg l k) v ups r→
  ∃l',fD Sp H (k l') v ups r∧l'.length=l.length∧∀j,j<l.length→∀(I':Nat→Prop) (_:∀b,I b→I' b) x,dZ w I O D (nth l j) x→dZ w I' (og O sg) (λ o=>o<sg.length) (nth l' j) x:=by
 intro l;induction l with
 | nil=>intro k r h; exact ⟨[],h,rfl,λ j hj=>by cases hj⟩
 | cons u l ih=>
  intro k r h;simp only [akN] at h;obtain ⟨u',h1,h2⟩:=ad5 hR hlive h;obtain ⟨l',h3,h4,h5⟩:=ih _ _ h1;refine ⟨u'::l',h3,by simp [h4],λ j hj I' hI x hx=>?_⟩;cases j with
  | zero=>exact h2 I' hI x hx
  | succ j=>exact h5 j (by simpa using hj) I' hI x hx
theorem ad7 (hR:Rel cfg cx H D w I O) (hlive:∀j,j<sg.length→∃x,H (gT sg j)=some x) {ob:dP} {k:dP→Pg} {r:List Nat} (h:fD Sp H (apo sg ob k) v ups r):
  ∃ob',fD Sp H (k ob') v ups r∧∀(I':Nat→Prop) (_:∀b,I b→I' b) p,iK w I O D p ob→iK w I' (og O sg) (λ o=>o<sg.length) p ob':=by
 cases ob with
 | map=>exact ⟨_,h,λ I' hI p hp=>hp⟩
 | box cs=>
  obtain ⟨cs',h1,h2,h3⟩:=ad6 hR hlive cs _ _ h;refine ⟨_,h1,λ I' hI p hp=>?_⟩;obtain ⟨q1,b,bo,sz,q2,q3,q4,q5⟩:=hp;exact ⟨q1,b,bo,sz,q2,q3,by rw [h2]; exact q4,λ j hj=>h3 j om I' hI _ (q5 j om)⟩
 | row es n g=>
  refine ⟨_,h,λ I' hI p hp=>?_⟩;obtain ⟨q1,q2,q3,q4⟩:=hp;refine ⟨q1,q2,q3,?_⟩;rcases q4 with q4 | ⟨b,bo,sz,e1,e2,e3,e4⟩
  ·exact .inl q4
  ·exact .inr ⟨b,bo,sz,e1,e2,e3,λ i j hi hj=>⟨(e4 i j hi hj).1.mono hI (λ _ _=>rfl),(e4 i j hi hj).2⟩⟩
theorem abY (hR:Rel cfg cx H D w I O) (hlive:∀j,j<sg.length→∃x,H (gT sg j)=some x):∀(l:List dP) (k:List dP→Pg) (r:List Nat),fD Sp H (afc sg l k) v ups r→
  ∃l',fD Sp H (k l') v ups r∧l'.length=l.length∧∀j x,hof l j=some x→∃y,hof l' j=some y∧∀(I':Nat→Prop) (_:∀b,I b→I' b) p,iK w I O D p x→iK w I' (og O sg) (λ o=>o<sg.length) p y:=by
 intro l;induction l with
 | nil=>intro k r h; exact ⟨[],h,rfl,λ j x hx=>by cases hx⟩
 | cons ob l ih=>
  intro k r h;simp only [afc] at h;obtain ⟨y,h1,h2⟩:=ad7 hR hlive h;obtain ⟨l',h3,h4,h5⟩:=ih _ _ h1;refine ⟨y::l',h3,by simp [h4],λ j x hx=>?_⟩;cases j with
  | zero=>cases hx; exact ⟨y,rfl,h2⟩
  | succ j=>exact h5 j x hx
theorem aac:∀(f:Nat) (todo sg:List Nat) (k:List Nat→Pg) (r:List Nat),fD Sp H (VL f todo sg k) v ups r→∃sg' r',fD Sp H (k sg') v ups r':=by
 intro f;induction f with
 | zero=>intro todo sg k r h; exact (fD.aZ h).elim
 | succ f ih=>
  intro todo sg k r h;cases todo with
  | nil=>exact ⟨sg,r,h⟩
  | cons o todo=>
   simp only [VL] at h;cases hm:zS o sg with
   | true=>rw [hm] at h; exact ih _ _ _ _ h
   | false=>
    rw [hm] at h;cases h with
    | rd ho h=>exact ih _ _ _ _ h
theorem Rel.sub (hR:Rel cfg cx H D w I O) {ids:List Nat} {obs:List dP} (hnd:nJ sg=true) (hdj:JR ids sg=true) (hl:obs.length=sg.length) (Yk:∀j,j<sg.length→∃x y,hof obs j=some y∧H (gT sg j)=some x∧∀p,iK w I O D p x→iK w (λ b=>I b∨Cr O ids b) (og O sg) (λ o=>o<sg.length) p y):
  Rel cfg (Jz w (λ b=>I b∨Cr O ids b) (og O sg) obs.length) (hof obs) (λ o=>o<obs.length) w (λ b=>I b∨Cr O ids b) (og O sg):=by
 have hsub:∀ {j p},og O sg j=some p→j<sg.length∧O (gT sg j)=some p:=λ h=>by
  unfold og at h;split at h
  ·exact ⟨by assumption,h⟩
  ·cases h
 have Px:∀(l:List dP) (j:Nat),l.length≤j→hof l j=none:=by
  intro l;induction l with
  | nil=>intro j _; rfl
  | cons x l ih=>intro j hj; cases j with
   | zero=>simp at hj
   | succ j=>exact ih j (by simpa using hj)
 exact {
  dom:=λ j=>by
   unfold og
   by_cases hj:j<sg.length
   ·obtain ⟨x,y,h1,h2,_⟩:=Yk j hj
    obtain ⟨p,hp,_⟩:=hR.live h2
    simp [hj,h1,hp]
   ·rw [if_neg hj,Px obs j om]
    simp
  used:=λ j p h=>by have:=(hsub h).1; omega
  objs:=λ j ob p h h'=>by
   obtain ⟨h1,h2⟩:=hsub h'
   obtain ⟨x,y,h3,h4,h5⟩:=Yk j h1
   rw [h] at h3
   cases h3
   rw [hl]
   exact h5 p (hR.objs _ _ p h4 h2)
  inj:=λ j j' p p' b bo sz b' ni sz' h1 h2 h3 h4 h5=>by
   obtain ⟨q1,q2⟩:=hsub h1
   obtain ⟨q3,q4⟩:=hsub h2
   exact hR.inj _ _ p p' b bo sz b' ni sz' q2 q4 h3 h4 (λ e=>h5 (Gw sg hnd j j' q1 q3 e))
  nL:=λ j p b bo sz h1 h2 h3=>by
   obtain ⟨q1,q2⟩:=hsub h1
   rcases h3 with h3 | ⟨o',p',ni,sz',q3,q4,q5⟩
   ·exact hR.nL _ p b bo sz q2 h2 h3
   ·exact hR.inj _ o' p p' b bo sz b ni sz' q2 q4 h2 q5 (λ e=>Ov ids sg hdj o' q3 (e ▸ pU sg j q1)) rfl
  lt:=λ j p b bo sz h1 h2=>hR.lt _ p b bo sz (hsub h1).2 h2
  yT:=(hR.freeze ids).yT
  size:=Nat.le_refl _
  frame:=λ _ _ _=>rfl
  env:=⟨iC.refl _,λ _ _ h=>h.elim⟩
  new:=λ j p b bo sz h1 h2=>.inr ⟨j,p,bo,sz,h1,h2⟩
  glob:=(hR.freeze ids).glob
  O9:=λ _ h=>h
  Rw:=λ _ h=>.inl h
  Vt:=λ _ _=>.inl rfl
  Dm:=λ _ h=>h }
end
end Go.Ab

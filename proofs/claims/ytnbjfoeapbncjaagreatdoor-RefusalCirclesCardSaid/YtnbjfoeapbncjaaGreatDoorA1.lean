/- A part of the proof. -/
import Derived.Test.YtnbjfoeapbncjaaGreatDoorA0
import Derived.Laws.Append
import Derived.Deep.Upon
import GoSem.Builtin.Clear
import Derived.Laws.BytesString
set_option linter.unusedVariables false
set_option linter.unusedSimpArgs false
namespace Go.Ab
section
variable {P:Program} {cfg:qz} {cx:Ctx} {H:Nat→Option cu} {D:Nat→Prop} {w:World} {I:Nat→Prop} {O:OM} {Sp:kL}
variable {bW:Nat} {o:Oper} {a:Act} {ρ:Operand→AV} {v:AV} {ups:jh} {r:List Nat}
def jy (O:OM) (n:Nat) (p:Own):OM:=λ o=>if o=n then some p else O o
theorem Cm {p:Own} (hn:¬ D bW) {ob:Nat} (h:D ob):jy O bW p ob=O ob:=by
 unfold jy;rw [if_neg (by intro e; subst e; exact hn h)]
theorem iC (ob:Obj) {b:Nat} (h:b<w.heap.size):(w.alloc ob).heap[b]? = w.heap[b]? := by
 show (w.heap.push ob)[b]? = _;rw [Array.getElem?_push,if_neg (Nat.ne_of_lt h)]
theorem heap_alloc_new (ob:Obj):(w.alloc ob).heap[w.heap.size]? = some ob:=by
 show (w.heap.push ob)[w.heap.size]? = _;simp
theorem jO (ob:Obj):(w.alloc ob).heap.size=w.heap.size+1:=by
 show (w.heap.push ob).size=_;simp
theorem qD (c:Array Value) (e:TypeId) (j:Nat):(w.alloc (.cells c e)).cell? ⟨w.heap.size,j,none⟩=c[j]? := by
 unfold World.cell?;rw [heap_alloc_new];rfl
theorem Kk (c:Array Value) (e:TypeId) (j:Nat):(w.alloc (.cells c e)).frozen? ⟨w.heap.size,j,none⟩=false:=by
 unfold World.frozen?;rw [heap_alloc_new];simp
theorem uy (c:Array Value) (e:TypeId):AQ (w.alloc (.cells c e)) w.heap.size c.size:=by
 intro j hj;rw [qD,Kk];simp [Array.getElem?_eq_getElem hj]
theorem nA (c:Array Value) (e:TypeId) (h1:∀j,j<c.size→(c.getD j Go.undef).oneCell'=true):rU (w.alloc (.cells c e)) w.heap.size 0 c.size:=
 ⟨uy c e,λ j _ hj=>by
  have:cellAt (w.alloc (.cells c e)) w.heap.size j=c.getD j Go.undef:=by
   rw [cellAt,qD];simp
  rw [this];exact h1 j hj⟩
theorem ku (c:Array Value) (e:TypeId) (j:Nat):cellAt (w.alloc (.cells c e)) w.heap.size j=c.getD j Go.undef:=by
 rw [cellAt,qD];simp
theorem cO.push (hR:Rel cfg cx H D w I O) (ob:Obj) (p:Own) (hn:¬ D bW) {v:AV} {x:Value} (h:cO w I O D v x):cO (w.alloc ob) I (jy O bW p) (vV D bW) v x:=
 h.mono (λ _ h=>h) (λ b hb=>iC ob (hR.uw b hb)) (λ _ ho=>.inl (Cm hn ho)) (λ _ h=>.inl h) hR.used
theorem Rel.aec (hR:Rel cfg cx H D w I O) (hn:¬ D bW) (nb:Obj) (ob:cu) (p:Own) (zz:Nat) (hp:p.pl=some (w.heap.size,0,zz))
  (lg:gJ (w.alloc nb) I (jy O bW p) (vV D bW) p ob):Rel cfg cx (jK H [(bW,some ob)]) (vV D bW) (w.alloc nb) I (jy O bW p):=by
 have hH:∀o,jK H [(bW,some ob)] o=if o=bW then some ob else H o:=by
  intro o;simp only [jK,look];cases hb:Nat.beq bW o with
  | true=>have:=Nat.eq_of_beq_eq_true hb; subst this; simp
  | false=>
   have:o≠bW:=λ e=>by subst e; simp at hb
   simp [this]
 have hOn:O bW=none:=by
  cases h:O bW with
  | none=>rfl
  | some p'=>exact absurd (hR.used bW p' h) hn
 have old:∀ {o p'},o≠bW→jy O bW p o=some p'→O o=some p':=λ hne h=>by unfold jy at h; rwa [if_neg hne] at h
 exact {
  dom:=λ o=>by
   rw [hH]; unfold jy
   by_cases h:o=bW
   ·simp [h]
   ·simp [h,hR.dom o]
  used:=λ o p' h=>by
   by_cases hne:o=bW
   ·exact Kg hne
   ·exact .inl (hR.used o p' (old hne h))
  objs:=λ o ob' p' h h'=>by
   by_cases hne:o=bW
   ·subst hne
    rw [hH,if_pos rfl] at h
    unfold jy at h'
    rw [if_pos rfl] at h'
    cases h; cases h'
    exact lg
   ·rw [hH,if_neg hne] at h
    have h'':=old hne h'
    exact (hR.objs o ob' p' h h'').mono (λ _ h=>h) (λ b hb=>iC _ (hR.uw b hb)) (λ _ ho=>.inl (Cm hn ho)) (λ _ h=>.inl h) hR.used
     (λ b bo sz hpl=>iC _ (hR.lt o p' b bo sz h'' hpl))
  inj:=λ o o' p1 p2 b bo sz b' kK sz' h1 h2 h3 h4 h5=>by
   by_cases e1:o=bW
   ·by_cases e2:o'=bW
    ·exact absurd (e1.trans e2.symm) h5
    ·unfold jy at h1
     rw [if_pos e1] at h1
     cases h1
     rw [hp] at h3
     cases h3
     have:=hR.lt o' p2 b' kK sz' (old e2 h2) h4
     omega
   ·by_cases e2:o'=bW
    ·unfold jy at h2
     rw [if_pos e2] at h2
     cases h2
     rw [hp] at h4
     cases h4
     have:=hR.lt o p1 b bo sz (old e1 h1) h3
     omega
    ·exact hR.inj o o' p1 p2 b bo sz b' kK sz' (old e1 h1) (old e2 h2) h3 h4 h5
  lu:=λ o p1 b bo sz h1 h2 h3=>by
   by_cases e1:o=bW
   ·unfold jy at h1
    rw [if_pos e1] at h1
    cases h1
    rw [hp] at h2
    cases h2
    have:=hR.uw _ h3
    omega
   ·exact hR.lu o p1 b bo sz (old e1 h1) h2 h3
  lt:=λ o p1 b bo sz h1 h2=>by
   have hs:(w.alloc nb).heap.size=w.heap.size+1:=jO _
   by_cases e1:o=bW
   ·unfold jy at h1
    rw [if_pos e1] at h1
    cases h1
    rw [hp] at h2
    cases h2
    omega
   ·have:=hR.lt o p1 b bo sz (old e1 h1) h2
    omega
  uw:=λ b h=>by
   have:=hR.uw b h
   rw [jO]
   omega
  size:=by
   have:=hR.size
   rw [jO]
   omega
  env:=hR.env.step (fP.alloc _ _)
  frame:=λ b h1 h2=>by
   rw [iC _ (by have:=hR.size; omega)]
   exact hR.frame b h1 h2
  new:=λ o p1 b bo sz h1 h2=>by
   by_cases e1:o=bW
   ·unfold jy at h1
    rw [if_pos e1] at h1
    cases h1
    rw [hp] at h2
    cases h2
    exact .inl hR.size
   ·exact hR.new o p1 b bo sz (old e1 h1) h2
  glob:=λ g cs h=>(hR.glob g cs h).mono (λ _ h=>h) (λ b hb=>iC _ (hR.uw b hb))
  G8:=hR.G8
  L9:=hR.L9
  O5:=λ o h=>by
   have hne:o≠bW:=λ e=>hn (e ▸ hR.Dm o h)
   unfold jy
   rw [if_neg hne]
   exact hR.O5 o h
  Dm:=λ o h=>.inl (hR.Dm o h) }
theorem Rel.push (hR:Rel cfg cx H D w I O) (hn:¬ D bW) (c:Array Value) (e:TypeId) (ob:cu) (p:Own) (hp:p.pl=some (w.heap.size,0,c.size))
  (lg:gJ (w.alloc (.cells c e)) I (jy O bW p) (vV D bW) p ob):Rel cfg cx (jK H [(bW,some ob)]) (vV D bW) (w.alloc (.cells c e)) I (jy O bW p):=
 hR.aec hn _ ob p _ hp lg
theorem vL (u:Nat×Option cu) (l:jh):jK H (u::l)=jK (jK H l) [u]:=by
 funext o;simp only [jK,look];cases Nat.beq u.1 o<;>rfl
theorem dG.Kl (hR:Rel cfg cx H D w I O) (hn:¬ D bW) {x:Value} {c:Array Value} {e:TypeId} {ob:cu} {p:Own} (ids:List Nat) (hrun:(execOp a.eval o).run P w=.ok (.value x) (w.alloc (.cells c e)))
  (hp:p.pl=some (w.heap.size,0,c.size)) (lg:gJ (w.alloc (.cells c e)) (λ b=>I b∨wU O ids b) (jy (kill O ids) bW p) (vV D bW) p ob)
  (hv:∀I' O' D',O' bW=some p→cO (w.alloc (.cells c e)) I' O' D' v x):dG P cfg cx H D w I O bW o a v ((bW,some ob)::dead ids):=by
 intro next Q hnx
 have Hg:=hR.freeze ids;refine nU hrun (hnx x _ _ _ ?_ ?_ (hv (λ b=>I b∨wU O ids b) (jy (kill O ids) bW p) _ (by simp [jy])))
 ·rw [vL];exact Hg.push hn c e ob p hp lg
 ·intro u y hu;exact (hu.kill hR ids).push Hg _ p hn
theorem FU (t:TypeId) (v:Value):(newVar t v).run P w=.ok ⟨w.heap.size,0,none⟩ (w.alloc (.cells v.cells t)):=by
 simp only [newVar,newRow,newObj,Sem.run_bind,Sem.run,Result.andThen];rfl
theorem tJ (zs:List ZK) (c:Array Value) (n:Nat) (hl:zs.length=n) (hz:∀j,j<n→Cj (zs.getD j .other) (c.getD j Go.undef)):∀j,j<n→fC w I (nth (tC zs) j) (c.getD j Go.undef):=by
 intro j hj;have key:∀(zs:List ZK) (j:Nat),j<zs.length→nth (tC zs) j=ofZ (zs.getD j .other):=by
  intro zs;induction zs with
  | nil=>intro j hj; cases hj
  | cons z l ih=>intro j hj; cases j with
   | zero=>rfl
   | succ j=>simpa [tC,nth] using ih j (by simpa using hj)
 rw [key zs j om];have:=hz j hj;cases hzz:zs.getD j .other<;>rw [hzz] at this<;>simp only [Cj] at this<;>simp only [ofZ]<;>first | exact .undef _ | rw [this]
 ·exact .bool _
 ·exact .int _ _
 ·exact .str _
 ·exact .sl 0 0 (λ _ _=>Go.undef) (Nat.le_refl _) (λ _=>rfl) (λ h=>absurd rfl h) (λ i h=>by cases h) (λ i j h=>by cases h) (λ i j h=>by cases h) (λ i j h=>by cases h)
 ·exact .wW
theorem og (zs:List ZK) (c:Array Value) (n:Nat) (hz:∀j,j<n→Cj (zs.getD j .other) (c.getD j Go.undef)):∀j,j<n→(c.getD j Go.undef).oneCell'=true:=by
 intro j hj;have:=hz j hj;cases hzz:zs.getD j .other<;>rw [hzz] at this<;>simp only [Cj] at this<;>first | exact this | (rw [this]; rfl)
theorem gL (zs:List ZK):(tC zs).length=zs.length:=by
 induction zs with
 | nil=>rfl
 | cons z l ih=>simp [tC,ih]
theorem Vh (n:Nat) (z:List ZK):(WW n z).length=n*z.length:=by
 induction n with
 | zero=>simp [WW]
 | succ n ih=>simp only [WW,List.length_append,ih]; rw [Nat.succ_mul]; omega
theorem Vi (l m:List ZK):tC (l++m)=tC l++tC m:=by
 induction l with
 | nil=>rfl
 | cons z l ih=>simp only [List.cons_append,tC,ih]
theorem Zn:∀(n:Nat) (z:List ZK) (size:Nat),z.length=size→∀q j,q<n→j<size→nth (tC (WW n z)) (q*size+j)=nth (tC z) j:=by
 intro n;induction n with
 | zero=>intro z size _ q j h; exact absurd h (Nat.not_lt_zero _)
 | succ n ih=>
  intro z size hz q j hq hj;simp only [WW];rw [Vi,YA,gL,hz];cases q with
  | zero=>simp only [Nat.zero_mul,Nat.zero_add]; rw [if_pos hj]
  | succ q=>
   rw [if_neg (by rw [Nat.succ_mul]; omega)];have e1:(q+1)*size+j - size=q*size+j:=by rw [Nat.succ_mul]; omega
   rw [e1];exact ih z size hz q j om hj
theorem Rt {ti:Ei} (hz:zok ti=true) (hl:ti.zero.length=ti.size):(zeroOf ti).cells=tC ti.zero:=by
 unfold zok at hz;split at hz
 ·unfold zeroOf;cases ha:ti.agg with
  | true=>rfl
  | false=>
   rw [ha] at hz;have:ti.size=1:=Nat.eq_of_beq_eq_true hz;rw [this] at hl;match ti.zero,hl with
   | [q],_=>
    show (ofZ q).cells=[ofZ q]
    cases q<;>rfl
 ·cases hz
theorem aaZ (hc:fq P cfg) (hR:Rel cfg cx H D w I O) (hn:¬ D bW) {t:TypeId} (ho:o.op=.alloc t) (h:dK Sp H (eZ cfg bW (.alloc t) ρ) v ups r):dG P cfg cx H D w I O bW o a v ups:=by
 simp only [eZ] at h;obtain ⟨ti,ht,h1⟩:=h.iG;obtain ⟨i,d,z,hi,hu,hz,hs,_,_,hzs,hzl,GX,_⟩:=(hc.ty t ti ht).ex;split at h1
 ·rename_i n et harr;obtain ⟨ei,hei,h2⟩:=h1.iG;obtain ⟨c1,h3⟩:=h2.bq;obtain ⟨c2,h4⟩:=h3.bq;obtain ⟨c3,h5⟩:=h4.bq;obtain ⟨rfl,rfl⟩:=h5.iP;have c2:0<n:=by
   rcases Nat.eq_zero_or_pos n with h0 | h0
   ·subst h0; cases c2
   ·exact h0
  have c3:=of_decide_eq_true c3;have hl:(tC ei.zero).length=ei.size:=by
   rw [gL];exact (hc.ty et ei hei).ex.elim λ _ h=>h.elim λ _ h=>h.elim λ _ h=>h.2.2.2.2.2.2.2.1
  have hcl:(zeroOf ei).cells=tC ei.zero:=Rt c1 (by rw [gL] at hl; exact hl);have hsz:ti.size=n*ei.size:=by
   rw [← hzl,c3,Vh,← gL,hl]
  refine dG.Kl (p:=⟨ei.size,n,some (w.heap.size,0,z.cells.size)⟩) (c:=z.cells) (e:=t) (x:=.pointer (some ⟨w.heap.size,0,none⟩)) hR hn [] ?_ rfl ?_ ?_
  ·simp [execOp,ho,Instr.alloc,zeroValue,typeInfo,hi,hz,FU]
  ·refine ⟨rfl,rfl,λ _ _=>by rw [hcl]; exact hl,.inr ⟨_,_,_,rfl,nA _ _ (λ j hj=>og _ _ _ GX _ om),by omega,λ q j hq hj=>?_⟩⟩;rw [Nat.zero_add,ku];have hqj:q*ei.size+j<ti.size:=by
    have:(q+1)*ei.size≤n*ei.size:=Nat.mul_le_mul_right _ hq;rw [Nat.succ_mul] at this;omega
   refine ⟨?_,og _ _ _ GX _ hqj⟩;have:=tJ (w:=w.alloc (.cells z.cells t)) (I:=λ b=>I b∨wU O [] b) _ _ ti.size hzl GX _ hqj;rw [hcl];have e1:nth (tC ti.zero) (q*ei.size+j)=nth (tC ei.zero) j:=by
    rw [c3];exact Zn n _ _ (by rw [← gL]; exact hl) q j hq hj
   rw [← e1];exact this
  ·intro I' O' D' hO;have h6:cO (w.alloc (.cells z.cells t)) I' O' D' (.ptr bW 0 0) _:=.ptr (i:=0) (off:=0) hO rfl c2;have e0:0+(0*ei.size+0)=0:=by simp
   simp only [e0] at h6;exact h6
 obtain ⟨rfl,rfl⟩:=h1.iP;refine dG.Kl (p:=⟨0,1,some (w.heap.size,0,z.cells.size)⟩) (c:=z.cells) (e:=t) (x:=.pointer (some ⟨w.heap.size,0,none⟩)) hR hn [] ?_ rfl ?_ ?_
 ·simp [execOp,ho,Instr.alloc,zeroValue,typeInfo,hi,hz,FU]
 ·refine ⟨rfl,_,_,_,rfl,uy _ _,by rw [gL]; omega,λ j hj=>?_⟩;rw [Nat.zero_add,ku];exact .pure (tJ _ _ ti.size hzl GX j (by rw [gL] at hj; omega))
 ·intro I' O' D' hO;exact .ptr (i:=0) (off:=0) hO rfl (by simp)
theorem aeX (hR:Rel cfg cx H D w I O) (hn:¬ D bW) {t:TypeId} {x:Operand} (ho:o.op=.box t x) (hx:cO w I O D (ρ x) (a.eval x)) (h:dK Sp H (eZ cfg bW (.box t x) ρ) v ups r):dG P cfg cx H D w I O bW o a v ups:=by
 simp only [eZ] at h;obtain ⟨hk,h1⟩:=h.vJ;obtain ⟨rfl,rfl⟩:=h1.iP;obtain ⟨hl,hcs⟩:=hx.cells hk;refine dG.Kl (p:=⟨0,1,some (w.heap.size,0,(a.eval x).cells.size)⟩) (c:=(a.eval x).cells) (e:=t) (x:=.pointer (some ⟨w.heap.size,0,none⟩)) hR hn [] ?_ rfl ?_ ?_
 ·simp [execOp,ho,Instr.box,FU]
 ·refine ⟨rfl,_,_,_,rfl,uy _ _,by omega,λ j hj=>?_⟩;rw [Nat.zero_add,ku];exact ((hcs j hj).1.kill hR []).push (hR.freeze []) _ _ hn
 ·intro I' O' D' hO;exact .ptr (i:=0) (off:=0) hO rfl (by simp)
end
end Go.Ab
namespace Go.Ab
section
variable {P:Program} {cfg:qz} {cx:Ctx} {H:Nat→Option cu} {D:Nat→Prop} {w:World} {I:Nat→Prop} {O:OM} {Sp:kL}
variable {bW:Nat} {o:Oper} {a:Act} {ρ:Operand→AV} {v:AV} {ups:jh} {r:List Nat}
theorem run_places (l:List Field) (h:∀f∈l,(P.info? f.type).isSome=true):∃ps:List (Nat×Nat),ps.length=l.length∧(∀(k:Nat) (f:Field) (i:TypeInfo),l[k]? = some f→P.info? f.type=some i→ps[k]? = some (f.offset,i.size))∧
  (l.mapM (λ f:Field=>do pure (f.offset,← sizeOf f.type))).run P w=.ok ps w:=by
 induction l with
 | nil=>exact ⟨[],rfl,λ k f i h=>by simp at h,by simp⟩
 | cons f l ih=>
  obtain ⟨ps,h1,h2,h3⟩:=ih (λ f hf=>h f (List.mem_cons_of_mem _ hf));obtain ⟨i,hi⟩:=Option.isSome_iff_exists.1 (h f (by simp));refine ⟨(f.offset,i.size)::ps,by simp [h1],λ k f' i' hk hi'=>?_,?_⟩
  ·cases k with
   | zero=>simp at hk; subst hk; rw [hi] at hi'; cases hi'; simp
   | succ k=>simpa using h2 k f' i' (by simpa using hk) hi'
  ·rw [List.mapM_cons];simp only [bind_assoc,pure_bind,Sem.run_bind,eB hi,Result.andThen_ok,h3,Sem.run_pure]
def setAt (cells:Array Value) (off:Nat) (vs:Array Value):Array Value:=vs.zipIdx.foldl (λ cs (p:Value×Nat)=>cs.setIfInBounds (off+p.2) p.1) cells
theorem Xh (off:Nat):∀(l:List Value) (n:Nat) (cells:Array Value),off+n+l.length≤cells.size→
  ((l.zipIdx n).foldl (λ (cs:Array Value) (p:Value×Nat)=>cs.setIfInBounds (off+p.2) p.1) cells).size=cells.size∧
  ∀k,((l.zipIdx n).foldl (λ (cs:Array Value) (p:Value×Nat)=>cs.setIfInBounds (off+p.2) p.1) cells).getD k Go.undef=
   if off+n≤k∧k<off+n+l.length then l.getD (k - (off+n)) Go.undef else cells.getD k Go.undef:=by
 intro l;induction l with
 | nil=>intro n cells _; exact ⟨rfl,λ k=>by simp [show ¬ (off+n≤k∧k<off+n) by omega]⟩
 | cons x l ih=>
  intro n cells hle;simp only [List.zipIdx_cons,List.foldl_cons];obtain ⟨h1,h2⟩:=ih (n+1) (cells.setIfInBounds (off+n) x) (by simp at hle ⊢; omega);refine ⟨by rw [h1]; simp,λ k=>?_⟩;rw [h2 k];by_cases hk:k=off+n
  ·subst hk;have hlt:off+n<cells.size:=by simp at hle; omega
   have e1:¬ (off+(n+1)≤off+n∧off+n<off+(n+1)+l.length):=by omega
   have e2:off+n≤off+n∧off+n<off+n+(x::l).length:=by simp
   rw [if_neg e1,if_pos e2];simp [hlt]
  ·by_cases hin:off+(n+1)≤k∧k<off+(n+1)+l.length
   ·have e2:off+n≤k∧k<off+n+(x::l).length:=by simp; omega
    rw [if_pos hin,if_pos e2];have:k - (off+n)=(k - (off+(n+1)))+1:=by omega
    rw [this];simp
   ·have e2:¬ (off+n≤k∧k<off+n+(x::l).length):=by simp; omega
    rw [if_neg hin,if_neg e2];have hne:off+n≠k:=λ e=>hk e.symm;simp [Array.getElem?_setIfInBounds_ne hne]
theorem O8 (cells:Array Value) (off:Nat) (vs:Array Value) (h:off+vs.size≤cells.size):(setAt cells off vs).size=cells.size∧
  ∀k,(setAt cells off vs).getD k Go.undef=if off≤k∧k<off+vs.size then vs.getD (k - off) Go.undef else cells.getD k Go.undef:=by
 have e:setAt cells off vs=(vs.toList.zipIdx 0).foldl (λ (cs:Array Value) (p:Value×Nat)=>cs.setIfInBounds (off+p.2) p.1) cells:=by
  unfold setAt;rw [← Array.foldl_toList];simp
 rw [e];obtain ⟨h1,h2⟩:=Xh off vs.toList 0 cells (by simpa using h);refine ⟨h1,λ k=>?_⟩;rw [h2 k];simp
theorem tK:∀(new l:List AV) (off:Nat),(yX off new l).length=l.length:=by
 intro new l;induction l generalizing new with
 | nil=>intro off; cases new<;>cases off<;>simp [yX]
 | cons x l ih=>
  intro off;cases new with
  | nil=>cases off<;>simp [yX]
  | cons v new=>cases off<;>simp [yX,ih]
theorem O9:∀(l new:List AV) (off:Nat),off+new.length≤l.length→∀j,nth (yX off new l) j=if off≤j∧j<off+new.length then nth new (j - off) else nth l j:=by
 intro l;induction l with
 | nil=>
  intro new off h j;have:new=[]:=by cases new<;>simp_all
  subst this;rw [if_neg (by simp)];cases off<;>rfl
 | cons x l ih=>
  intro new off h j;cases new with
  | nil=>cases off<;>simp [yX,show ∀n:Nat,¬ (n≤j∧j<n) by omega]
  | cons v new=>
   cases off with
   | zero=>
    simp only [yX];cases j with
    | zero=>simp [nth]
    | succ j=>
     simp only [nth];rw [ih new 0 (by simp at h ⊢; omega) j];by_cases hj:j<new.length
     ·rw [if_pos om,if_pos (by simp; omega)]; simp [nth]
     ·rw [if_neg om,if_neg (by simp; omega)]
   | succ off=>
    simp only [yX];cases j with
    | zero=>simp [nth]
    | succ j=>
     simp only [nth];rw [ih (v::new) off (by simp at h ⊢; omega) j];by_cases hj:off≤j∧j<off+(v::new).length
     ·rw [if_pos hj,if_pos om]; congr 1; omega
     ·rw [if_neg hj,if_neg om]
def Vj (w:World) (I:Nat→Prop) (O:OM) (D:Nat→Prop) (cs:List AV) (cells:Array Value):Prop:=cells.size=cs.length∧∀j,j<cs.length→cO w I O D (nth cs j) (cells.getD j Go.undef)
theorem Vj.put {cs new:List AV} {cells vs:Array Value} {off:Nat} (h:Vj w I O D cs cells) (h':Vj w I O D new vs) (hle:off+new.length≤cs.length):Vj w I O D (yX off new cs) (setAt cells off vs):=by
 obtain ⟨h1,h2⟩:=h;obtain ⟨h3,h4⟩:=h';obtain ⟨s1,s2⟩:=O8 cells off vs om;refine ⟨by rw [s1,tK,h1],λ j hj=>?_⟩;rw [tK] at hj;rw [O9 _ _ _ hle,s2];by_cases hin:off≤j∧j<off+new.length
 ·rw [if_pos hin,if_pos om]; exact h4 _ om
 ·rw [if_neg hin,if_neg om]; exact h2 j hj
theorem Sz (place:Nat→Option (Nat×Nat)) (cells:Array Value) (i:Nat) (v:Value) (rest:List (Nat×Value)) (off size:Nat) (hp:place i=some (off,size)) (hs:v.cells.size=size) (hle:off+v.cells.size≤cells.size):
  Instr.fill place cells ((i,v)::rest)=Instr.fill place (setAt cells off v.cells) rest:=by
 have hs':¬ v.cells.size≠size:=by omega
 have hle':¬ off+v.cells.size > cells.size:=by omega
 simp only [Instr.fill,hp];rw [if_neg (by simp; omega)];rfl
theorem Md {fs:List (Nat×Nat)} {place:Nat→Option (Nat×Nat)} (hpl:∀k off t ti,M6 fs k=some (off,t)→look cfg.ty t=some ti→place k=some (off,ti.size)):
  ∀(parts:List (Nat×Operand)) (cs:List AV) (cells:Array Value) (k:List AV→Pg) (r:List Nat),(∀p∈parts,cO w I O D (ρ p.2) (a.eval p.2))→Vj w I O D cs cells→dK Sp H (U3 cfg fs (parts.map λ p=>(p.1,ρ p.2)) cs k) v ups r→
   ∃cs' cells' r',dK Sp H (k cs') v ups r'∧Instr.fill place cells (parts.map λ p=>(p.1,a.eval p.2))=some cells'∧Vj w I O D cs' cells':=by
 intro parts;induction parts with
 | nil=>intro cs cells k r _ hrep h; exact ⟨cs,cells,r,h,rfl,hrep⟩
 | cons p parts ih=>
  intro cs cells k r hx hrep h;simp only [List.map_cons,U3] at h;cases hf:M6 fs p.1 with
  | none=>simp only [hf] at h; exact (dK.aJ h).elim
  | some q=>
   obtain ⟨off,t⟩:=q;simp only [hf] at h;obtain ⟨ti,ht,h1⟩:=h.iG;obtain ⟨hk,h2⟩:=h1.vJ;obtain ⟨hsz,h3⟩:=h2.bq;obtain ⟨hle,h4⟩:=h3.bq;have hsz:(ρ p.2).cells.length=ti.size:=Nat.eq_of_beq_eq_true hsz;have hle:off+(ρ p.2).cells.length≤cs.length:=Nat.le_of_ble_eq_true hle;obtain ⟨hl,hcs⟩:=(hx p (by simp)).cells hk;have aa0:=hrep.put (off:=off) (new:=(ρ p.2).cells) (vs:=(a.eval p.2).cells) ⟨hl,λ j hj=>(hcs j hj).1⟩ hle;obtain ⟨cs',cells',r',q1,q2,q3⟩:=ih _ _ k r (λ p hp=>hx p (List.mem_cons_of_mem _ hp)) aa0 h4;refine ⟨cs',cells',r',q1,?_,q3⟩;simp only [List.map_cons];rw [Sz place cells p.1 (a.eval p.2) _ off ti.size (hpl _ _ _ _ hf ht) om (by have:=hrep.1; omega)];exact q2
theorem aa1 {et sz:Nat}:∀(n b k:Nat) {off t:Nat},M6 (Yt et sz n b) k=some (off,t)→off=(b+k)*sz∧t=et:=by
 intro n;induction n with
 | zero=>intro b k off t h; cases h
 | succ n ih=>
  intro b k off t h;cases k with
  | zero=>cases h; exact ⟨rfl,rfl⟩
  | succ k=>
   obtain ⟨h1,h2⟩:=ih (b+1) k h;exact ⟨by rw [h1]; congr 1; omega,h2⟩
theorem aa2 (hc:fq P cfg) (hR:Rel cfg cx H D w I O) {t:TypeId} {parts:Array (Nat×Operand)} (ho:o.op=.build t parts) (hx:∀p∈parts.toList,cO w I O D (ρ p.2) (a.eval p.2))
  (h:dK Sp H (eZ cfg bW (.build t parts) ρ) v ups r):dG P cfg cx H D w I O bW o a v ups:=by
 simp only [eZ] at h;obtain ⟨ti,ht,h1⟩:=h.iG;obtain ⟨i,d,z,hi,hu,hz,hs,_,_,hzs,hzl,GX,hd⟩:=(hc.ty t ti ht).ex;split at h1
 ·rename_i fs e;rw [e] at hd;obtain ⟨fields,rfl,hfs⟩:=hd;have hth:=hc.fields t ti _ ht hu;obtain ⟨ps,p1,p2,p3⟩:=run_places (P:=P) (w:=w) fields.toList hth;have hpl:∀k off t ti,M6 fs k=some (off,t)→look cfg.ty t=some ti→(ps.toArray[·]?) k=some (off,ti.size):=by
   intro k off t' ti' hk ht';have hf:Ej ti k=some (off,t'):=by unfold Ej; rw [e]; exact hk
   obtain ⟨fields',fd,q1,q2,q3,q4⟩:=hc.field ht hf;rw [hu] at q1;cases q1;obtain ⟨i',_,_,q5,_,_,q6,_⟩:=(hc.ty t' ti' ht').ex;have:=p2 k fd i' (by simpa using q2) (by rw [q4]; exact q5);simpa [q3,q6] using this
  have hrep:Vj w I O D (tC ti.zero) z.cells:=⟨by rw [gL]; omega,λ j hj=>.pure (tJ _ _ ti.size hzl GX j (by rw [gL] at hj; omega))⟩;obtain ⟨cs',cells',r',q1,q2,q3⟩:=Md hpl parts.toList _ _ _ _ hx hrep h1;obtain ⟨rfl,rfl⟩:=q1.dn;refine dG.bZ (x:=.agg cells') hR ?_ (.agg q3.1 q3.2);have hm:(fields.mapM (λ f:Field=>do pure (f.offset,← sizeOf f.type))).run P w=.ok ps.toArray w:=by
   have e0:fields=fields.toList.toArray:=by simp
   rw [e0,List.mapM_toArray,map_eq_pure_bind,Sem.run_bind,p3];rfl
  have e1:(parts.map λ (p:Nat×Operand)=>(p.1,a.eval p.2)).toList=parts.toList.map λ p=>(p.1,a.eval p.2):=by simp
  simp only [execOp,ho,Instr.build,Sem.run_bind,zeroValue,typeInfo,program,Sem.run,hi,hz,Sem.run_pure,Result.andThen_ok,bn hu,hm,e1,q2]
 ·rename_i n et e;rw [e] at hd;have hd:d=.array n et:=hd;subst hd;obtain ⟨ei,he,h2⟩:=h1.iG;obtain ⟨ie,de,hie,agL,hde,adf⟩:=hc.agg he;have hpl:∀k off t ti,M6 (Yt et ei.size n 0) k=some (off,t)→look cfg.ty t=some ti→(λ i=>some (i*ei.size,ei.size):Nat→Option (Nat×Nat)) k=some (off,ti.size):=by
   intro k off t' ti' hk ht';obtain ⟨rfl,rfl⟩:=aa1 n 0 k hk;rw [he] at ht';cases ht';simp
  have hrep:Vj w I O D (tC ti.zero) z.cells:=⟨by rw [gL]; omega,λ j hj=>.pure (tJ _ _ ti.size hzl GX j (by rw [gL] at hj; omega))⟩;obtain ⟨cs',cells',r',q1,q2,q3⟩:=Md hpl parts.toList _ _ _ _ hx hrep h2;obtain ⟨rfl,rfl⟩:=q1.dn;refine dG.bZ (x:=.agg cells') hR ?_ (.agg q3.1 q3.2);have e1:(parts.map λ (p:Nat×Operand)=>(p.1,a.eval p.2)).toList=parts.toList.map λ p=>(p.1,a.eval p.2):=by simp
  have e2:=eB (w:=w) hie;rw [adf] at e2;simp only [execOp,ho,Instr.build,Sem.run_bind,zeroValue,typeInfo,program,Sem.run,hi,hz,Sem.run_pure,Result.andThen_ok,bn hu,e2,e1,q2]
 ·exact (dK.aJ h1).elim
end
end Go.Ab
namespace Go.Ab
section
variable {P:Program} {cfg:qz} {cx:Ctx} {H:Nat→Option cu} {D:Nat→Prop} {w:World} {I:Nat→Prop} {O:OM} {Sp:kL}
variable {bW:Nat} {o:Oper} {a:Act} {ρ:Operand→AV} {v:AV} {ups:jh} {r:List Nat}
theorem y9 {ti:Ei} (h:zok ti=true):0<ti.size∧(ti.agg=false→ti.size=1):=by
 unfold zok at h;cases h0:Nat.blt 0 ti.size with
 | false=>simp [h0] at h
 | true=>
  simp only [h0] at h;refine ⟨by simpa using h0,λ ha=>?_⟩;simp only [ha] at h;exact Nat.eq_of_beq_eq_true h
theorem Zo (z:ZK):(ofZ z).cells=[ofZ z]:=by cases z<;>rfl
theorem vC {ti:Ei} (hz:zok ti=true) (hl:ti.zero.length=ti.size):(zeroOf ti).cells=tC ti.zero:=by
 obtain ⟨h0,h1⟩:=y9 hz;unfold zeroOf;cases ha:ti.agg with
 | true=>rfl
 | false=>
  have:=h1 ha;match hzz:ti.zero,hl with
  | [z],_=>simp only [tC,nth]; exact Zo z
  | [],hl=>simp at hl; omega
  | _::_::_,hl=>simp at hl; omega
theorem oh (z:Array Value) (len i j size:Nat) (hs:z.size=size) (hi:i<len) (hj:j<size):((Array.range (len*size)).map (λ k=>z[k % z.size]!)).getD (i*size+j) Go.undef=z.getD j Go.undef:=by
 have hlt:i*size+j<len*size:=by
  have:(i+1)*size≤len*size:=Nat.mul_le_mul_right _ hi;rw [Nat.succ_mul] at this;omega
 have hm:(i*size+j) % size=j:=by
  rw [Nat.mul_comm,Nat.mul_add_mod];exact Nat.mod_eq_of_lt hj
 have hjz:j<z.size:=by omega
 simp [hlt,hs,hm,getElem!_pos z j hjz,Array.getElem?_eq_getElem hjz]
variable {size:Nat}
theorem sW {z:Array Value} {n:Nat} (hs:z.size=size) (h1:∀j,j<size→(z.getD j Go.undef).oneCell'=true):∀j,j<(Builtin.zeroCells z n).size→((Builtin.zeroCells z n).getD j Go.undef).oneCell'=true:=λ j hj=>by
 have hlt:j<n*size:=by
  unfold Builtin.zeroCells at hj;simp at hj;rwa [hs] at hj
 rcases Nat.eq_zero_or_pos size with h0 | h0
 ·rw [h0,Nat.mul_zero] at hlt; exact absurd hlt (Nat.not_lt_zero _)
 ·have q1:j / size<n:=Nat.div_lt_of_lt_mul (by rw [Nat.mul_comm]; exact hlt);have q2:j % size<size:=Nat.mod_lt _ h0;have e:=oh z n (j / size) (j % size) size hs q1 q2;rw [Nat.div_add_mod'] at e;unfold Builtin.zeroCells;rw [hs];rw [hs] at e;rw [e];exact h1 _ q2
def zZ (w:World) (I:Nat→Prop) (size len:Nat) (g:Nat→AV) (cells:Array Value):Prop:=cells.size=len*size∧∀i,i<len→(g i).cells.length=size∧∀j,j<size→fC w I (nth (g i).cells j) (cells.getD (i*size+j) Go.undef)∧(cells.getD (i*size+j) Go.undef).oneCell'=true
theorem zZ.obj {len:Nat} {g:Nat→AV} {cells:Array Value} {e:TypeId} {O':OM} {D':Nat→Prop} {p:Own} (hI:∀b,I b→b<w.heap.size) (h:zZ w I size len g cells) (hp:p=⟨size,len,some (w.heap.size,0,cells.size)⟩):
  gJ (w.alloc (.cells cells e)) I O' D' p (.row size len g):=by
 subst hp;obtain ⟨h1,h2⟩:=h;have hone:∀j,j<cells.size→(cells.getD j Go.undef).oneCell'=true:=λ j hj=>by
  rcases Nat.eq_zero_or_pos size with h0 | h0
  ·rw [h1,h0,Nat.mul_zero] at hj; exact absurd hj (Nat.not_lt_zero _)
  ·have q1:j / size<len:=Nat.div_lt_of_lt_mul (by rw [Nat.mul_comm,← h1]; exact hj);have:=((h2 _ q1).2 (j % size) (Nat.mod_lt _ h0)).2;rwa [Nat.div_add_mod'] at this
 refine ⟨rfl,rfl,λ i hi=>(h2 i hi).1,.inr ⟨_,_,_,rfl,nA _ _ hone,by omega,λ i j hi hj=>?_⟩⟩;rw [Nat.zero_add,ku];exact ⟨((h2 i hi).2 j hj).1.mono (λ _ h=>h) (λ b hb=>iC _ (hI b hb)),((h2 i hi).2 j hj).2⟩
theorem aa3 (n i:Nat) (z:AV) (h:i<n):nth (Zc n z) i=z:=by
 induction n generalizing i with
 | zero=>cases h
 | succ n ih=>cases i with
  | zero=>rfl
  | succ i=>exact ih i om
theorem Vk (n:Nat) (z:AV):(Zc n z).length=n:=by
 induction n with
 | zero=>rfl
 | succ n ih=>simp [Zc,ih]
theorem Ru (l:List AV) (i:Nat) (v:AV):(yC i v l).length=l.length:=by
 induction l generalizing i with
 | nil=>simp [yC]
 | cons x l ih=>cases i<;>simp [yC,ih]
theorem Xi (l:List AV) (i:Nat) (v:AV) (h:i<l.length) (k:Nat):nth (yC i v l) k=if k=i then v else nth l k:=by
 induction l generalizing i k with
 | nil=>cases h
 | cons x l ih=>
  cases i with
  | zero=>cases k<;>simp [yC,nth]
  | succ i=>cases k with
   | zero=>simp [yC,nth]
   | succ k=>simp [yC,nth,ih i (by simpa using h) k]
theorem xB {u:AV} {x:Value} (h:cO w I (λ _=>none) (λ _=>False) u x):fC w I u x:=by
 induction h with
 | pure h=>exact h
 | ptr ho=>cases ho
 | dA ho=>cases ho
 | mref ho=>cases ho
 | vT _ hd=>exact hd.elim
 | vU _ hd=>exact hd.elim
 | uS _ hd=>exact hd.elim
 | agg hl _ ih=>exact .agg hl ih
 | fn hl _ ih=>exact .fn hl ih
 | jg hl _ ih=>exact .jg hl ih
theorem Vl {size len:Nat} {agg:Bool}:∀(ps:List (Nat×AV)) (vals:List (Nat×Value)) (es:List AV) (cells:Array Value) (k:List AV→Pg) (r:List Nat),vals.map (·.1)=ps.map (·.1)→
  (∀(j:Nat) (u:Nat×AV) (x:Nat×Value),ps[j]? = some u→vals[j]? = some x→fC w I u.2 x.2)→es.length=len→zZ w I size len (nth es) cells→dK Sp H (Ym size agg ps es k) v ups r→
   ∃es' cells' r',dK Sp H (k es') v ups r'∧Instr.fill (λ i=>some (i*size,size)) cells vals=some cells'∧zZ w I size len (nth es') cells':=by
 intro ps;induction ps with
 | nil=>
  intro vals es cells k r hv _ _ hrep h;have:vals=[]:=by simpa using hv
  subst this;exact ⟨es,cells,r,h,rfl,hrep⟩
 | cons p ps ih=>
  intro vals es cells k r hv hx hl hrep h;cases vals with
  | nil=>simp at hv
  | cons x vals=>
   simp only [List.map_cons,List.cons.injEq] at hv;obtain ⟨i,u⟩:=p;obtain ⟨i',xv⟩:=x;simp only at hv;obtain ⟨rfl,hv⟩:=hv;simp only [Ym] at h;obtain ⟨_,h1⟩:=h.bq;obtain ⟨hk,h2⟩:=h1.vJ;obtain ⟨hsz,h3⟩:=h2.bq;obtain ⟨hlt,h4⟩:=h3.bq;have hsz:u.cells.length=size:=Nat.eq_of_beq_eq_true hsz;have hlt:i'<es.length:=by simpa using hlt
   have hu:fC w I u xv:=hx 0 (i',u) (i',xv) rfl rfl;have hur:cO w I (λ _=>none) (λ _=>False) u xv:=.pure hu;obtain ⟨hcl,hcs⟩:=hur.cells hk;obtain ⟨r1,r2⟩:=hrep;have hmul:(i'+1)*size≤len*size:=Nat.mul_le_mul_right _ om;rw [Nat.succ_mul] at hmul;obtain ⟨s1,s2⟩:=O8 cells (i'*size) xv.cells om;have aa0:zZ w I size len (nth (yC i' u es)) (setAt cells (i'*size) xv.cells):=by
    refine ⟨by omega,λ j hj=>?_⟩;rw [Xi es i' u hlt];by_cases hji:j=i'
    ·subst hji;rw [if_pos rfl];refine ⟨hsz,λ q hq=>?_⟩;rw [s2,if_pos om,Nat.add_sub_cancel_left];exact ⟨xB (hcs q om).1,(hcs q om).2⟩
    ·rw [if_neg hji];refine ⟨(r2 j hj).1,λ q hq=>?_⟩;have hne:¬ (i'*size≤j*size+q∧j*size+q<i'*size+xv.cells.size):=by
      rcases Nat.lt_or_gt_of_ne hji with hlt' | hgt
      ·have:(j+1)*size≤i'*size:=Nat.mul_le_mul_right _ om;rw [Nat.succ_mul] at this;omega
      ·have:(i'+1)*size≤j*size:=Nat.mul_le_mul_right _ om;rw [Nat.succ_mul] at this;omega
     rw [s2,if_neg hne];exact (r2 j hj).2 q hq
   obtain ⟨es',cells',r',q1,q2,q3⟩:=ih vals _ _ k r hv (λ j u x hj hj'=>hx (j+1) u x (by simpa using hj) (by simpa using hj')) (by rw [Ru]; exact hl) aa0 h4;refine ⟨es',cells',r',q1,?_,q3⟩;rw [Sz _ cells i' xv vals (i'*size) size rfl om om];exact q2
theorem Pb (hR:Rel cfg cx H D w I O):∀(parts:List (Nat×Operand)) (k:List (Nat×AV)→List Nat→Pg) (r:List Nat),(∀p∈parts,cO w I O D (ρ p.2) (a.eval p.2))→dK Sp H (G5 (parts.map λ p=>(p.1,ρ p.2)) k) v ups r→
  ∃ps ids r',dK Sp H (k ps ids) v ups r'∧(parts.map λ p=>(p.1,a.eval p.2)).map (·.1)=ps.map (·.1)∧
   ∀(j:Nat) (u:Nat×AV) (x:Nat×Value),ps[j]? = some u→(parts.map λ p=>(p.1,a.eval p.2))[j]? = some x→fC w (λ b=>I b∨wU O ids b) u.2 x.2:=by
 intro parts;induction parts with
 | nil=>intro k r _ h; exact ⟨[],[],r,h,rfl,λ j u x hu=>by simp at hu⟩
 | cons p parts ih=>
  intro k r hx h;simp only [List.map_cons,G5] at h;obtain ⟨u,i1,r1,h1,h2⟩:=(y8 hR fuel).1 _ _ _ _ _ h;obtain ⟨ps,i2,r2,h3,h4,h5⟩:=ih _ _ (λ p hp=>hx p (List.mem_cons_of_mem _ hp)) h1;refine ⟨(p.1,u)::ps,i1++i2,r2,h3,by simpa using h4,λ j u' x' hu' hx'=>?_⟩;cases j with
  | zero=>
   simp at hu' hx';subst hu'; subst hx';exact (h2 _ (hx p (by simp))).mono (λ b h=>h.elim .inl λ h=>.inr h.Xf) (λ _ _=>rfl)
  | succ j=>
   exact (h5 j u' x' (by simpa using hu') (by simpa using hx')).mono (λ b h=>h.elim .inl λ h=>.inr h.Xg) (λ _ _=>rfl)
theorem Rv (hc:fq P cfg) (hR:Rel cfg cx H D w I O) (hn:¬ D bW) {t:TypeId} {len:Nat} {parts:Array (Nat×Operand)} (ho:o.op=.buildSlice t len parts) (hx:∀p∈parts.toList,cO w I O D (ρ p.2) (a.eval p.2))
  (h:dK Sp H (eZ cfg bW (.buildSlice t len parts) ρ) v ups r):dG P cfg cx H D w I O bW o a v ups:=by
 simp only [eZ] at h;obtain ⟨tt,e,ti,h1,h2,h3,h4⟩:=h.kr;obtain ⟨hz,h5⟩:=h4.bq;obtain ⟨hle,h6⟩:=h5.bq;have hle:len*ti.size≤4096:=Nat.le_of_ble_eq_true hle;obtain ⟨z0,z1⟩:=y9 hz;obtain ⟨hu,i,z,hi,hiz,hs,hby,hzs⟩:=hc.slice h1 h2 h3;obtain ⟨i',_,z',hi',_,Cn,_,_,_,_,hzl,GX,_⟩:=(hc.ty e ti h3).ex;rw [hi] at hi'; cases hi';rw [hiz] at Cn; cases Cn;obtain ⟨ps,ids,r1,h7,h8,h9⟩:=Pb hR parts.toList _ _ hx h6;have hzero:zZ w (λ b=>I b∨wU O ids b) ti.size len (nth (Zc len (zeroOf ti))) ((Array.range (len*ti.size)).map (λ k=>z.cells[k % z.cells.size]!)):=by
  refine ⟨by simp,λ j hj=>?_⟩;rw [aa3 _ _ _ hj,vC hz hzl];refine ⟨by rw [gL]; exact hzl,λ q hq=>?_⟩;rw [oh z.cells len j q ti.size hzs hj hq];exact ⟨tJ _ _ ti.size hzl GX q hq,og _ _ ti.size GX q hq⟩
 obtain ⟨es',cells',r2,q1,q2,q3⟩:=Vl ps _ _ _ _ _ h8 h9 (Vk _ _) hzero h7;obtain ⟨rfl,rfl⟩:=q1.iP;refine dG.Kl (p:=⟨ti.size,len,some (w.heap.size,0,cells'.size)⟩) (c:=cells') (e:=e) (x:=.slice (some ⟨w.heap.size,0,none⟩) len len) hR hn ids ?_ rfl (zZ.obj (hR.freeze ids).uw q3 rfl) ?_
 ·have e1:(parts.map λ (p:Nat×Operand)=>(p.1,a.eval p.2)).toList=parts.toList.map λ p=>(p.1,a.eval p.2):=by simp
  have hno:¬ len*ti.size > 2 ^ 24:=by omega
  by_cases h0:len*ti.size=0
  ·have hcell:cells'=#[]:=by
    have:=q3.1;rw [h0] at this;exact Array.eq_empty_of_size_eq_zero this
   have hf:Instr.fill (λ i=>some (i*ti.size,ti.size)) ((Array.range (len*ti.size)).map (λ k=>(#[]:Array Value)[k % (#[]:Array Value).size]!)) (parts.toList.map λ p=>(p.1,a.eval p.2))=some cells':=by
    have e0:∀f:Nat→Value,(Array.range (len*ti.size)).map f=#[]:=λ f=>Array.eq_empty_of_size_eq_zero (by simp [h0]);rw [e0] at q2 ⊢;exact q2
   simp only [execOp,ho,Instr.buildSlice,Sem.run_bind,bn hu,eB hi,hs,if_neg hno,if_pos h0,Sem.run_pure,e1,hf,newRow,newObj,Sem.run,Result.andThen];rfl
  ·simp only [execOp,ho,Instr.buildSlice,Sem.run_bind,bn hu,eB hi,hs,if_neg hno,if_neg h0,zeroValue,typeInfo,program,Sem.run,hi,hiz,Sem.run_pure,e1,q2,newRow,newObj,Result.andThen];rfl
 ·intro I' O' D' hO;refine .dA hO (by simp) (Nat.le_refl _) (λ _=>rfl) (λ _=>⟨_,_,_,rfl,by simp,?_⟩) (by simp);have:=q3.1;simp [this]
theorem YC {m b:Nat} (h:m*b≤140737488355328):¬ ((b:Int)*(m:Int) > 2 ^ 48):=by
 have e:(2:Int) ^ 48=((281474976710656:Nat):Int):=by decide
 rw [e,← Int.natCast_mul,Nat.mul_comm];omega
theorem TP (hc:fq P cfg) (hR:Rel cfg cx H D w I O) (hn:¬ D bW) {t:TypeId} {l c:Operand} (ho:o.op=.makeSlice t l c) (hx:cO w I O D (ρ l) (a.eval l)) (hxc:cO w I O D (ρ c) (a.eval c))
  (h:dK Sp H (eZ cfg bW (.makeSlice t l c) ρ) v ups r):dG P cfg cx H D w I O bW o a v ups:=by
 simp only [eZ] at h;obtain ⟨tt,e,ti,h1,h2,h3,h4⟩:=h.kr;split at h4
 ·rename_i k n en;rw [en] at hx;have hlv:=hx.fQ;cases hsame:xw (some l) (some c) with
  | false=>
   simp only [hsame] at h4;split at h4
   ·rename_i k2 nc enc;rw [enc] at hxc;have hcv:=hxc.fQ;obtain ⟨hb0,h6⟩:=h4.bq;obtain ⟨hz,h7⟩:=h6.bq;obtain ⟨⟨aie,hn0,hbig⟩,h8⟩:=h7.qB;obtain ⟨rfl,rfl⟩:=h8.iP;subst aie;have hb0:0<ti.bytes:=by simpa using hb0
    obtain ⟨z0,z1⟩:=y9 hz;obtain ⟨hu,i,z,hi,hiz,hs,hby,hzs⟩:=hc.slice h1 h2 h3;obtain ⟨i',_,z',hi',_,Cn,_,_,_,_,hzl,GX,_⟩:=(hc.ty e ti h3).ex;rw [hi] at hi'; cases hi';rw [hiz] at Cn; cases Cn;obtain ⟨m,rfl⟩:=Int.eq_ofNat_of_zero_le hn0;have hbig':m*ti.bytes≤140737488355328:=by
     have:((m*ti.bytes:Nat):Int)≤((140737488355328:Nat):Int):=by simpa [big] using hbig
     exact_mod_cast this
    have aif:m≤140737488355328:=Nat.le_trans (Nat.le_mul_of_pos_right _ hb0) hbig';have hw:IntKind.i64.wrap (m:Int)=m:=wrap_i64 ⟨by omega,by omega⟩;have hw0:IntKind.i64.wrap (0:Int)=0:=wrap_i64 ⟨by omega,by omega⟩;refine dG.Kl (p:=⟨ti.size,0,some (w.heap.size,0,((Array.range (m*ti.size)).map (λ k=>z.cells[k % z.cells.size]!)).size)⟩) (c:=(Array.range (m*ti.size)).map (λ k=>z.cells[k % z.cells.size]!)) (e:=e) (x:=.slice (some ⟨w.heap.size,0,none⟩) 0 m) hR hn [] ?_ rfl ⟨rfl,rfl,λ _ h=>absurd h (Nat.not_lt_zero _),.inr ⟨_,_,_,rfl,nA _ _ (by have:=sW (n:=m) hzs (og _ _ ti.size GX); unfold Builtin.zeroCells at this; rw [hzs] at this ⊢; exact this),by omega,λ _ _ h=>absurd h (Nat.not_lt_zero _)⟩⟩ ?_
    ·have hge:¬ ((m:Int)<0):=by omega
     have hb2:¬ ((ti.bytes:Int)*(m:Int) > 2 ^ 48):=YC hbig';have hroom:(askRoom (m*ti.bytes)).run P w=.ok () w:=by
      unfold askRoom;by_cases h:m*ti.bytes > roomBytes
      ·rw [if_pos h]; rfl
      ·rw [if_neg h]; rfl
     have hcond:(decide ((m:Int)<0)||decide ((ti.bytes:Int)*(m:Int) > 2 ^ 48)||decide ((0:Int)<0)||decide ((0:Int) > (m:Int)))=false:=by
      rw [decide_eq_false hge,decide_eq_false hb2]; first | rfl | simp
     clear h1 h2 h3 h4 h6 h7 h8 GX hR hc hbig;by_cases h0:m*ti.size=0
     ·have e0:∀f:Nat→Value,(Array.range (m*ti.size)).map f=#[]:=λ f=>Array.eq_empty_of_size_eq_zero (by simp [h0]);simp only [execOp,ho,hlv,hcv,Instr.makeSlice,Sem.run_bind,bn hu,Result.andThen,asInt,asIntOf,Sem.run_pure,typeInfo,program,Sem.run,hi,hw,hw0,hby,Int.toNat_natCast,hcond,Bool.false_eq_true,if_false,hroom,eB hi,hs,if_pos h0,e0,newRow,newObj];rfl
     ·simp only [execOp,ho,hlv,hcv,Instr.makeSlice,Sem.run_bind,bn hu,Result.andThen,asInt,asIntOf,Sem.run_pure,typeInfo,program,Sem.run,hi,hw,hw0,hby,Int.toNat_natCast,hcond,Bool.false_eq_true,if_false,hroom,eB hi,hs,if_neg h0,zeroValue,hiz,newRow,newObj];rfl
    ·intro I' O' D' hO;refine .dA hO (by simp) (Nat.zero_le _) (λ h=>by cases h) (λ _=>⟨_,_,_,rfl,by simp,?_⟩) (by simp);simp
   ·exact (dK.aJ h4).elim
  | true=>
  simp only [hsame] at h4;obtain ⟨hb0,h6⟩:=h4.bq;obtain ⟨hz,h7⟩:=h6.bq;obtain ⟨⟨hn0,hbig⟩,h8⟩:=h7.qB;obtain ⟨rfl,rfl⟩:=h8.iP;have hcl:c=l:=by have:=Kj hsame; simpa using this.symm
  subst hcl;have hb0:0<ti.bytes:=by simpa using hb0
  obtain ⟨z0,z1⟩:=y9 hz;obtain ⟨hu,i,z,hi,hiz,hs,hby,hzs⟩:=hc.slice h1 h2 h3;obtain ⟨i',_,z',hi',_,Cn,_,_,_,_,hzl,GX,_⟩:=(hc.ty e ti h3).ex;rw [hi] at hi'; cases hi';rw [hiz] at Cn; cases Cn;obtain ⟨m,rfl⟩:=Int.eq_ofNat_of_zero_le hn0;have hbig':m*ti.bytes≤140737488355328:=by
   have:((m*ti.bytes:Nat):Int)≤((140737488355328:Nat):Int):=by simpa [big] using hbig
   exact_mod_cast this
  have aif:m≤140737488355328:=Nat.le_trans (Nat.le_mul_of_pos_right _ hb0) hbig';have hw:IntKind.i64.wrap (m:Int)=m:=wrap_i64 ⟨by omega,by omega⟩;have hcells:zZ w (λ b=>I b∨wU O [] b) ti.size m (λ _=>zeroOf ti) ((Array.range (m*ti.size)).map (λ k=>z.cells[k % z.cells.size]!)):=by
   refine ⟨by simp,λ j hj=>?_⟩;rw [vC hz hzl];refine ⟨by rw [gL]; exact hzl,λ q hq=>?_⟩;rw [oh z.cells m j q ti.size hzs hj hq];exact ⟨tJ _ _ ti.size hzl GX q hq,og _ _ ti.size GX q hq⟩
  have e2:((m:Int)).toNat=m:=by simp
  rw [e2];have hlen:=hcells.1;refine dG.Kl (p:=⟨ti.size,m,some (w.heap.size,0,((Array.range (m*ti.size)).map (λ k=>z.cells[k % z.cells.size]!)).size)⟩) (c:=(Array.range (m*ti.size)).map (λ k=>z.cells[k % z.cells.size]!)) (e:=e) (x:=.slice (some ⟨w.heap.size,0,none⟩) m m) hR hn [] ?_ rfl (zZ.obj (hR.freeze []).uw hcells rfl) ?_
  ·have hge:¬ ((m:Int)<0):=by omega
   have hb2:¬ ((ti.bytes:Int)*(m:Int) > 2 ^ 48):=YC hbig';have hroom:(askRoom (m*ti.bytes)).run P w=.ok () w:=by
    unfold askRoom;by_cases h:m*ti.bytes > roomBytes
    ·rw [if_pos h]; rfl
    ·rw [if_neg h]; rfl
   have hcond:(decide ((m:Int)<0)||decide ((ti.bytes:Int)*(m:Int) > 2 ^ 48)||decide ((m:Int)<0)||decide ((m:Int) > (m:Int)))=false:=by
    rw [decide_eq_false hge,decide_eq_false hb2,decide_eq_false (Int.lt_irrefl _)]; rfl
   clear h1 h2 h3 h4 h6 h7 h8 GX hR hc hcells hlen hbig;by_cases h0:m*ti.size=0
   ·have e0:∀f:Nat→Value,(Array.range (m*ti.size)).map f=#[]:=λ f=>Array.eq_empty_of_size_eq_zero (by simp [h0]);simp only [execOp,ho,hlv,Instr.makeSlice,Sem.run_bind,bn hu,Result.andThen,asInt,asIntOf,Sem.run_pure,typeInfo,program,Sem.run,hi,hw,hby,Int.toNat_natCast,hcond,Bool.false_eq_true,if_false,hroom,eB hi,hs,if_pos h0,e0,newRow,newObj];rfl
   ·simp only [execOp,ho,hlv,Instr.makeSlice,Sem.run_bind,bn hu,Result.andThen,asInt,asIntOf,Sem.run_pure,typeInfo,program,Sem.run,hi,hw,hby,Int.toNat_natCast,hcond,Bool.false_eq_true,if_false,hroom,eB hi,hs,if_neg h0,zeroValue,hiz,newRow,newObj];rfl
  ·intro I' O' D' hO;refine .dA hO (by simp) (Nat.le_refl _) (λ _=>rfl) (λ _=>⟨_,_,_,rfl,by simp,?_⟩) (by simp);simp
 ·exact (dK.aJ h4).elim
end
end Go.Ab
namespace Go.Ab
section
variable {P:Program} {cfg:qz} {cx:Ctx} {H:Nat→Option cu} {D:Nat→Prop} {w:World} {I:Nat→Prop} {O:OM} {Sp:kL}
variable {bW:Nat} {o:Oper} {a:Act} {ρ:Operand→AV} {v:AV} {ups:jh} {r:List Nat}
variable {w':World}
theorem Rel.z8 (h:w'.heap=w.heap) (he:fP w' w) (hR:Rel cfg cx H D w I O):Rel cfg cx H D w' I O:=
 { hR with
  objs:=λ o ob p h1 h2=>(hR.objs o ob p h1 h2).mono (λ _ h=>h) (λ _ _=>by rw [h]) (λ _ _=>.inl rfl) (λ _ h=>h) hR.used (λ _ _ _ _=>by rw [h])
  lt:=λ o p b bo sz h1 h2=>by rw [h]; exact hR.lt o p b bo sz h1 h2
  uw:=λ b hb=>by rw [h]; exact hR.uw b hb
  size:=by rw [h]; exact hR.size
  frame:=λ b h1 h2=>by rw [h]; exact hR.frame b h1 h2
  env:=hR.env.step he
  glob:=λ g cs hg=>(hR.glob g cs hg).mono (λ _ h=>h) (λ _ _=>by rw [h]) }
theorem cO.z8 (h:w'.heap=w.heap) (hR:Rel cfg cx H D w I O) {v:AV} {x:Value} (hx:cO w I O D v x):cO w' I O D v x:=
 hx.mono (λ _ h=>h) (λ _ _=>by rw [h]) (λ _ _=>.inl rfl) (λ _ h=>h) hR.used
theorem Rel.drop (hR:Rel cfg cx H D w I O) (ids:List Nat):Rel cfg cx (jK H (dead ids)) D w I (kill O ids):=by
 have hF:=hR.freeze ids;exact { hF with
  objs:=λ o ob p h h'=>by
   rw [Ep] at h; unfold kill at h'
   by_cases h0:o∈ids<;>simp [h0] at h h'
   exact (hR.objs o ob p h h').mono (λ _ h=>h) (λ _ _=>rfl) (λ o _=>by unfold kill; by_cases h0:o∈ids<;>simp [h0]) (λ _ h=>h) hR.used (λ _ _ _ _=>rfl)
  lu:=λ o p b bo sz h1 h2 h3=>hF.lu o p b bo sz h1 h2 (.inl h3)
  uw:=hR.uw
  glob:=hR.glob
  G8:=hR.G8
  L9:=hR.L9 }
theorem cO.drop (hR:Rel cfg cx H D w I O) (ids:List Nat) {v:AV} {x:Value} (h:cO w I O D v x):cO w I (Ab.kill O ids) D v x:=
 h.mono (λ _ h=>h) (λ _ _=>rfl) (λ o _=>by unfold Ab.kill; by_cases h0:o∈ids<;>simp [h0]) (λ _ h=>h) hR.used
variable {b:Nat} {bo:Nat} {sz:Nat}
theorem Rel.place (hR:Rel cfg cx H D w I O) (hn:¬ D bW) (he:fP w' w) (ob:cu) (p:Own) (hp:p.pl=some (b,bo,sz)) (hb:∀b',b'≠b→w'.heap[b']? = w.heap[b']?) (hs:w'.heap.size=w.heap.size)
  (hlt:b<w.heap.size) (hnew:cx.w0.heap.size≤b∨cx.M b) (hnI:¬ I b) (hfree:∀o p b' kK sz',O o=some p→p.pl=some (b',kK,sz')→b'≠b)
  (lg:gJ w' I (jy O bW p) (vV D bW) p ob) (hnm:∀kd z f,ob≠.map kd z f:=by intro _ _ _ h; cases h):Rel cfg cx (jK H [(bW,some ob)]) (vV D bW) w' I (jy O bW p):=by
 have hH:∀o,jK H [(bW,some ob)] o=if o=bW then some ob else H o:=by
  intro o;simp only [jK,look];cases hb:Nat.beq bW o with
  | true=>have:=Nat.eq_of_beq_eq_true hb; subst this; simp
  | false=>
   have:o≠bW:=λ e=>by subst e; simp at hb
   simp [this]
 have old:∀ {o p'},o≠bW→jy O bW p o=some p'→O o=some p':=λ hne h=>by unfold jy at h; rwa [if_neg hne] at h
 have Km:∀b',I b'→w'.heap[b']? = w.heap[b']? := λ b' h=>hb b' (λ e=>hnI (e ▸ h));exact {
  dom:=λ o=>by
   rw [hH]; unfold jy
   by_cases h:o=bW
   ·simp [h]
   ·simp [h,hR.dom o]
  used:=λ o p' h=>by
   by_cases hne:o=bW
   ·exact Kg hne
   ·exact .inl (hR.used o p' (old hne h))
  objs:=λ o ob' p' h h'=>by
   by_cases hne:o=bW
   ·subst hne
    rw [hH,if_pos rfl] at h
    unfold jy at h'
    rw [if_pos rfl] at h'
    cases h; cases h'
    exact lg
   ·rw [hH,if_neg hne] at h
    have h'':=old hne h'
    exact (hR.objs o ob' p' h h'').mono (λ _ h=>h) Km (λ _ ho=>.inl (Cm hn ho)) (λ _ h=>.inl h) hR.used (λ b' kK sz' hpl=>hb b' (hfree o p' b' kK sz' h'' hpl))
  inj:=λ o o' p1 p2 b1 Rl Rm b2 bo2 sz2 h1 h2 h3 h4 h5=>by
   by_cases e1:o=bW
   ·by_cases e2:o'=bW
    ·exact absurd (e1.trans e2.symm) h5
    ·unfold jy at h1
     rw [if_pos e1] at h1
     cases h1
     rw [hp] at h3
     cases h3
     exact λ e=>hfree o' p2 b2 bo2 sz2 (old e2 h2) h4 e.symm
   ·by_cases e2:o'=bW
    ·unfold jy at h2
     rw [if_pos e2] at h2
     cases h2
     rw [hp] at h4
     cases h4
     exact hfree o p1 b1 Rl Rm (old e1 h1) h3
    ·exact hR.inj o o' p1 p2 b1 Rl Rm b2 bo2 sz2 (old e1 h1) (old e2 h2) h3 h4 h5
  lu:=λ o p1 b1 Rl Rm h1 h2 h3=>by
   by_cases e1:o=bW
   ·unfold jy at h1
    rw [if_pos e1] at h1
    cases h1
    rw [hp] at h2
    cases h2
    exact hnI h3
   ·exact hR.lu o p1 b1 Rl Rm (old e1 h1) h2 h3
  lt:=λ o p1 b1 Rl Rm h1 h2=>by
   by_cases e1:o=bW
   ·unfold jy at h1
    rw [if_pos e1] at h1
    cases h1
    rw [hp] at h2
    cases h2
    omega
   ·have:=hR.lt o p1 b1 Rl Rm (old e1 h1) h2
    omega
  uw:=λ b' h=>by rw [hs]; exact hR.uw b' h
  size:=by rw [hs]; exact hR.size
  env:=hR.env.step he
  frame:=λ b' h1 h2=>by
   rw [hb b' (λ e=>by subst e; rcases hnew with h | h; omega; exact h2 h)]
   exact hR.frame b' h1 h2
  new:=λ o p1 b1 Rl Rm h1 h2=>by
   by_cases e1:o=bW
   ·unfold jy at h1
    rw [if_pos e1] at h1
    cases h1
    rw [hp] at h2
    cases h2
    exact hnew
   ·exact hR.new o p1 b1 Rl Rm (old e1 h1) h2
  glob:=λ g cs h=>(hR.glob g cs h).mono (λ _ h=>h) Km
  G8:=hR.G8
  L9:=hR.L9
  O5:=λ o h=>by
   have hne:o≠bW:=λ e=>hn (e ▸ hR.Dm o h)
   unfold jy
   rw [if_neg hne]
   exact hR.O5 o h
  Dm:=λ o h=>.inl (hR.Dm o h) }
theorem cO.place (hR:Rel cfg cx H D w I O) (hn:¬ D bW) {p:Own} (hb:∀b',I b'→w'.heap[b']? = w.heap[b']?) {v:AV} {x:Value} (h:cO w I O D v x):cO w' I (jy O bW p) (vV D bW) v x:=
 h.mono (λ _ h=>h) hb (λ _ ho=>.inl (Cm hn ho)) (λ _ h=>.inl h) hR.used
theorem Rel.empty (hR:Rel cfg cx H D w I O) (hn:¬ D bW) (es:Nat) (g:Nat→AV):Rel cfg cx (jK H [(bW,some (.row es 0 g))]) (vV D bW) w I (jy O bW ⟨es,0,none⟩):=by
 have hH:∀o,jK H [(bW,some (.row es 0 g))] o=if o=bW then some (.row es 0 g) else H o:=by
  intro o;simp only [jK,look];cases hb:Nat.beq bW o with
  | true=>have:=Nat.eq_of_beq_eq_true hb; subst this; simp
  | false=>
   have:o≠bW:=λ e=>by subst e; simp at hb
   simp [this]
 have old:∀ {o p' b bo sz},jy O bW ⟨es,0,none⟩ o=some p'→p'.pl=some (b,bo,sz)→O o=some p':=λ h h'=>by
  unfold jy at h;split at h
  ·cases h; cases h'
  ·exact h
 exact {
  dom:=λ o=>by
   rw [hH]; unfold jy
   by_cases h:o=bW
   ·simp [h]
   ·simp [h,hR.dom o]
  used:=λ o p' h=>by
   by_cases hne:o=bW
   ·exact Kg hne
   ·unfold jy at h
    rw [if_neg hne] at h
    exact .inl (hR.used o p' h)
  objs:=λ o ob' p' h h'=>by
   by_cases hne:o=bW
   ·subst hne
    rw [hH,if_pos rfl] at h
    unfold jy at h'
    rw [if_pos rfl] at h'
    cases h; cases h'
    exact ⟨rfl,rfl,λ i hi=>absurd hi om,.inl ⟨rfl,rfl⟩⟩
   ·rw [hH,if_neg hne] at h
    unfold jy at h'
    rw [if_neg hne] at h'
    exact (hR.objs o ob' p' h h').mono (λ _ h=>h) (λ _ _=>rfl) (λ _ ho=>.inl (Cm hn ho)) (λ _ h=>.inl h) hR.used (λ _ _ _ _=>rfl)
  inj:=λ o o' p1 p2 b1 Rl Rm b2 bo2 sz2 h1 h2 h3 h4 h5=>hR.inj o o' p1 p2 b1 Rl Rm b2 bo2 sz2 (old h1 h3) (old h2 h4) h3 h4 h5
  lu:=λ o p1 b1 Rl Rm h1 h2 h3=>hR.lu o p1 b1 Rl Rm (old h1 h2) h2 h3
  lt:=λ o p1 b1 Rl Rm h1 h2=>hR.lt o p1 b1 Rl Rm (old h1 h2) h2
  uw:=hR.uw
  size:=hR.size
  frame:=hR.frame
  env:=hR.env
  new:=λ o p1 b1 Rl Rm h1 h2=>hR.new o p1 b1 Rl Rm (old h1 h2) h2
  glob:=hR.glob
  G8:=hR.G8
  L9:=hR.L9
  O5:=λ o h=>by
   have hne:o≠bW:=λ e=>hn (e ▸ hR.Dm o h)
   unfold jy
   rw [if_neg hne]
   exact hR.O5 o h
  Dm:=λ o h=>.inl (hR.Dm o h) }
theorem Rel.aa4 (hR:Rel cfg cx H D w I O) (he:y7 cx w') {ob:Nat} {p:Own} (x:cu) (ho:O ob=some p) (hp:p.pl=some (b,bo,sz)) (hb:∀b',b'≠b→w'.heap[b']? = w.heap[b']?) (hs:w'.heap.size=w.heap.size)
  (lg:gJ w' I O D p x):Rel cfg cx (jK H [(ob,some x)]) D w' I O:=by
 have hnI:=hR.lu ob p b bo sz ho hp;have Km:∀b',I b'→w'.heap[b']? = w.heap[b']? := λ b' h=>hb b' (λ e=>hnI (e ▸ h));have hH:∀o,jK H [(ob,some x)] o=if o=ob then some x else H o:=by
  intro o;simp only [jK,look];cases hb:Nat.beq ob o with
  | true=>have:=Nat.eq_of_beq_eq_true hb; subst this; simp
  | false=>
   have:o≠ob:=λ e=>by subst e; simp at hb
   simp [this]
 exact { hR with
  dom:=λ o=>by
   rw [hH]
   by_cases h:o=ob
   ·subst h; simp [ho]
   ·simp [h,hR.dom o]
  objs:=λ o ob' p' h h'=>by
   by_cases hne:o=ob
   ·subst hne
    rw [hH,if_pos rfl] at h
    rw [ho] at h'
    cases h; cases h'
    exact lg
   ·rw [hH,if_neg hne] at h
    exact (hR.objs o ob' p' h h').mono (λ _ h=>h) Km (λ _ _=>.inl rfl) (λ _ h=>h) hR.used (λ b' kK sz' hpl=>hb b' (hR.inj o ob p' p b' kK sz' b bo sz h' ho hpl hp hne))
  lt:=λ o p1 b1 Rl Rm h1 h2=>by rw [hs]; exact hR.lt o p1 b1 Rl Rm h1 h2
  uw:=λ b' h=>by rw [hs]; exact hR.uw b' h
  size:=by rw [hs]; exact hR.size
  env:=he
  frame:=λ b' h1 h2=>by
   rw [hb b' (λ e=>by subst e; rcases hR.new ob p b' bo sz ho hp with h | h; omega; exact h2 h)]
   exact hR.frame b' h1 h2
  glob:=λ g cs h=>(hR.glob g cs h).mono (λ _ h=>h) Km }
theorem Rel.write (hR:Rel cfg cx H D w I O) (he:fP w' w) {ob:Nat} {p:Own} (x:cu) (ho:O ob=some p) (hp:p.pl=some (b,bo,sz)) (hb:∀b',b'≠b→w'.heap[b']? = w.heap[b']?) (hs:w'.heap.size=w.heap.size)
  (lg:gJ w' I O D p x) (hnm:∀kd z f,x≠.map kd z f:=by intro _ _ _ h; cases h):Rel cfg cx (jK H [(ob,some x)]) D w' I O:=
 hR.aa4 (hR.env.step he) x ho hp hb hs lg
theorem fP.setCell (w:World) (a:Addr) (v:Value):fP (w.setCell a v) w:=⟨rfl,rfl,rfl,λ i o hi ho=>by
 unfold World.setCell;simp only [Array.getElem?_modify];split
 ·rw [hi];cases o with
  | cells c t f=>cases ho
  | _=>rfl
 ·exact hi⟩
theorem kR (b:Nat):∀(vs:List Value) (off:Nat) (w:World),fP (w.setCells b off vs) w
 | [],_,w=>fP.refl w
 | v::r,off,w=>(kR b r (off+1) (w.setCell ⟨b,off,none⟩ v)).trans (fP.setCell w _ v)
theorem jW (b:Nat):∀(vs:List Value) (off:Nat) (w:World),(w.setCells b off vs).heap.size=w.heap.size∧∀b',b'≠b→(w.setCells b off vs).heap[b']? = w.heap[b']?
 | [],_,_=>⟨rfl,λ _ _=>rfl⟩
 | v::r,off,w=>by
  obtain ⟨h1,h2⟩:=jW b r (off+1) (w.setCell ⟨b,off,none⟩ v);have e1:(w.setCell ⟨b,off,none⟩ v).heap.size=w.heap.size:=by simp [World.setCell]
  refine ⟨by rw [World.setCells,h1,e1],λ b' hb=>?_⟩;rw [World.setCells,h2 b' hb];simp [World.setCell,Array.getElem?_modify,Ne.symm hb]
theorem AX (b:Nat):∀(vs:List Value) (off:Nat) (w:World) (j:Nat),(w.setCells b off vs).frozen? ⟨b,j,none⟩=w.frozen? ⟨b,j,none⟩
 | [],_,_,_=>rfl
 | v::r,off,w,j=>by
  rw [World.setCells,AX b r (off+1) _ j];unfold World.frozen? World.setCell;simp only [Array.getElem?_modify];cases hb:w.heap[b]? with
  | none=>simp
  | some ob=>cases ob<;>simp
theorem iX (h:AQ w b sz) (off:Nat) (vs:List Value) (hle:off+vs.length≤sz):AQ (w.setCells b off vs) b sz∧
  ∀j,j<sz→cellAt (w.setCells b off vs) b j=if off≤j∧j<off+vs.length then vs.getD (j - off) Go.undef else cellAt w b j:=by
 have hin:=World.cell?_setCells_in b vs off w (λ j hj=>(h (off+j) om).1);have key:∀j,j<sz→(w.setCells b off vs).cell? ⟨b,j,none⟩=some (if off≤j∧j<off+vs.length then vs.getD (j - off) Go.undef else cellAt w b j):=by
  intro j hj;by_cases hc:off≤j∧j<off+vs.length
  ·rw [if_pos hc];have:=hin (j - off) om;rw [show off+(j - off)=j by omega] at this;rw [this];simp [show j - off<vs.length by omega]
  ·rw [if_neg hc,World.cell?_setCells_out b vs off w ⟨b,j,none⟩ (λ _ _=>by simp; omega)];exact pV h hj
 refine ⟨λ j hj=>⟨by rw [key j hj]; rfl,by rw [AX]; exact (h j hj).2⟩,λ j hj=>by rw [cellAt,key j hj]; rfl⟩
theorem lC (h:rU w b bo sz) (off:Nat) (vs:List Value) (hle:off+vs.length≤sz) (h1:∀q,q<vs.length→(vs.getD q Go.undef).oneCell'=true):rU (w.setCells b off vs) b bo sz:=
 ⟨(iX h.al off vs hle).1,λ j hb hj=>by
  rw [(iX h.al off vs hle).2 j hj];split
  ·exact h1 _ om
  ·exact h.one j hb hj⟩
end
end Go.Ab
namespace Go.Ab
section
variable {P:Program} {cfg:qz} {cx:Ctx} {H:Nat→Option cu} {D:Nat→Prop} {w:World} {I:Nat→Prop} {O:OM} {Sp:kL}
variable {bW:Nat} {o:Oper} {a:Act} {ρ:Operand→AV} {v:AV} {ups:jh} {r:List Nat}
theorem run_store {t:TypeId} {i:TypeInfo} (hi:P.info? t=some i) {b off sz:Nat} (hal:AQ w b sz) (x:Value) (hs:x.cells.size=i.size) (hle:off+x.cells.size≤sz) (h1:∀j,j<x.cells.size→(x.cells.getD j Go.undef).oneCell'=true):
  (Instr.storeAt t (.pointer (some ⟨b,off,none⟩)) x).run P w=.ok () (w.setCells b off x.cells.toList):=by
 have:=run_storeCells_cells (P:=P) b off x.cells.toList 0 w (λ j hj=>(hal (off+0+j) (by simp at hj; omega)).1) (λ j hj=>(hal (off+0+j) (by simp at hj; omega)).2)
  (λ u hu=>by
    obtain ⟨j,hj,rfl⟩:=List.mem_iff_getElem.1 hu
    have hj':j<x.cells.size:=by simpa using hj
    simpa [hj'] using h1 j hj')
 rw [Nat.add_zero] at this;have hne:¬ x.cells.size≠i.size:=by omega
 simp only [Instr.storeAt,Instr.sureAddr,Sem.run_bind,Sem.run_pure,Result.andThen,storeVar,eB hi,if_neg hne,this]
theorem Hl {w':World} {next:Act→World→Prop} {Q:Exit→Act→World→Prop} (h:(execOp a.eval o).run P w=.ok .skip w') (hn:next (a.put o.dst Go.undef) w'):o.wp P a w next Q:=by
 unfold Oper.wp; rw [h]; exact hn
theorem rX {x:Nat} {l:List Nat} (h:vv x l=false):x ∉ l:=by
 induction l with
 | nil=>simp
 | cons b l ih=>
  unfold vv at h;cases hb:Nat.beq x b with
  | true=>simp [hb] at h
  | false=>
   simp only [hb] at h;have hne:x≠b:=λ e=>by subst e; simp at hb
   simp [hne,ih h]
theorem aa5 (hc:fq P cfg) (hR:Rel cfg cx H D w I O) {t:TypeId} {x y:Operand} (ho:o.op=.store t x y) (hx:cO w I O D (ρ x) (a.eval x)) (hy:cO w I O D (ρ y) (a.eval y))
  (h:dK Sp H (eZ cfg bW (.store t x y) ρ) v ups r):dG P cfg cx H D w I O bW o a v ups:=by
 simp only [eZ] at h;obtain ⟨ti,ht,h1⟩:=h.iG;obtain ⟨i,d,hi,hu,hd,hs⟩:=hc.agg ht;split at h1
 ·rename_i ob k off e;rw [e] at hx;obtain ⟨obj,_,lg,h2⟩:=h1.jN;obtain ⟨p,hp,hO⟩:=hR.live lg;obtain ⟨b,bo,sz,hpl,hk,hxv⟩:=hx.kQ hp;cases obj with
  | map=>exact (dK.aJ h2).elim
  | box cs=>
   obtain ⟨hn,b',kK,sz',hpl',hal,hle,hcs⟩:=hO;rw [hpl] at hpl';cases hpl';have hk0:k=0:=by omega
   subst hk0;obtain ⟨hok,h3⟩:=h2.vJ;obtain ⟨hsz,h4⟩:=h3.bq;obtain ⟨hin,h5⟩:=h4.bq;obtain ⟨rfl,rfl⟩:=h5.iP;have hsz:(ρ y).cells.length=ti.size:=Nat.eq_of_beq_eq_true hsz;have hin:off+(ρ y).cells.length≤cs.length:=Nat.le_of_ble_eq_true hin;obtain ⟨hcl,hcc⟩:=hy.cells hok;have hrun:=run_store (P:=P) hi hal (a.eval y) (off:=bo+off) om om (λ j hj=>(hcc j om).2);obtain ⟨Pd,hcell⟩:=iX hal (bo+off) (a.eval y).cells.toList (by simp; omega);obtain ⟨Zp,Rn⟩:=jW b (a.eval y).cells.toList (bo+off) w;have Km:∀b',I b'→(w.setCells b (bo+off) (a.eval y).cells.toList).heap[b']? = w.heap[b']? := λ b' hb=>Rn b' (λ e=>hR.lu ob p b bo sz hp hpl (e ▸ hb));have keep:∀u z,cO w I O D u z→cO (w.setCells b (bo+off) (a.eval y).cells.toList) I O D u z:=λ u z hu=>hu.mono (λ _ h=>h) Km (λ _ _=>.inl rfl) (λ _ h=>h) hR.used;have Co:=hR.write (kR _ _ _ _) (.box (yX off (ρ y).cells cs)) hp hpl Rn Zp (by
    refine ⟨hn,b,bo,sz,hpl,Pd,by rw [tK]; exact hle,λ j hj=>?_⟩
    rw [tK] at hj
    rw [O9 _ _ _ hin,hcell (bo+j) om]
    by_cases hc1:off≤j∧j<off+(ρ y).cells.length
    ·rw [if_pos hc1,if_pos (by simp; omega)]
     have:=keep _ _ (hcc (j - off) om).1
     have e2:bo+j - (bo+off)=j - off:=by omega
     rw [e2]
     have hlt:j - off<(a.eval y).cells.size:=by omega
     simpa [hlt] using this
    ·rw [if_neg hc1,if_neg (by simp; omega)]
     exact keep _ _ (hcs j hj))
   intro next Q hnx
   refine Hl (w':=w.setCells b (bo+off) (a.eval y).cells.toList) ?_ (hnx Go.undef _ I O (Co.qV bW) (λ u z hu=>(keep u z hu).qV Co bW) (.pure (.undef _)));simp only [Nat.zero_mul,Nat.zero_add] at hxv;simp only [execOp,ho,hxv,Sem.run_bind,hrun,Result.andThen,Sem.run_pure]
  | row es n g=>
   simp only at h2;split at h2
   ·obtain ⟨x',ids,_,h3,aeZ⟩:=(y8 hR fuel).1 _ _ _ _ _ h2;obtain ⟨hmem,h4⟩:=h3.bq;have hmem:ob ∉ ids:=rX (by simpa using hmem);obtain ⟨hok,h5⟩:=h4.vJ;obtain ⟨hsz,h6⟩:=h5.bq;obtain ⟨c1,h7⟩:=h6.bq;obtain ⟨c2,h8⟩:=h7.bq;obtain ⟨c3,h9⟩:=h8.bq;obtain ⟨rfl,rfl⟩:=h9.iP;obtain ⟨rfl,rfl⟩:=Ov c3;have hsz:x'.cells.length=ti.size:=Nat.eq_of_beq_eq_true hsz;have c1:es=1:=Nat.eq_of_beq_eq_true c1;have c2:n=ti.size:=Nat.eq_of_beq_eq_true c2;subst c1;have hyp:=aeZ _ hy;have Hg:=hR.freeze ids;have hp1:kill O ids ob=some p:=by unfold kill; rw [if_neg hmem]; exact hp
    have Zq:cO w (λ b=>I b∨wU O ids b) (kill O ids) D x' (a.eval y):=.pure hyp;obtain ⟨hcl,hcc⟩:=Zq.cells hok;have hcp:∀j,j<x'.cells.length→fC w (λ b=>I b∨wU O ids b) (nth x'.cells j) ((a.eval y).cells.getD j Go.undef):=by
     have ae0:cO w (λ b=>I b∨wU O ids b) (λ _=>none) (λ _=>False) x' (a.eval y):=.pure hyp;exact λ j hj=>xB ((ae0.cells hok).2 j hj).1
    obtain ⟨hn,hes,hlen,hpl' | ⟨b',kK,sz',hpl',hal,hle,hcs⟩⟩:=hO
    ·rw [hpl] at hpl'; cases hpl'.2
    rw [hpl] at hpl';cases hpl';simp only [Nat.zero_mul,Nat.add_zero] at hxv;have hrun:=run_store (P:=P) hi hal.al (a.eval y) (off:=bo) om om (λ j hj=>(hcc j om).2);have Pd:=lC hal bo (a.eval y).cells.toList (by simp; omega) (λ q hq=>by have hlt:q<(a.eval y).cells.size:=(by simpa using hq); simpa [hlt] using (hcc q om).2);obtain ⟨_,hcell⟩:=iX hal.al bo (a.eval y).cells.toList (by simp; omega);obtain ⟨Zp,Rn⟩:=jW b (a.eval y).cells.toList bo w;have Km:∀b',(λ b=>I b∨wU O ids b) b'→(w.setCells b bo (a.eval y).cells.toList).heap[b']? = w.heap[b']? := λ b' hb=>Rn b' (λ e=>Hg.lu ob p b bo sz hp1 hpl (e ▸ hb));have keep:∀u z,cO w (λ b=>I b∨wU O ids b) (kill O ids) D u z→cO (w.setCells b bo (a.eval y).cells.toList) (λ b=>I b∨wU O ids b) (kill O ids) D u z:=λ u z hu=>hu.mono (λ _ h=>h) Km (λ _ _=>.inl rfl) (λ _ h=>h) Hg.used;have Cq:∀u z,fC w (λ b=>I b∨wU O ids b) u z→fC (w.setCells b bo (a.eval y).cells.toList) (λ b=>I b∨wU O ids b) u z:=λ u z hu=>hu.mono (λ _ h=>h) Km;have hone:∀q,q<n→(nth x'.cells q).cells=[nth x'.cells q]:=λ q hq=>by
     have:=Mc hok q om;cases hv:nth x'.cells q with
     | agg cs=>rw [hv] at this; cases this
     | _=>rfl
    have Co:=Hg.write (kR _ _ _ _) (.row 1 n (OG x'.cells)) hp1 hpl Rn Zp (by
     refine ⟨hn,hes,λ q hq=>by show (nth x'.cells q).cells.length=1; rw [hone q hq]; rfl,.inr ⟨b,bo,sz,hpl,Pd,hle,λ q j hq hj=>?_⟩⟩
     have hj0:j=0:=by omega
     subst hj0
     simp only [Nat.mul_one,Nat.add_zero]
     rw [hcell (bo+q) om,if_pos (by simp; omega)]
     have e2:bo+q - bo=q:=by omega
     rw [e2]
     have hlt:q<(a.eval y).cells.size:=by omega
     show fC _ _ (nth (nth x'.cells q).cells 0) _∧_
     rw [hone q hq]
     have:=Cq _ _ (hcp q om)
     exact ⟨by simpa [hlt,nth] using this,by simpa [hlt] using (hcc q om).2⟩)
    intro next Q hnx
    refine Hl (w':=w.setCells b bo (a.eval y).cells.toList) ?_ (hnx Go.undef _ _ _ (by rw [vL]; exact Co.qV bW) (λ u z hu=>(keep u z (hu.kill hR ids)).qV Co bW) (.pure (.undef _)));simp only [execOp,ho,hxv,Sem.run_bind,hrun,Result.andThen,Sem.run_pure]
   obtain ⟨x',ids,_,h3,aeZ⟩:=(y8 hR fuel).1 _ _ _ _ _ h2;obtain ⟨hmem,h4⟩:=h3.bq;have hmem:ob ∉ ids:=rX (by simpa using hmem);obtain ⟨hok,h5⟩:=h4.vJ;obtain ⟨hsz,h6⟩:=h5.bq;obtain ⟨hpos,h7⟩:=h6.bq;obtain ⟨hin,h8⟩:=h7.bq;obtain ⟨rfl,rfl⟩:=h8.iP;have hsz:x'.cells.length=ti.size:=Nat.eq_of_beq_eq_true hsz;have hpos:0<ti.size:=by simpa using hpos
   have hin:off+x'.cells.length≤es:=Nat.le_of_ble_eq_true hin;have hyp:=aeZ _ hy;have Hg:=hR.freeze ids;have hp1:kill O ids ob=some p:=by unfold kill; rw [if_neg hmem]; exact hp
   have Zq:cO w (λ b=>I b∨wU O ids b) (kill O ids) D x' (a.eval y):=.pure hyp;obtain ⟨hcl,hcc⟩:=Zq.cells hok;have hcp:∀j,j<x'.cells.length→fC w (λ b=>I b∨wU O ids b) (nth x'.cells j) ((a.eval y).cells.getD j Go.undef):=by
    have ae0:cO w (λ b=>I b∨wU O ids b) (λ _=>none) (λ _=>False) x' (a.eval y):=.pure hyp;exact λ j hj=>xB ((ae0.cells hok).2 j hj).1
   obtain ⟨hn,hes,hlen,hpl' | ⟨b',kK,sz',hpl',hal,hle,hcs⟩⟩:=hO
   ·rw [hpl] at hpl'; cases hpl'.2
   rw [hpl] at hpl';cases hpl';rw [hes] at hxv;have hkn:k<n:=by omega
   have hmul:(k+1)*es≤n*es:=Nat.mul_le_mul_right _ hkn;rw [Nat.succ_mul] at hmul;have hrun:=run_store (P:=P) hi hal.al (a.eval y) (off:=bo+(k*es+off)) om om (λ j hj=>(hcc j om).2);have Pd:=lC hal (bo+(k*es+off)) (a.eval y).cells.toList (by simp; omega) (λ q hq=>by have hlt:q<(a.eval y).cells.size:=(by simpa using hq); simpa [hlt] using (hcc q om).2);obtain ⟨_,hcell⟩:=iX hal.al (bo+(k*es+off)) (a.eval y).cells.toList (by simp; omega);obtain ⟨Zp,Rn⟩:=jW b (a.eval y).cells.toList (bo+(k*es+off)) w;have Km:∀b',(λ b=>I b∨wU O ids b) b'→(w.setCells b (bo+(k*es+off)) (a.eval y).cells.toList).heap[b']? = w.heap[b']? := λ b' hb=>Rn b' (λ e=>Hg.lu ob p b bo sz hp1 hpl (e ▸ hb));have keep:∀u z,cO w (λ b=>I b∨wU O ids b) (kill O ids) D u z→cO (w.setCells b (bo+(k*es+off)) (a.eval y).cells.toList) (λ b=>I b∨wU O ids b) (kill O ids) D u z:=λ u z hu=>hu.mono (λ _ h=>h) Km (λ _ _=>.inl rfl) (λ _ h=>h) Hg.used;have Cq:∀u z,fC w (λ b=>I b∨wU O ids b) u z→fC (w.setCells b (bo+(k*es+off)) (a.eval y).cells.toList) (λ b=>I b∨wU O ids b) u z:=λ u z hu=>hu.mono (λ _ h=>h) Km;have hel:∀gk,gk=g k→(match gk with | .agg cs=>AV.agg (yX off x'.cells cs) | _=>x').cells.length=es∧
     ∀j,j<es→nth (match gk with | .agg cs=>AV.agg (yX off x'.cells cs) | _=>x').cells j=if off≤j∧j<off+x'.cells.length then nth x'.cells (j - off) else nth gk.cells j:=by
    intro gk hgk
    have hl:=hlen k hkn
    rw [← hgk] at hl
    have one:gk.cells=[gk]→x'.cells.length=es∧∀j,j<es→nth x'.cells j=if off≤j∧j<off+x'.cells.length then nth x'.cells (j - off) else nth gk.cells j:=by
     intro hc1
     rw [hc1] at hl
     simp at hl
     have:off=0:=by omega
     subst this
     exact ⟨by omega,λ j hj=>by rw [if_pos om]; rfl⟩
    cases gk with
    | agg cs=>
     simp only [AV.cells] at hl ⊢
     exact ⟨by rw [tK]; exact hl,λ j hj=>O9 cs x'.cells off om j⟩
    | _=>exact one rfl
   have aii:∀q:Bool,q=(Tv off&&Nat.beq x'.cells.length es)→(match q with | true=>x' | false=>match g k with | .agg cs=>AV.agg (yX off x'.cells cs) | _=>x').cells.length=es∧
     ∀j,j<es→nth (match q with | true=>x' | false=>match g k with | .agg cs=>AV.agg (yX off x'.cells cs) | _=>x').cells j=if off≤j∧j<off+x'.cells.length then nth x'.cells (j - off) else nth (g k).cells j:=by
    intro q hq
    cases q with
    | false=>exact hel (g k) rfl
    | true=>
     simp only [eq_comm (a:=true),Bool.and_eq_true] at hq
     have h0:off=0:=by cases off with | zero=>rfl | succ n=>cases hq.1
     have hq1:=Nat.eq_of_beq_eq_true hq.2
     subst h0
     exact ⟨hq1,λ j hj=>by rw [if_pos om]; rfl⟩
   obtain ⟨aij,aik⟩:=aii _ rfl;have Co:=Hg.write (kR _ _ _ _) (.row es n (U1 g k (match Tv off&&Nat.beq x'.cells.length es with | true=>x' | false=>match g k with | .agg cs=>.agg (yX off x'.cells cs) | _=>x'))) hp1 hpl Rn Zp (by
    refine ⟨hn,hes,λ j hj=>?_,.inr ⟨b,bo,sz,hpl,Pd,hle,λ j q hj hq=>?_⟩⟩
    ·simp only [U1]
     cases hb:Nat.beq j k with
     | true=>simp only [cond_true]; exact aij
     | false=>simp only [cond_false]; exact hlen j hj
    ·have hmj:(j+1)*es≤n*es:=Nat.mul_le_mul_right _ hj
     rw [Nat.succ_mul] at hmj
     rw [hcell (bo+(j*es+q)) om]
     simp only [U1]
     cases hb:Nat.beq j k with
     | true=>
      have hjk:=Nat.eq_of_beq_eq_true hb
      subst hjk
      simp only [cond_true]
      rw [aik q hq]
      by_cases hc1:off≤q∧q<off+x'.cells.length
      ·rw [if_pos hc1,if_pos (by simp; omega)]
       have e2:bo+(j*es+q) - (bo+(j*es+off))=q - off:=by omega
       rw [e2]
       have hlt:q - off<(a.eval y).cells.size:=by omega
       have:=Cq _ _ (hcp (q - off) om)
       exact ⟨by simpa [hlt] using this,by simpa [hlt] using (hcc (q - off) om).2⟩
      ·rw [if_neg hc1,if_neg (by simp; omega)]
       exact ⟨Cq _ _ ((hcs j q hj hq).1.mono (λ _ h=>.inl h) (λ _ _=>rfl)),(hcs j q hj hq).2⟩
     | false=>
      have hjk:j≠k:=λ e=>by subst e; simp at hb
      simp only [cond_false]
      have hne:¬ (bo+(k*es+off)≤bo+(j*es+q)∧bo+(j*es+q)<bo+(k*es+off)+(a.eval y).cells.toList.length):=by
       simp only [Array.length_toList]
       rcases Nat.lt_or_gt_of_ne hjk with hlt' | hgt
       ·have:(j+1)*es≤k*es:=Nat.mul_le_mul_right _ om
        rw [Nat.succ_mul] at this
        omega
       ·have:(k+1)*es≤j*es:=Nat.mul_le_mul_right _ om
        rw [Nat.succ_mul] at this
        omega
      rw [if_neg hne]
      exact ⟨Cq _ _ ((hcs j q hj hq).1.mono (λ _ h=>.inl h) (λ _ _=>rfl)),(hcs j q hj hq).2⟩)
   intro next Q hnx
   refine Hl (w':=w.setCells b (bo+(k*es+off)) (a.eval y).cells.toList) ?_ (hnx Go.undef _ _ _ (by rw [vL]; exact Co.qV bW) (λ u z hu=>(keep u z (hu.kill hR ids)).qV Co bW) (.pure (.undef _)));simp only [execOp,ho,hxv,Sem.run_bind,hrun,Result.andThen,Sem.run_pure]
 ·exact (dK.aJ h1).elim
end
end Go.Ab
namespace Go.Ab
section
variable {P:Program} {cfg:qz} {cx:Ctx} {H:Nat→Option cu} {D:Nat→Prop} {w:World} {I:Nat→Prop} {O:OM} {Sp:kL}
variable {bW:Nat} {o:Oper} {a:Act} {ρ:Operand→AV} {v:AV} {ups:jh} {r:List Nat}
def Reads (P:Program) (w:World) (I:Nat→Prop) (size n:Nat) (g:Nat→AV) (x:Value):Prop:=
 ∃cells:Array Value,zZ w I size n g cells∧∀w':World,w'.heap=w.heap→(Builtin.firstCells size n x).run P w'=.ok cells w'
variable {size:Nat} {g:Nat→AV}
theorem iY {n:Nat} {aa:Option Addr} {n' cap:Nat} (b off:Nat) (vs:Nat→Nat→Value) (ha:n≠0→aa=some ⟨b,off,none⟩) (hes:∀i,i<n→(g i).cells.length=size)
  (hm:∀i j,i<n→j<size→w.cell? ⟨b,off+(i*size+j),none⟩=some (vs i j)) (h1:∀i j,i<n→j<size→(vs i j).oneCell'=true) (hr:∀i j,i<n→j<size→fC w I (nth (g i).cells j) (vs i j)) (hs:0<size):
  Reads P w I size n g (.slice aa n' cap):=by
 refine ⟨((List.range (n*size)).map (λ k=>vs (k / size) (k % size))).toArray,⟨by simp,λ i hi=>⟨hes i hi,λ j hj=>?_⟩⟩,λ w' hw=>?_⟩
 ·have hlt:i*size+j<n*size:=by
   have:(i+1)*size≤n*size:=Nat.mul_le_mul_right _ hi;rw [Nat.succ_mul] at this;omega
  have e1:(i*size+j) / size=i:=by
   rw [Nat.mul_comm,Nat.mul_add_div hs,Nat.div_eq_of_lt hj,Nat.add_zero]
  have e2:(i*size+j) % size=j:=by
   rw [Nat.mul_comm,Nat.mul_add_mod];exact Nat.mod_eq_of_lt hj
  exact ⟨by simpa [hlt,e1,e2] using hr i j hi hj,by simpa [hlt,e1,e2] using h1 i j hi hj⟩
 ·by_cases hn:n=0
  ·subst hn;cases aa with
   | none=>simp [Builtin.firstCells]
   | some aa=>simp [Builtin.firstCells,loadCells,loadCellsFrom]
  ·rw [ha hn];simp only [Builtin.firstCells];have:=run_loadCells_list (P:=P) w' ⟨b,off,none⟩ ((List.range (n*size)).map (λ k=>vs (k / size) (k % size))) (λ k u hk=>by
    have hlt:k<n*size:=by
     rcases Nat.lt_or_ge k (n*size) with h | h
     ·exact h
     ·simp [h] at hk
    simp [hlt] at hk;rw [← hk,Addr.add_mid,cell?_of_heap (w:=w) (w':=w') (by rw [hw])];have h1:k / size<n:=(Nat.div_lt_iff_lt_mul hs).2 hlt;have h2:k % size<size:=Nat.mod_lt _ hs;have:=hm _ _ h1 h2;rwa [Nat.div_add_mod'] at this)
   simpa using this
theorem Vm {es n:Nat} {full:Bool} {x:Value} (h:fC w I (.sl es n full g) x) (he:FQ es n size=true) (hs:0<size):Reads P w I size n g x:=by
 cases h with
 | sl b off vs hcap hfull ha hes hm h11 hr=>
  by_cases hn:n=0
  ·subst hn;exact iY b off vs (λ h=>absurd rfl h) (λ i hi=>absurd hi om) (λ i j hi=>absurd hi om) (λ i j hi=>absurd hi om) (λ i j hi=>absurd hi om) hs
  ·have:=rW he hn;subst this;exact iY b off vs (λ h=>(ha h).1) hes hm h11 hr hs
theorem Kn {m i n cap:Nat} {aa:Option Addr} {p:Own} {O':OM} {D':Nat→Prop} (hO:gJ w I O' D' p (.row size m g)) (hi:i+n≤p.n) (hcap:n≤cap) (hs:0<size)
  (hpl:cap≠0→∃b bo sz,p.pl=some (b,bo,sz)∧aa=some ⟨b,bo+i*p.es,none⟩∧bo+(i+cap)*p.es≤sz):Reads P w I size n (lT i g) (.slice aa n cap):=by
 obtain ⟨hn,hes,hlen,hpl'⟩:=hO;by_cases h0:n=0
 ·subst h0;exact iY 0 0 (λ _ _=>Go.undef) (λ h=>absurd rfl h) (λ i hi=>absurd hi om) (λ i j hi=>absurd hi om) (λ i j hi=>absurd hi om) (λ i j hi=>absurd hi om) hs
 ·obtain ⟨b,bo,sz,h1,h2,h3⟩:=hpl om;rcases hpl' with ⟨_,h4⟩ | ⟨b',kK,sz',h4,hal,hle,hcs⟩
  ·rw [h1] at h4; cases h4
  ·rw [h1] at h4;cases h4;subst hn;refine iY b (bo+i*size) (λ k j=>cellAt w b (bo+((i+k)*size+j))) (λ _=>by rw [h2,hes]) (λ k hk=>by rw [vK]; exact hlen _ om) (λ k j hk hj=>?_) (λ k j hk hj=>(hcs (i+k) j om hj).2) (λ k j hk hj=>?_) hs
   ·have e:bo+i*size+(k*size+j)=bo+((i+k)*size+j):=by rw [Nat.add_mul]; omega
    rw [e];refine pV hal.al ?_;have:(i+k+1)*size≤p.n*size:=Nat.mul_le_mul_right _ om;rw [Nat.succ_mul] at this;omega
   ·rw [vK];exact (hcs (i+k) j om hj).1
theorem run_append_grow {t t' e e' ty:TypeId} {i:TypeInfo} {z:Value} (hu:P.underlying t=some (.slice e)) (hu':P.underlying t'=some (.slice e')) (hi:P.info? e=some i) (hz:i.zero=some z)
  {base base':Option Addr} {cap n m c:Nat} {olds news:Array Value} (ho:∀w':World,w'.heap=w.heap→(Builtin.firstCells i.size n (.slice base n cap)).run P w'=.ok olds w')
  (hn:∀w':World,w'.heap=w.heap→(Builtin.firstCells i.size m (.slice base' m c)).run P w'=.ok news w') (hcap:cap<n+m) (hb:(n+m)*i.bytes≤140737488355328) (hb0:0<i.bytes):
  ∃c' rest,n+m≤c'∧rest=Builtin.zeroCells z.cells (c' - (n+m))∧(Builtin.append_ #[t,t'] ty #[.slice base n cap,.slice base' m c]).run P w=
   .ok (.slice (some ⟨w.heap.size,0,none⟩) (n+m) c') (w.drew.alloc (.cells (olds++news++rest) e)):=by
 refine ⟨grownCap w (n+m) cap e,Builtin.zeroCells z.cells (grownCap w (n+m) cap e - (n+m)),grownCap_ge _ _ _ _,rfl,?_⟩;have hnm:n+m≤140737488355328:=Nat.le_trans (Nat.le_mul_of_pos_right _ hb0) hb;have h1:¬ n+m≤cap:=by omega
 have h63':¬ (9223372036854775807<((n:Int)+(m:Int))):=by omega
 have h48':¬ (281474976710656<Builtin.nextslicecap (n+m) cap*i.bytes):=by have:=growslice_fits hcap hb; omega
 have ho':=ho w.drew rfl;have hn':=hn w.drew rfl;simp [Builtin.append_,run_underlying hu,run_underlying hu',sizeOf,typeInfo,zeroValue,hi,hz,Builtin.lenOf,h1,h63',h48',Question.forced,ho',hn',newRow,grownCap]
theorem oq {t t' e e' ty:TypeId} {i:TypeInfo} (hu:P.underlying t=some (.slice e)) (hu':P.underlying t'=some (.slice e')) (hi:P.info? e=some i)
  {base base':Option Addr} {cap n m c:Nat} {news:Array Value} (hn:(Builtin.firstCells i.size m (.slice base' m c)).run P w=.ok news w) (hcap:n+m≤cap) {w':World}
  (hst:∀ad,base=some ad→(storeCells (ad.add (n*i.size)) news.toList).run P w=.ok () w') (hno:base=none→w'=w):
  (Builtin.append_ #[t,t'] ty #[.slice base n cap,.slice base' m c]).run P w=.ok (.slice base (n+m) cap) w':=by
 cases base with
 | none=>
  have:=hno rfl;subst this;simp [Builtin.append_,run_underlying hu,run_underlying hu',sizeOf,typeInfo,hi,Builtin.lenOf,hcap,hn]
 | some ad=>
  have:=hst ad rfl;simp [Builtin.append_,run_underlying hu,run_underlying hu',sizeOf,typeInfo,hi,Builtin.lenOf,hcap,hn,this]
end
end Go.Ab
namespace Go.Ab
section
variable {P:Program} {cfg:qz} {cx:Ctx} {H:Nat→Option cu} {D:Nat→Prop} {w:World} {I:Nat→Prop} {O:OM} {Sp:kL}
variable {bW:Nat} {o:Oper} {a:Act} {ρ:Operand→AV} {v:AV} {ups:jh} {r:List Nat}
variable {k:Nat}
theorem Er {n:Nat} (h:¬ k<n):Nat.blt k n=false:=by
 cases hb:Nat.blt k n with
 | false=>rfl
 | true=>exact absurd (by simpa using hb) h
variable {size:Nat} {g:Nat→AV} {h:Nat→AV}
theorem Ko {n m:Nat} {olds news rest:Array Value} (ho:zZ w I size n g olds) (hn:zZ w I size m h news):∀k,k<n+m→((appG n g h) k).cells.length=size∧
  ∀j,j<size→fC w I (nth ((appG n g h) k).cells j) ((olds++news++rest).getD (k*size+j) Go.undef)∧((olds++news++rest).getD (k*size+j) Go.undef).oneCell'=true:=by
 intro k hk;obtain ⟨h1,h2⟩:=ho;obtain ⟨h3,h4⟩:=hn;by_cases hkn:k<n
 ·have e:appG n g h k=g k:=by
   have:Nat.blt k n=true:=by simpa using hkn
   simp [appG,this]
  rw [e];refine ⟨(h2 k hkn).1,λ j hj=>?_⟩;have hm:(k+1)*size≤n*size:=Nat.mul_le_mul_right _ hkn;rw [Nat.succ_mul] at hm;have e2:(olds++news++rest).getD (k*size+j) Go.undef=olds.getD (k*size+j) Go.undef:=by
   have hlt:k*size+j<olds.size:=by omega
   simp [Array.getElem?_append_left hlt]
  rw [e2];exact (h2 k hkn).2 j hj
 ·have e:appG n g h k=h (k - n):=by
   have:Nat.blt k n=false:=Er hkn;simp [appG,this]
  rw [e];have hkm:k - n<m:=by omega
  refine ⟨(h4 _ hkm).1,λ j hj=>?_⟩;have hm:(k - n+1)*size≤m*size:=Nat.mul_le_mul_right _ hkm;rw [Nat.succ_mul] at hm;have hkk:k*size=n*size+(k - n)*size:=by rw [← Nat.add_mul]; congr 1; omega
  have e2:(olds++news++rest).getD (k*size+j) Go.undef=news.getD ((k - n)*size+j) Go.undef:=by
   have hge:olds.size≤k*size+j:=by omega
   have hlt2:(k - n)*size+j<news.size:=by omega
   have e3:k*size+j - olds.size=(k - n)*size+j:=by omega
   simp [Array.getElem?_append_right hge,e3,Array.getElem?_append_left hlt2]
  rw [e2];exact (h4 _ hkm).2 j hj
variable {e:TypeId}
theorem dG.adg (hR:Rel cfg cx H D w I O) (hn:¬ D bW) {x:Value} {c:Array Value} {ob:cu} {p:Own} (ids:List Nat) {w1:World} (hw1:w1.heap=w.heap) (he1:fP w1 w) (hrun:(execOp a.eval o).run P w=.ok (.value x) (w1.alloc (.cells c e)))
  (hp:p.pl=some (w1.heap.size,0,c.size)) (lg:gJ (w1.alloc (.cells c e)) I (jy (kill O ids) bW p) (vV D bW) p ob)
  (hv:∀I' O' D',O' bW=some p→cO (w1.alloc (.cells c e)) I' O' D' v x):dG P cfg cx H D w I O bW o a v ((bW,some ob)::dead ids):=by
 intro next Q hnx
 have hR0:=hR.z8 hw1 he1;have Hg:=hR0.drop ids;refine nU hrun (hnx x _ _ _ ?_ ?_ (hv I (jy (kill O ids) bW p) _ (by simp [jy])))
 ·rw [vL];exact Hg.push hn c e ob p hp lg
 ·intro u y hu;exact ((hu.z8 hw1 hR).drop hR0 ids).push Hg _ p hn
theorem dG.grown (hR:Rel cfg cx H D w I O) (hn:¬ D bW) (ids:List Nat) {n m c':Nat} {olds news rest:Array Value} {e:TypeId} (ho:zZ w I size n g olds) (hnw:zZ w I size m h news)
  (hc':n+m≤c') (hrest:rest.size=(c' - (n+m))*size) (hr1:∀j,j<rest.size→(rest.getD j Go.undef).oneCell'=true) (hrun:(execOp a.eval o).run P w=.ok (.value (.slice (some ⟨w.heap.size,0,none⟩) (n+m) c')) (w.drew.alloc (.cells (olds++news++rest) e))):
  dG P cfg cx H D w I O bW o a (.dA bW 0 (n+m) false) ((bW,some (.row size (n+m) (appG n g h)))::dead ids):=by
 have hcells:=Ko (rest:=rest) ho hnw;have hsz:(olds++news++rest).size=c'*size:=by
  rw [Array.size_append,Array.size_append,ho.1,hnw.1,hrest,← Nat.add_mul,← Nat.add_mul];congr 1;omega
 have hle:(n+m)*size≤c'*size:=Nat.mul_le_mul_right _ hc';refine dG.adg (p:=⟨size,n+m,some (w.drew.heap.size,0,(olds++news++rest).size)⟩) hR hn ids (w1:=w.drew) rfl (fP.heap rfl rfl rfl rfl) hrun rfl ?_ ?_
 ·have hone:∀j,j<(olds++news++rest).size→((olds++news++rest).getD j Go.undef).oneCell'=true:=λ j hj=>by
   have hsz2:(olds++news).size=(n+m)*size:=by rw [Array.size_append,ho.1,hnw.1,← Nat.add_mul]
   rcases Nat.lt_or_ge j ((n+m)*size) with hlt | hge
   ·rcases Nat.eq_zero_or_pos size with h0 | h0
    ·rw [h0,Nat.mul_zero] at hlt; exact absurd hlt (Nat.not_lt_zero _)
    ·have q1:j / size<n+m:=Nat.div_lt_of_lt_mul (by rw [Nat.mul_comm]; exact hlt);have:=((hcells _ q1).2 (j % size) (Nat.mod_lt _ h0)).2;rwa [Nat.div_add_mod'] at this
   ·have e:(olds++news++rest).getD j Go.undef=rest.getD (j - (n+m)*size) Go.undef:=by
     rw [Array.getD_eq_getD_getElem?, Array.getD_eq_getD_getElem?, Array.getElem?_append_right om,hsz2]
    rw [e];exact hr1 _ (by rw [Array.size_append,hsz2] at hj; omega)
  refine ⟨rfl,rfl,λ k hk=>(hcells k hk).1,.inr ⟨_,_,_,rfl,nA _ _ hone,by omega,λ k j hk hj=>?_⟩⟩;rw [Nat.zero_add,ku];exact ⟨fC.mono (w:=w) (λ _ h=>h) (λ b hb=>iC (w:=w.drew) _ (hR.uw b hb)) ((hcells k hk).2 j hj).1,((hcells k hk).2 j hj).2⟩
 ·intro I' O' D' hO;refine .dA hO (by simp) hc' (λ h=>by cases h) (λ _=>⟨_,_,_,rfl,?_,?_⟩) (by simp; omega)
  ·simp
  ·simp only [Nat.zero_add];omega
theorem TQ {u:AV} {k:Nat→Nat→(Nat→AV)→Pg} {x:Value} (hR:Rel cfg cx H D w I O) (hx:cO w I O D u x) (h:dK Sp H (LY u k) v ups r):
  ∃es m g base c r',x=.slice base m c∧dK Sp H (k es m g) v ups r'∧∀size,FQ es m size=true→0<size→Reads P w I size m g x:=by
 unfold LY at h;split at h
 ·rename_i es n f g;have hp:=hx.rV;cases hp with
  | sl b off vs hcap hfull ha hes hm h1 hr=>exact ⟨es,n,g,_,_,r,rfl,h,λ size he hs=>Vm (fC.sl b off vs hcap hfull ha hes hm h1 hr) he hs⟩
 ·rename_i ob i n f;obtain ⟨obj,r',lg,h1⟩:=h.jN;obtain ⟨p,hp,hO⟩:=hR.live lg;cases obj with
  | map=>exact (dK.aJ h1).elim
  | box cs=>exact (dK.aJ h1).elim
  | row es m g=>
   obtain ⟨aa,cap,rfl,h2,h3,h4,h5⟩:=hx.jH hp;refine ⟨es,n,lT i g,aa,cap,r',rfl,h1,λ size he hs=>?_⟩;by_cases hn:n=0
   ·subst hn;exact iY 0 0 (λ _ _=>Go.undef) (λ h=>absurd rfl h) (λ i hi=>absurd hi om) (λ i j hi=>absurd hi om) (λ i j hi=>absurd hi om) (λ i j hi=>absurd hi om) hs
   ·have:=rW he hn;subst this;exact Kn hO h2 h3 hs h5
 ·exact (dK.aJ h).elim
theorem aa6 {es:Nat} :FQ es 0 size=true:=by unfold FQ; cases Nat.beq es size<;>rfl
theorem Kq {ob:Nat} {x:cu} (h:H ob=some x):jK H [(ob,some x)]=H:=by
 funext k;simp only [jK,look];cases hb:Nat.beq ob k with
 | true=>have:=Nat.eq_of_beq_eq_true hb; subst this; simp [h]
 | false=>rfl
theorem Pe (i:Nat) (g h:Nat→AV):Ze i 0 g h=g:=by
 funext j;unfold Ze;cases h1:Nat.ble i j with
 | false=>rfl
 | true=>
  have h1:=Nat.le_of_ble_eq_true h1;rw [Er om];rfl
theorem Pf {i j:Nat} (h1:i≤j) (h2:j<i+k):Ze i k g h j=h (j - i):=by
 unfold Ze;have a1:Nat.ble i j=true:=Nat.ble_eq_true_of_le h1;have a2:Nat.blt j (i+k)=true:=by simpa using h2
 rw [a1,a2];rfl
theorem Ho {i j:Nat} (hn:¬ (i≤j∧j<i+k)):Ze i k g h j=g j:=by
 unfold Ze;by_cases h1:i≤j
 ·rw [Er om];cases Nat.ble i j<;>rfl
 ·have a1:Nat.ble i j=false:=by
   cases hb:Nat.ble i j with
   | false=>rfl
   | true=>exact absurd (Nat.le_of_ble_eq_true hb) h1
  rw [a1];rfl
theorem Rel.aa7 (hR:Rel cfg cx H D w I O) {ob es N i0 b bo sz:Nat} {g':Nat→AV} {p:Own} (hp:O ob=some p) (hO:gJ w I O D p (.row es N g)) (hpl:p.pl=some (b,bo,sz)) (hpos:0<es) {cells:Array Value} (hcells:zZ w I es k g' cells) (hle0:i0+k≤N):
  (storeCells ⟨b,bo+i0*es,none⟩ cells.toList).run P w=.ok () (w.setCells b (bo+i0*es) cells.toList)∧Rel cfg cx (jK H [(ob,some (.row es N (Ze i0 k g g')))]) D (w.setCells b (bo+i0*es) cells.toList) I O∧
   ∀u z,cO w I O D u z→cO (w.setCells b (bo+i0*es) cells.toList) I O D u z:=by
 obtain ⟨hn,adh,hlen,hpl' | ⟨b',kK,sz',hpl',hal,hle,hcs⟩⟩:=hO
 ·rw [hpl] at hpl'; cases hpl'.2
 rw [hpl] at hpl';cases hpl';have hmul:(i0+k)*es≤N*es:=Nat.mul_le_mul_right _ hle0;rw [Nat.add_mul] at hmul;have hcsz:=hcells.1;have hone:∀j,j<cells.size→(cells.getD j Go.undef).oneCell'=true:=λ j hj=>by
  rw [hcsz] at hj;have h1:j / es<k:=(Nat.div_lt_iff_lt_mul hpos).2 hj;have h2:=((hcells.2 _ h1).2 (j % es) (Nat.mod_lt _ hpos)).2;rwa [Nat.div_add_mod'] at h2
 have hst:=run_storeCells_cells (P:=P) b (bo+i0*es) cells.toList 0 w (λ j hj=>(hal (bo+i0*es+0+j) (by simp at hj; omega)).1) (λ j hj=>(hal (bo+i0*es+0+j) (by simp at hj; omega)).2)
  (λ u hu=>by
    obtain ⟨j,hj,rfl⟩:=List.mem_iff_getElem.1 hu
    have hj':j<cells.size:=by simpa using hj
    simpa [hj'] using hone j hj')
 rw [Nat.add_zero] at hst;have Pd:=lC hal (bo+i0*es) cells.toList (by simp; omega) (λ j hj=>by have hj':j<cells.size:=(by simpa using hj); simpa [hj'] using hone j hj');obtain ⟨_,hcell⟩:=iX hal.al (bo+i0*es) cells.toList (by simp; omega);obtain ⟨Zp,Rn⟩:=jW b cells.toList (bo+i0*es) w;have Km:∀b',I b'→(w.setCells b (bo+i0*es) cells.toList).heap[b']? = w.heap[b']? := λ b' hb=>Rn b' (λ e=>hR.lu ob p b bo sz hp hpl (e ▸ hb));have keep:∀u z,cO w I O D u z→cO (w.setCells b (bo+i0*es) cells.toList) I O D u z:=λ u z hu=>hu.mono (λ _ h=>h) Km (λ _ _=>.inl rfl) (λ _ h=>h) hR.used;have Cq:∀u z,fC w I u z→fC (w.setCells b (bo+i0*es) cells.toList) I u z:=λ u z hu=>hu.mono (λ _ h=>h) Km;refine ⟨hst,hR.write (kR _ _ _ _) (.row es N (Ze i0 k g g')) hp hpl Rn Zp ?_,keep⟩;refine ⟨hn,adh,λ j hj=>?_,.inr ⟨b,bo,sz,hpl,Pd,hle,λ j q hj hq=>?_⟩⟩
 ·by_cases hin:i0≤j∧j<i0+k
  ·rw [Pf hin.1 hin.2];exact (hcells.2 (j - i0) om).1
  ·rw [Ho hin];exact hlen j hj
 ·have hmj:(j+1)*es≤N*es:=Nat.mul_le_mul_right _ hj;rw [Nat.succ_mul] at hmj;rw [hcell _ om];by_cases hin:i0≤j∧j<i0+k
  ·rw [Pf hin.1 hin.2];have q1:i0*es≤j*es:=Nat.mul_le_mul_right _ hin.1;have q2:(j+1)*es≤(i0+k)*es:=Nat.mul_le_mul_right _ hin.2;rw [Nat.succ_mul,Nat.add_mul] at q2;have q3:(j - i0)*es=j*es - i0*es:=Nat.sub_mul _ _ _;rw [if_pos (by simp; omega)];have e3:bo+(j*es+q) - (bo+i0*es)=(j - i0)*es+q:=by omega
   rw [e3];have hh:=(hcells.2 (j - i0) om).2 q hq;have e4:cells.toList.getD ((j - i0)*es+q) Go.undef=cells.getD ((j - i0)*es+q) Go.undef:=by
    have hlt:(j - i0)*es+q<cells.size:=by omega
    simp [hlt]
   rw [e4];exact ⟨Cq _ _ hh.1,hh.2⟩
  ·rw [Ho hin];rw [if_neg ?_]
   ·exact ⟨Cq _ _ (hcs j q hj hq).1,(hcs j q hj hq).2⟩
   ·intro ⟨r1,r2⟩;have r2:bo+(j*es+q)<bo+i0*es+cells.size:=by simpa using r2
    apply hin;constructor
    ·rcases Nat.lt_or_ge j i0 with h | h
     ·have:(j+1)*es≤i0*es:=Nat.mul_le_mul_right _ h;rw [Nat.succ_mul] at this;omega
     ·exact h
    ·rcases Nat.lt_or_ge j (i0+k) with h | h
     ·exact h
     ·have:(i0+k)*es≤j*es:=Nat.mul_le_mul_right _ h;rw [Nat.add_mul] at this;omega
theorem Ph (hR:Rel cfg cx H D w I O) {xd xs:Operand} {d s:AV} {t t' e e':TypeId} {ti:Ei} {i:TypeInfo} (hdr:cO w I O D d (a.eval xd)) (hsr:cO w I O D s (a.eval xs))
  (hu:P.underlying t=some (.slice e)) (hu':P.underlying t'=some (.slice e')) (hi:P.info? e=some i) (hsz:i.size=ti.size) (hpos:0<ti.size)
  (run:∀ {x' w'},(Builtin.append_ #[t,t'] o.type #[a.eval xd,a.eval xs]).run P w=.ok x' w'→(execOp a.eval o).run P w=.ok (.value x') w')
  (h:dK Sp H (Tw ti d s) v ups r):dG P cfg cx H D w I O bW o a v ups:=by
 unfold Tw at h;obtain ⟨es',m,g',base',c',r1,hsv,h5,hreads⟩:=TQ (P:=P) hR hsr h;obtain ⟨hes',h6⟩:=h5.bq;obtain ⟨news,hnews,xC⟩:=hreads ti.size hes' hpos;have xC:=xC w rfl;rw [hsv] at xC;rw [← hsz] at xC;split at h6
 ·rename_i ob i0 n full;obtain ⟨obj,_,lg,h7⟩:=h6.jN;obtain ⟨p,hp,hO⟩:=hR.live lg;cases obj with
  | map=>exact (dK.aJ h7).elim
  | box cs=>exact (dK.aJ h7).elim
  | row es N g=>
   obtain ⟨hes,h8⟩:=h7.bq;have hes:es=ti.size:=Nat.eq_of_beq_eq_true hes;obtain ⟨hle,h9⟩:=h8.qB;obtain ⟨rfl,rfl⟩:=h9.iP;subst hes;have Ki:p.es=ti.size:=hO.2.1;have hpn:p.n=N:=hO.1;obtain ⟨aa,cap,hdv,a1,a2,a3,a4⟩:=hdr.jH hp;have hext:p.n≤i0+cap:=(hdv ▸ hdr).xA hp;have hcap:n+m≤cap:=by omega
   by_cases hz:cap=0
   ·have hm0:m=0:=by omega
    have hn0:n=0:=by omega
    subst hm0;have hce:news=#[]:=Array.eq_empty_of_size_eq_zero (by have:=hnews.1; omega);rw [Pe];have hr:=oq (P:=P) (ty:=o.type) (base:=aa) hu hu' hi xC hcap (w':=w) (λ ad _=>by rw [hce]; rfl) (λ _=>rfl);rw [← hdv,← hsv] at hr;intro next Q hnx
    refine nU (run hr) (hnx _ w I O (by rw [Kq lg]; exact hR.qV bW) (λ u y hu=>hu.qV hR bW) ?_);have h2:=hdr.qV hR bW;rw [hdv] at h2;exact .dA hp om hcap (λ h=>by cases h) a4 hext
   ·obtain ⟨b,bo,sz,hpl,Zr,hcapz⟩:=a4 hz;have hR2:=hR;obtain ⟨hst,Co,keep⟩:=hR.aa7 (P:=P) (i0:=i0+n) (k:=m) hp hO hpl hpos hnews om;have hr:=oq (P:=P) (ty:=o.type) (base:=aa) hu hu' hi xC hcap (w':=w.setCells b (bo+(i0+n)*ti.size) news.toList) (λ ad had=>by
     rw [Zr] at had;cases had;rw [Ki,hsz,Addr.add_mid];have e1:bo+i0*ti.size+n*ti.size=bo+(i0+n)*ti.size:=by rw [Nat.add_mul]; omega
     rw [e1];exact hst) (λ had=>by rw [Zr] at had; cases had)
    rw [← hdv,← hsv] at hr;intro next Q hnx
    refine nU (run hr) (hnx _ _ I O (Co.qV bW) (λ u y hu=>(keep u y hu).qV Co bW) ?_);exact .dA hp om hcap (λ h=>by cases h) a4 hext
 ·exact (dK.aJ h6).elim
end
end Go.Ab
namespace Go.Ab
section
variable {P:Program} {cfg:qz} {cx:Ctx} {H:Nat→Option cu} {D:Nat→Prop} {w:World} {I:Nat→Prop} {O:OM} {Sp:kL}
variable {bW:Nat} {o:Oper} {a:Act} {ρ:Operand→AV} {v:AV} {ups:jh} {r:List Nat}
theorem Xj {s:AV} {f:Int→Pg} {k:Pg} (h:¬ ∃kk n,s=.int kk n):ags s f k=k:=by
 cases s<;>first | rfl | exact absurd ⟨_,_,rfl⟩ h
theorem Kr {t t' e ty:TypeId} {i:TypeInfo} {z:Value} {kn kq:IntKind} (hu:P.underlying t=some (.slice e)) (hu':P.underlying t'=some (.int kn)) (hi:P.info? e=some i) (hz:i.zero=some z)
  {base:Option Addr} {k:Nat} (h0:0<k) (hs:0<i.size) (hb:k*i.bytes≤140737488355328) (hb0:0<i.bytes):
  ∃c' rest,0+k≤c'∧rest=Builtin.zeroCells z.cells (c' - (0+k))∧(Builtin.append_ #[t,t'] ty #[.slice base 0 0,.int kq k]).run P w=
   .ok (.slice (some ⟨w.heap.size,0,none⟩) (0+k) c') (w.drew.alloc (.cells (#[]++Builtin.zeroCells z.cells k++rest) e)):=by
 refine ⟨grownCap w (0+k) 0 e,Builtin.zeroCells z.cells (grownCap w (0+k) 0 e - (0+k)),grownCap_ge _ _ _ _,rfl,?_⟩;have hnm:k≤140737488355328:=Nat.le_trans (Nat.le_mul_of_pos_right _ hb0) hb;have hk:k≠0:=by omega
 have hw:IntKind.i64.wrap (k:Int)=k:=by rw [IntKind.wrap_i64]; omega
 have h63':¬ (9223372036854775807<(k:Int)):=by omega
 have h48':¬ (281474976710656<Builtin.nextslicecap k 0*i.bytes):=by have:=growslice_fits (need:=k) (old:=0) h0 hb; omega
 have h48i:¬ (281474976710656<(k:Int)*(i.bytes:Int)):=by
  rw [← Int.natCast_mul];omega
 have hneg:¬ ((k:Int)<0):=by omega
 have hns:¬ (k*i.size=0):=Nat.mul_ne_zero hk om;have hold:(Builtin.firstCells i.size 0 (.slice base 0 0)).run P w.drew=.ok #[] w.drew:=by
  cases base with
  | none=>rfl
  | some a=>simp [Builtin.firstCells,loadCells,loadCellsFrom]
 simp [Builtin.append_,run_underlying hu,run_underlying hu',sizeOf,typeInfo,zeroValue,hi,hz,asInt,asIntOf,hw,hk,hneg,hns,h63',h48',h48i,Question.forced,hold,newRow,grownCap]
theorem M7 (hc:fq P cfg) (hR:Rel cfg cx H D w I O) (hn:¬ D bW) {d:AV} {kk:IntKind} {k:Int} {t t':TypeId} {xd xs:Operand} (hdr:cO w I O D d (a.eval xd)) (hsr:cO w I O D (.int kk k) (a.eval xs))
  (run:∀ {x' w'},(Builtin.append_ #[t,t'] o.type #[a.eval xd,a.eval xs]).run P w=.ok x' w'→(execOp a.eval o).run P w=.ok (.value x') w')
  (h:dK Sp H (aeN cfg bW t t' d k) v ups r):dG P cfg cx H D w I O bW o a v ups:=by
 unfold aeN at h;obtain ⟨ti',ht',h1⟩:=h.iG;obtain ⟨tt,e,ti,p1,p2,p3,h2⟩:=h1.kr;obtain ⟨hu,i,z,hi,hz,hsz,hby,hzs⟩:=hc.slice p1 p2 p3;obtain ⟨i',_,z',hi',_,Cn,_,_,_,_,hzl,GX,_⟩:=(hc.ty e ti p3).ex;rw [hi] at hi'; cases hi';rw [hz] at Cn; cases Cn;obtain ⟨_,dd,_,_,hud,_,_,_,_,_,_,_,hm⟩:=(hc.ty t' ti' ht').ex;split at h2
 ·rename_i kn es n full g hdd;rw [hdd] at hm;have hm:dd=.int kn:=hm;subst hm;obtain ⟨c0,h3⟩:=h2.bq;obtain ⟨c1,h4⟩:=h3.bq;obtain ⟨c2,h5⟩:=h4.bq;obtain ⟨c3,h6⟩:=h5.bq;obtain ⟨⟨q0,q1⟩,h7⟩:=h6.qB;obtain ⟨rfl,rfl⟩:=h7.iP;have c1:0<ti.size:=by simpa using c1
  have c2:0<ti.bytes:=by simpa using c2
  obtain ⟨m,rfl⟩:=Int.eq_ofNat_of_zero_le (show 0≤k by omega);have hbig':m*ti.bytes≤140737488355328:=by
   have:((m*ti.bytes:Nat):Int)≤((140737488355328:Nat):Int):=by simpa [big] using q1
   exact_mod_cast this
  have hsv:=hsr.fQ;have hp:=hdr.rV;generalize hdv:a.eval xd=dv at hp;unfold zf at c0;split at c0
  ·split at c0
   ·cases hp with
    | @sl _ _ _ _ aa cap b off vs hcap hfl ha ae1 hm h11 hr=>
     have hcn:cap=0:=hfl rfl;subst hcn;obtain ⟨c',rest,g1,g2,g3⟩:=Kr (P:=P) (w:=w) (ty:=o.type) (kq:=kk) (base:=aa) (k:=m) hu hud hi hz om om (by rw [hby]; exact hbig') om;have hnew:zZ w I ti.size m (λ _=>zeroOf ti) (Builtin.zeroCells z.cells m):=by
      have hzz:Builtin.zeroCells z.cells m=(Array.range (m*ti.size)).map (λ k=>z.cells[k % z.cells.size]!):=by unfold Builtin.zeroCells; rw [hzs]
      rw [hzz];refine ⟨by simp,λ j hj=>?_⟩;rw [vC c3 hzl];refine ⟨by rw [gL]; exact hzl,λ q hq=>?_⟩;rw [oh z.cells m j q ti.size hzs hj hq];exact ⟨tJ _ _ ti.size hzl GX q hq,og _ _ ti.size GX q hq⟩
     have hold:zZ w I ti.size 0 (λ _=>zeroOf ti) #[]:=⟨by simp,λ k hk=>absurd hk (Nat.not_lt_zero _)⟩;have key:=dG.grown (P:=P) (o:=o) (a:=a) (bW:=bW) (rest:=rest) hR hn [] hold hnew g1 (by rw [g2,size_zeroCells,hzs]) (by rw [g2]; exact sW hzs (og _ _ ti.size GX)) (run (by rw [hdv,hsv]; exact g3));have e3:appG 0 (λ _=>zeroOf ti) (λ _=>zeroOf ti)=(λ _=>zeroOf ti):=by
      funext k;simp [appG]
     rw [e3] at key;simpa [dead] using key
   ·cases c0
  ·cases c0
 ·exact (dK.aJ h2).elim
theorem Zt (hc:fq P cfg) (hR:Rel cfg cx H D w I O) (hn:¬ D bW) {c:Call} (ho:o.op=.call c) (hcl:c.callee=.builtin .append) (hx:∀x∈c.args.toList,cO w I O D (ρ x) (a.eval x))
  (h:dK Sp H (eZ cfg bW (.call c) ρ) v ups r):dG P cfg cx H D w I O bW o a v ups:=by
 simp only [eZ,hcl] at h;split at h
 ·rename_i d s t t' e1 e2;obtain ⟨xd,xs,hargs,hd,hs⟩:=args2 e1;have hty:c.argTypes=#[t,t']:=by rw [← Array.toList_inj]; simpa using e2
  have hdr:cO w I O D d (a.eval xd):=hd ▸ hx xd (by simp [hargs]);have hsr:cO w I O D s (a.eval xs):=hs ▸ hx xs (by simp [hargs]);have run:∀ {x' w'},(Builtin.append_ #[t,t'] o.type #[a.eval xd,a.eval xs]).run P w=.ok x' w'→(execOp a.eval o).run P w=.ok (.value x') w':=by
   intro x' w' hr;simp only [execOp,ho,hcl,resolve,invoke,builtin,Sem.run_bind,Sem.run_pure,Result.andThen_ok,hargs,hty,List.map_toArray,List.map_cons,List.map_nil,hr]
  by_cases hsi:∃kk n,s=.int kk n
  ·obtain ⟨kk,n,rfl⟩:=hsi;exact M7 hc hR hn hdr hsr run h
  rw [Xj hsi] at h;obtain ⟨tt',e',ti',q1,q2,q3,h1⟩:=h.kr;obtain ⟨tt,e,ti,p1,p2,p3,h2⟩:=h1.kr;obtain ⟨hpos,h3⟩:=h2.bq;obtain ⟨hbp,h4⟩:=h3.bq;have hpos:0<ti.size:=by simpa using hpos
  have hbp:0<ti.bytes:=by simpa using hbp
  obtain ⟨hu',_⟩:=hc.slice q1 q2 q3;obtain ⟨hu,i,z,hi,hz,hsz,hby,hzs⟩:=hc.slice p1 p2 p3;obtain ⟨i',_,z',hi',_,Cn,_,_,_,_,hzl,GX,_⟩:=(hc.ty e ti p3).ex;rw [hi] at hi'; cases hi';rw [hz] at Cn; cases Cn;clear h h1 h2 h3;split at h4
  ·exact Ph hR hdr hsr hu hu' hi hsz hpos run h4
  rename_i hself;clear hself;unfold U4 at h4;obtain ⟨es',m,g',base',c',r1,hsv,h5,hreads⟩:=TQ (P:=P) hR hsr h4;obtain ⟨hes',h6⟩:=h5.bq;obtain ⟨news,hnews,xC⟩:=hreads ti.size hes' hpos;rw [hsv] at xC;rw [← hsz] at xC;clear h4 h5 hreads;split at h6
  ·rename_i es n full g;obtain ⟨hfull,h7⟩:=h6.bq;have hes:FQ es n ti.size=true:=by
    cases es with
    | zero=>
     simp only at h7;obtain ⟨hz0,_⟩:=h7.bq;cases n with
     | zero=>exact aa6
     | succ=>cases hz0
    | succ es1=>
     simp only at h7;exact h7.bq.1
   have hp:=hdr.rV;obtain ⟨olds,holds,SA⟩:=Vm (P:=P) hp hes hpos;generalize hdv:a.eval xd=dv at hp SA;cases hp with
   | @sl _ _ _ _ aa cap b off vs hcap hfl ha ae1 hm h11 hr=>
    have hcn:cap=n:=hfl hfull;subst hcn;rw [← hsz] at SA;clear h6 hdr;have grow:∀(hm0:0<m) (hb:(cap+m)*ti.bytes≤140737488355328),∃c'' rest,cap+m≤c''∧(rest.size=(c'' - (cap+m))*ti.size∧∀j,j<rest.size→(rest.getD j Go.undef).oneCell'=true)∧
      (execOp a.eval o).run P w=.ok (.value (.slice (some ⟨w.heap.size,0,none⟩) (cap+m) c'')) (w.drew.alloc (.cells (olds++news++rest) e)):=by
     intro hm0 hb
     obtain ⟨c'',rest,g1,g2,g3⟩:=run_append_grow (P:=P) (ty:=o.type) hu hu' hi hz SA xC om (by rw [hby]; exact hb) om
     exact ⟨c'',rest,g1,⟨by rw [g2,size_zeroCells,hzs],by rw [g2]; exact sW hzs (og _ _ ti.size GX)⟩,run (by rw [hdv,hsv]; exact g3)⟩
    have same:m=0→(execOp a.eval o).run P w=.ok (.value (.slice aa (cap+m) cap)) w:=by
     intro hm0;subst hm0;have hnz:news=#[]:=Array.eq_empty_of_size_eq_zero (by have:=hnews.1; omega);refine run ?_;rw [hdv,hsv];exact oq hu hu' hi (xC w rfl) om (λ ad _=>by rw [hnz]; rfl) (λ _=>rfl)
    cases hee:es with
    | zero=>
     rw [hee] at h7;simp only at h7;obtain ⟨hz0,h8⟩:=h7.bq;have hcc:cap=0:=by cases hc0:cap with
      | zero=>rfl
      | succ=>rw [hc0] at hz0; cases hz0
     obtain ⟨hbg,h9⟩:=h8.qB;obtain ⟨rfl,rfl⟩:=h9.iP;by_cases hm0:m=0
     ·have hrun:=same hm0;subst hm0;intro next Q hnx
      have hR2:=hR.empty hn ti.size g';refine nU hrun (hnx _ w I _ hR2 (λ u y hu=>hu.place hR hn (λ _ _=>rfl)) ?_);rw [hcc];exact .dA (p:=⟨ti.size,0,none⟩) (by simp [jy]) (by simp) om (λ h=>by cases h) (λ h=>absurd rfl h) (Nat.zero_le _)
     ·obtain ⟨c'',rest,g1,g2,g3⟩:=grow om (by rw [hcc,Nat.zero_add]; simpa [big] using hbg);have ho0:zZ w I ti.size 0 g' olds:=⟨by have:=holds.1; rw [hcc] at this; exact this,λ k hk=>absurd hk om⟩;rw [hcc] at g1 g2 g3;have key:=dG.grown (P:=P) (o:=o) (a:=a) hR hn [] (g:=g') ho0 hnews g1 g2.1 g2.2 g3;have e3:appG 0 g' g'=g':=by
       funext k;simp [appG]
      rw [e3] at key;simpa [dead] using key
    | succ es1=>
     rw [hee] at h7;simp only at h7;obtain ⟨_,h8⟩:=h7.bq;obtain ⟨hbg,rfl,rfl⟩:=h8.eY;by_cases hm0:m=0
     ·refine dG.bZ hR (same hm0) (.pure ?_);subst hm0;by_cases hc0:cap=0
      ·subst hc0;exact .sl 0 0 (λ _ _=>Go.undef) (Nat.le_refl _) (λ h=>by cases h) (λ h=>absurd rfl h) (λ i h=>absurd h om) (λ i j h=>absurd h om) (λ i j h=>absurd h om) (λ i j h=>absurd h om)
      have ail:=rW hes hc0;rw [ail] at ae1 hm h11 hr;have e3:∀k,k<cap→appG cap g g' k=g k:=λ k hk=>by
       have:Nat.blt k cap=true:=by simpa using hk
       simp [appG,this]
      exact .sl b off vs om (λ h=>by cases h) (λ h=>ha om) (λ k hk=>by rw [e3 k om]; exact ae1 k om) (λ k j hk hj=>hm k j om hj) (λ k j hk hj=>h11 k j om hj) (λ k j hk hj=>by rw [e3 k om]; exact hr k j om hj)
     ·obtain ⟨c'',rest,g1,g2,g3⟩:=grow om (by simpa [big] using hbg);have hcells:=Ko (rest:=rest) holds hnews;have hsize:(olds++news++rest).size=c''*ti.size:=by
       rw [Array.size_append,Array.size_append,holds.1,hnews.1,g2.1,← Nat.add_mul,← Nat.add_mul];congr 1;omega
      have key:=dG.grown (P:=P) (o:=o) (a:=a) (bW:=bW) hR hn [] holds hnews g1 g2.1 g2.2 g3;intro next Q hnx
      have hR0:=Rel.z8 (w:=w) (w':=w.drew) rfl (fP.heap rfl rfl rfl rfl) hR;have adi:∀b,I b→(w.drew.alloc (.cells (olds++news++rest) e)).heap[b]? = w.heap[b]? := λ b hb=>iC (w:=w.drew) _ (hR.uw b hb);refine nU g3 (hnx _ _ (λ b=>I b∨b=w.heap.size) O ?_ ?_ (.pure ?_))
      ·rw [tH];have Hg:=(hR0.qV bW);exact { Hg with
        objs:=λ o ob p h1 h2=>((hR.qV bW).objs o ob p h1 h2).mono (λ _ h=>.inl h) adi (λ _ _=>.inl rfl) (λ _ h=>h) Hg.used (λ b bo sz hpl=>iC (w:=w.drew) _ (hR.lt o p b bo sz h2 hpl))
        lu:=λ o p b bo sz h1 h2 h3=>by
         rcases h3 with h3 | h3
         ·exact hR.lu o p b bo sz h1 h2 h3
         ·have:=hR.lt o p b bo sz h1 h2; omega
        lt:=λ o p b bo sz h1 h2=>by rw [jO]; have:=hR.lt o p b bo sz h1 h2; exact Nat.lt_succ_of_lt this
        uw:=λ b h=>by
         rw [jO]
         rcases h with h | h
         ·exact Nat.lt_succ_of_lt (hR.uw b h)
         ·subst h; exact Nat.lt_succ_self _
        size:=by rw [jO]; exact Nat.le_succ_of_le hR.size
        env:=Hg.env.step (fP.alloc _ _)
        frame:=λ b h1 h2=>by rw [iC (w:=w.drew) _ (Nat.lt_of_lt_of_le h1 hR.size)]; exact hR.frame b h1 h2
        glob:=λ g cs h=>(hR.glob g cs h).mono (λ _ h=>.inl h) adi
        G8:=λ b h=>.inl (hR.G8 b h)
        L9:=λ b h=>by
         rcases h with h | h
         ·exact hR.L9 b h
         ·subst h; exact .inr (.inl hR.size) }
      ·intro u y hu;exact hu.mono (λ _ h=>.inl h) adi (λ _ _=>.inl rfl) (λ _ h=>.inl h) hR.used
      ·refine .sl w.heap.size 0 (λ k j=>(olds++news++rest).getD (k*ti.size+j) Go.undef) g1 (λ h=>by cases h) (λ _=>⟨rfl,.inr rfl⟩) (λ k hk=>(hcells k hk).1) (λ k j hk hj=>?_) (λ k j hk hj=>((hcells k hk).2 j hj).2) (λ k j hk hj=>((hcells k hk).2 j hj).1.mono (λ _ h=>.inl h) adi);have hlt:k*ti.size+j<(olds++news++rest).size:=by
        rw [hsize];have:(k+1)*ti.size≤c''*ti.size:=Nat.mul_le_mul_right _ om;rw [Nat.succ_mul] at this;omega
       have:=qD (w:=w.drew) (olds++news++rest) e (k*ti.size+j);rw [Nat.zero_add];refine Eq.trans this ?_;rw [Array.getD_eq_getD_getElem?, Array.getElem?_eq_getElem hlt];rfl
  ·rename_i ob k n full;obtain ⟨obj,_,lg,h7⟩:=h6.jN;obtain ⟨p,hp,hO⟩:=hR.live lg;cases obj with
   | map=>exact (dK.aJ h7).elim
   | box cs=>exact (dK.aJ h7).elim
   | row es n' g=>
    obtain ⟨hes,h8⟩:=h7.bq;have hes:es=ti.size:=Nat.eq_of_beq_eq_true hes;subst hes;obtain ⟨hbg,h9⟩:=h8.qB;have hbg:(n+m)*ti.bytes≤140737488355328:=by simpa [big] using hbg
    obtain ⟨aa,cap,hdv,hkn,hcap,hfl,hpl⟩:=hdr.jH hp;obtain ⟨olds,holds,SA⟩:=Kn (P:=P) hO hkn hcap hpos hpl;rw [← hsz] at SA;have grow:∀(ids:List Nat) (hm0:cap<n+m),dG P cfg cx H D w I O bW o a (.dA bW 0 (n+m) false) ((bW,some (.row ti.size (n+m) (appG n (lT k g) g')))::dead ids):=by
     intro ids hm0;obtain ⟨c'',rest,g1,g2,g3⟩:=run_append_grow (P:=P) (ty:=o.type) hu hu' hi hz SA xC hm0 (by rw [hby]; exact hbg) om;exact dG.grown (rest:=rest) hR hn ids holds hnews g1 (by rw [g2,size_zeroCells,hzs]) (by rw [g2]; exact sW hzs (og _ _ ti.size GX)) (run (by rw [hdv,hsv]; exact g3))
    have other:dG P cfg cx H D w I O bW o a (.dA bW 0 (n+m) false) [(bW,some (.row ti.size (n+m) (appG n (lT k g) g'))),(ob,none)]:=by
     by_cases hroom:n+m≤cap
     ·by_cases hcap0:cap=0
      ·have hn0:n=0:=by omega
       have hm0:m=0:=by omega
       subst hn0; subst hm0;have hnz:news=#[]:=Array.eq_empty_of_size_eq_zero (by have:=hnews.1; omega);have hrun:=run (oq (P:=P) (ty:=o.type) hu hu' hi (base:=aa) (n:=0) (cap:=cap) (w':=w) (xC w rfl) om (λ ad _=>by rw [hnz]; rfl) (λ _=>rfl) |> λ q=>by rw [hdv,hsv]; exact q);intro next Q hnx
       have Hg:=hR.drop [ob];have hR2:=Hg.empty hn ti.size (appG 0 (lT k g) g');refine nU hrun (hnx _ w I _ (by rw [vL]; exact hR2) (λ u y hu=>(hu.drop hR [ob]).place Hg hn (λ _ _=>rfl)) ?_);exact .dA (p:=⟨ti.size,0,none⟩) (by simp [jy]) (by simp) om (λ h=>by cases h) (λ h=>absurd hcap0 h) (Nat.zero_le _)
      ·obtain ⟨b,bo,sz,TN,Zr,hle⟩:=hpl hcap0;obtain ⟨hpn,Ki,hlen,hpl' | ⟨b',kK,sz',hpl',hal,hle',hcs⟩⟩:=hO
       ·rw [TN] at hpl'; cases hpl'.2
       rw [TN] at hpl';cases hpl';rw [Ki] at Zr hle;have ak3:(k+cap)*ti.size=k*ti.size+cap*ti.size:=Nat.add_mul _ _ _;have agN:(n+m)*ti.size≤cap*ti.size:=Nat.mul_le_mul_right _ hroom;rw [Nat.add_mul] at agN;have alR:=hnews.1;have hst:=run_storeCells_cells (P:=P) b (bo+k*ti.size+n*ti.size) news.toList 0 w (λ j hj=>(hal _ (by simp at hj; omega)).1) (λ j hj=>(hal _ (by simp at hj; omega)).2)
        (λ u hu=>by
          obtain ⟨q,hq,rfl⟩:=List.mem_iff_getElem.1 hu
          have hq':q<news.size:=by simpa using hq
          have hdiv:q / ti.size<m:=(Nat.div_lt_iff_lt_mul hpos).2 om
          have:=((hnews.2 _ hdiv).2 (q % ti.size) (Nat.mod_lt _ hpos)).2
          rw [Nat.div_add_mod'] at this
          simpa [hq'] using this)
       rw [Nat.add_zero] at hst;have hrun:=run (oq (P:=P) (ty:=o.type) hu hu' hi (base:=aa) (n:=n) (cap:=cap) (w':=w.setCells b (bo+k*ti.size+n*ti.size) news.toList) (xC w rfl) hroom
        (λ ad had=>by
          rw [Zr] at had
          cases had
          rw [Addr.add_mid,hsz]
          exact hst) (λ hno=>by rw [Zr] at hno; cases hno) |> λ q=>by rw [hdv,hsv]; exact q)
       have Pd:=(lC hal (bo+k*ti.size+n*ti.size) news.toList (by simp; omega) (λ q hq=>by
        have hq':q<news.size:=by simpa using hq
        have hdiv:q / ti.size<m:=(Nat.div_lt_iff_lt_mul hpos).2 om;have:=((hnews.2 _ hdiv).2 (q % ti.size) (Nat.mod_lt _ hpos)).2;rw [Nat.div_add_mod'] at this;simpa [hq'] using this)).up (kK:=bo+k*ti.size) om
       obtain ⟨_,hcell⟩:=iX hal.al (bo+k*ti.size+n*ti.size) news.toList (by simp; omega);obtain ⟨Zp,Rn⟩:=jW b news.toList (bo+k*ti.size+n*ti.size) w;have hnI:=hR.lu ob p b bo sz hp TN;have Km:∀b',I b'→(w.setCells b (bo+k*ti.size+n*ti.size) news.toList).heap[b']? = w.heap[b']? := λ b' hb=>Rn b' (λ e=>hnI (e ▸ hb));have Hg:=hR.drop [ob];have hfree:∀o1 p1 b1 Rl Rm,kill O [ob] o1=some p1→p1.pl=some (b1,Rl,Rm)→b1≠b:=by
        intro o1 p1 b1 Rl Rm w1 w2;unfold kill at w1;by_cases hne:o1∈[ob]
        ·simp [hne] at w1
        ·rw [if_neg hne] at w1;exact hR.inj o1 ob p1 p b1 Rl Rm b bo sz w1 hp w2 TN (by simpa using hne)
       have happ:=Ko (rest:=#[]) holds hnews;have hR2:=Hg.place hn (w':=w.setCells b (bo+k*ti.size+n*ti.size) news.toList) (kR _ _ _ _) (.row ti.size (n+m) (appG n (lT k g) g')) ⟨ti.size,n+m,some (b,bo+k*ti.size,sz)⟩ rfl Rn Zp (hR.lt ob p b bo sz hp TN) (hR.new ob p b bo sz hp TN) hnI hfree (by
        refine ⟨rfl,rfl,λ q hq=>(happ q hq).1,.inr ⟨_,_,_,rfl,Pd,?_,λ q j hq hj=>?_⟩⟩
        ·rw [Nat.add_mul]; omega
        ·have hq2:(q+1)*ti.size≤(n+m)*ti.size:=Nat.mul_le_mul_right _ hq
         rw [Nat.succ_mul,Nat.add_mul] at hq2
         rw [hcell _ om]
         by_cases hqn:q<n
         ·have hq3:(q+1)*ti.size≤n*ti.size:=Nat.mul_le_mul_right _ hqn
          rw [Nat.succ_mul] at hq3
          rw [if_neg om]
          have e3:appG n (lT k g) g' q=g (k+q):=by
           have:Nat.blt q n=true:=by simpa using hqn
           simp [appG,this,vK]
          rw [e3]
          have e4:bo+k*ti.size+(q*ti.size+j)=bo+((k+q)*ti.size+j):=by rw [Nat.add_mul]; omega
          rw [e4]
          have:=hcs (k+q) j om hj
          exact ⟨this.1.mono (λ _ h=>h) Km,this.2⟩
         ·have hq3:n*ti.size≤q*ti.size:=Nat.mul_le_mul_right _ om
          rw [if_pos (by simp; omega)]
          have e3:appG n (lT k g) g' q=g' (q - n):=by
           have:Nat.blt q n=false:=Er hqn
           simp [appG,this]
          rw [e3]
          have hqq:q*ti.size=n*ti.size+(q - n)*ti.size:=by rw [← Nat.add_mul]; congr 1; omega
          have e4:bo+k*ti.size+(q*ti.size+j) - (bo+k*ti.size+n*ti.size)=(q - n)*ti.size+j:=by omega
          rw [e4]
          have hlt:(q - n)*ti.size+j<news.size:=by omega
          have:=(hnews.2 (q - n) om).2 j hj
          simp [hlt] at this
          simp [hlt]
          exact ⟨this.1.mono (λ _ h=>h) Km,this.2⟩)
       intro next Q hnx
       refine nU hrun (hnx _ _ I _ (by rw [vL]; exact hR2) (λ u y hu=>(hu.drop hR [ob]).place Hg hn Km) ?_);rw [Zr];refine .dA (p:=⟨ti.size,n+m,some (b,bo+k*ti.size,sz)⟩) (by simp [jy]) (by simp) hroom (λ h=>by cases h) (λ _=>⟨_,_,_,rfl,by simp,?_⟩) (by simp; omega);simp only [Nat.zero_add];omega
     ·exact grow [ob] om
    obtain ⟨rfl,rfl⟩:=h9.iP;exact other
  ·exact (dK.aJ h6).elim
 ·exact (dK.aJ h).elim
theorem Xk {u:AV} {k:Nat→Nat→(Nat→AV)→Pg} {x:Value} (hR:Rel cfg cx H D w I O) (hx:cO w I O D u x) (h:dK Sp H (LY u k) v ups r):
  ∃es n g base c r',x=.slice base n c∧dK Sp H (k es n g) v ups r'∧∀size,FQ es n size=true→0<size→∀q,q≤n→Reads P w I size q g x:=by
 unfold LY at h;split at h
 ·rename_i es n f g;have hp:=hx.rV;cases hp with
  | sl b off vs hcap hfull ha hes hm h1 hr=>
   refine ⟨es,n,g,_,_,r,rfl,h,λ size he hs q hq=>?_⟩;by_cases hn:n=0
   ·have hq:q=0:=by omega
    subst hq;exact iY 0 0 (λ _ _=>Go.undef) (λ h=>absurd rfl h) (λ i hi=>absurd hi om) (λ i j hi=>absurd hi om) (λ i j hi=>absurd hi om) (λ i j hi=>absurd hi om) hs
   ·have:=rW he hn;subst this;exact iY b off vs (λ _=>(ha hn).1) (λ i hi=>hes i om) (λ i j hi=>hm i j om) (λ i j hi=>h1 i j om) (λ i j hi=>hr i j om) hs
 ·rename_i ob i n f;obtain ⟨obj,r',lg,h1⟩:=h.jN;obtain ⟨p,hp,hO⟩:=hR.live lg;cases obj with
  | map=>exact (dK.aJ h1).elim
  | box cs=>exact (dK.aJ h1).elim
  | row es m g=>
   obtain ⟨aa,cap,rfl,h2,h3,h4,h5⟩:=hx.jH hp;refine ⟨es,n,lT i g,aa,cap,r',rfl,h1,λ size he hs q hq=>?_⟩;by_cases hn:n=0
   ·have hq:q=0:=by omega
    subst hq;exact iY 0 0 (λ _ _=>Go.undef) (λ h=>absurd rfl h) (λ i hi=>absurd hi om) (λ i j hi=>absurd hi om) (λ i j hi=>absurd hi om) (λ i j hi=>absurd hi om) hs
   ·have:=rW he hn;subst this;obtain ⟨cells,hc1,hc2⟩:=Kn (P:=P) (n:=q) (cap:=cap) (aa:=aa) hO om om hs h5;exact ⟨cells,hc1,λ w' hw=>by have:=hc2 w' hw; cases aa<;>exact this⟩
 ·exact (dK.aJ h).elim
theorem adj (hc:fq P cfg) (hR:Rel cfg cx H D w I O) {c:Call} (ho:o.op=.call c) (hcl:c.callee=.builtin .copy) (hx:∀x∈c.args.toList,cO w I O D (ρ x) (a.eval x))
  (h:dK Sp H (eZ cfg bW (.call c) ρ) v ups r):dG P cfg cx H D w I O bW o a v ups:=by
 simp only [eZ,hcl] at h;split at h
 ·rename_i d s t t' e1 e2;obtain ⟨xd,xs,hargs,hd,hs⟩:=args2 e1;have hty:c.argTypes=#[t,t']:=by rw [← Array.toList_inj]; simpa using e2
  have hdr:cO w I O D d (a.eval xd):=hd ▸ hx xd (by simp [hargs]);have hsr:cO w I O D s (a.eval xs):=hs ▸ hx xs (by simp [hargs]);obtain ⟨tt',e',ti',q1,q2,q3,h1⟩:=h.kr;obtain ⟨tt,e,ti,p1,p2,p3,h2⟩:=h1.kr;obtain ⟨hpos,h4⟩:=h2.bq;have hpos:0<ti.size:=by simpa using hpos
  obtain ⟨hu,i,z,hi,hz,hsz,hby,hzs⟩:=hc.slice p1 p2 p3;have run:∀ {x' w'},(Builtin.copy_ #[t,t'] o.type #[a.eval xd,a.eval xs]).run P w=.ok x' w'→(execOp a.eval o).run P w=.ok (.value x') w':=by
   intro x' w' hr;simp only [execOp,ho,hcl,resolve,invoke,builtin,Sem.run_bind,Sem.run_pure,Result.andThen_ok,hargs,hty,List.map_toArray,List.map_cons,List.map_nil,hr]
  clear h h1 h2;unfold aaA at h4;obtain ⟨es',m,g',base',c',r1,hsv,h5,hreads⟩:=Xk (P:=P) hR hsr h4;obtain ⟨hes',h6⟩:=h5.bq;clear h4 h5;split at h6
  ·rename_i ob i0 n full;obtain ⟨obj,r',lg,h7⟩:=h6.jN;obtain ⟨p,hp,hO⟩:=hR.live lg;cases obj with
   | map=>exact (dK.aJ h7).elim
   | box cs=>exact (dK.aJ h7).elim
   | row es N g=>
    obtain ⟨aa,cap,hdv,a1,a2,a3,a4⟩:=hdr.jH hp;obtain ⟨hes,h8⟩:=h7.bq;have hes:es=ti.size:=Nat.eq_of_beq_eq_true hes;obtain ⟨rfl,rfl⟩:=h8.iP;obtain ⟨cells,hcells,hrd⟩:=hreads ti.size hes' hpos (Nat.min m n) (Nat.min_le_left _ _);have hrd:=hrd w rfl;rw [hsv,← hsz] at hrd;have hkn:Nat.min m n≤n:=Nat.min_le_right _ _;generalize hk:Nat.min m n=k at hcells hrd hkn;have agO:∀ {w'},(∀ad,aa=some ad→(storeCells ad cells.toList).run P w=.ok () w')→(aa=none→w'=w)→(Builtin.copy_ #[t,t'] o.type #[a.eval xd,a.eval xs]).run P w=.ok (goInt k) w':=by
     intro w' hw1 hw2;rw [hdv,hsv];cases aa with
     | none=>
      have:=hw2 rfl;subst this;simp [Builtin.copy_,run_underlying hu,sizeOf,typeInfo,hi,Builtin.lenOf,hk,hrd]
     | some ad=>
      have:=hw1 ad rfl;simp [Builtin.copy_,run_underlying hu,sizeOf,typeInfo,hi,Builtin.lenOf,hk,hrd,this]
    by_cases hk0:k=0
    ·subst hk0;have hce:cells=#[]:=Array.eq_empty_of_size_eq_zero (by have:=hcells.1; omega);have hrun:=run (agO (w':=w) (λ ad _=>by rw [hce]; rfl) (λ _=>rfl));rw [Pe];intro next Q hnx
     have hR2:Rel cfg cx (jK H [(ob,some (.row es N g))]) (vV D bW) w I O:=by
      rw [Kq lg];exact hR.qV bW
     exact nU hrun (hnx _ w I O hR2 (λ u y hu=>hu.qV hR bW) (.pure (.int _ _)))
    ·obtain ⟨b,bo,sz,hpl,Zr,hcapz⟩:=a4 om;obtain ⟨hn,adh,hlen,hpl' | ⟨b',kK,sz',hpl',hal,hle,hcs⟩⟩:=hO
     ·rw [hpl] at hpl'; cases hpl'.2
     rw [hpl] at hpl';cases hpl';rw [adh] at Zr hcapz;subst hes;have hmul:(i0+k)*ti.size≤N*ti.size:=Nat.mul_le_mul_right _ om;rw [Nat.add_mul] at hmul;have hcsz:=hcells.1;have hone:∀j,j<cells.size→(cells.getD j Go.undef).oneCell'=true:=λ j hj=>by
      rw [hcsz] at hj;have h1:j / ti.size<k:=(Nat.div_lt_iff_lt_mul hpos).2 hj;have h2:=((hcells.2 _ h1).2 (j % ti.size) (Nat.mod_lt _ hpos)).2;rwa [Nat.div_add_mod'] at h2
     have hst:=run_storeCells_cells (P:=P) b (bo+i0*ti.size) cells.toList 0 w (λ j hj=>(hal (bo+i0*ti.size+0+j) (by simp at hj; omega)).1) (λ j hj=>(hal (bo+i0*ti.size+0+j) (by simp at hj; omega)).2)
      (λ u hu=>by
        obtain ⟨j,hj,rfl⟩:=List.mem_iff_getElem.1 hu
        have hj':j<cells.size:=by simpa using hj
        simpa [hj'] using hone j hj')
     rw [Nat.add_zero] at hst;have hrun:=run (agO (w':=w.setCells b (bo+i0*ti.size) cells.toList) (λ ad h=>by rw [Zr] at h; cases h; exact hst) (λ h=>by rw [Zr] at h; cases h));have Pd:=lC hal (bo+i0*ti.size) cells.toList (by simp; omega) (λ j hj=>by have hj':j<cells.size:=(by simpa using hj); simpa [hj'] using hone j hj');obtain ⟨_,hcell⟩:=iX hal.al (bo+i0*ti.size) cells.toList (by simp; omega);obtain ⟨Zp,Rn⟩:=jW b cells.toList (bo+i0*ti.size) w;have Km:∀b',I b'→(w.setCells b (bo+i0*ti.size) cells.toList).heap[b']? = w.heap[b']? := λ b' hb=>Rn b' (λ e=>hR.lu ob p b bo sz hp hpl (e ▸ hb));have keep:∀u z,cO w I O D u z→cO (w.setCells b (bo+i0*ti.size) cells.toList) I O D u z:=λ u z hu=>hu.mono (λ _ h=>h) Km (λ _ _=>.inl rfl) (λ _ h=>h) hR.used;have Cq:∀u z,fC w I u z→fC (w.setCells b (bo+i0*ti.size) cells.toList) I u z:=λ u z hu=>hu.mono (λ _ h=>h) Km;have Co:=hR.write (kR _ _ _ _) (.row ti.size N (Ze i0 k g g')) hp hpl Rn Zp (by
      refine ⟨hn,adh,λ j hj=>?_,.inr ⟨b,bo,sz,hpl,Pd,hle,λ j q hj hq=>?_⟩⟩
      ·by_cases hin:i0≤j∧j<i0+k
       ·rw [Pf hin.1 hin.2]
        exact (hcells.2 (j - i0) om).1
       ·rw [Ho hin]
        exact hlen j hj
      ·have hmj:(j+1)*ti.size≤N*ti.size:=Nat.mul_le_mul_right _ hj
       rw [Nat.succ_mul] at hmj
       rw [hcell _ om]
       by_cases hin:i0≤j∧j<i0+k
       ·rw [Pf hin.1 hin.2]
        have q1:i0*ti.size≤j*ti.size:=Nat.mul_le_mul_right _ hin.1
        have q2:(j+1)*ti.size≤(i0+k)*ti.size:=Nat.mul_le_mul_right _ hin.2
        rw [Nat.succ_mul,Nat.add_mul] at q2
        have q3:(j - i0)*ti.size=j*ti.size - i0*ti.size:=Nat.sub_mul _ _ _
        rw [if_pos (by simp; omega)]
        have e3:bo+(j*ti.size+q) - (bo+i0*ti.size)=(j - i0)*ti.size+q:=by omega
        rw [e3]
        have hh:=(hcells.2 (j - i0) om).2 q hq
        have e4:cells.toList.getD ((j - i0)*ti.size+q) Go.undef=cells.getD ((j - i0)*ti.size+q) Go.undef:=by
         have hlt:(j - i0)*ti.size+q<cells.size:=by omega
         simp [hlt]
        rw [e4]
        exact ⟨Cq _ _ hh.1,hh.2⟩
       ·rw [Ho hin]
        rw [if_neg ?_]
        ·exact ⟨Cq _ _ (hcs j q hj hq).1,(hcs j q hj hq).2⟩
        ·intro ⟨r1,r2⟩
         have r2:bo+(j*ti.size+q)<bo+i0*ti.size+cells.size:=by simpa using r2
         apply hin
         constructor
         ·rcases Nat.lt_or_ge j i0 with h | h
          ·have:(j+1)*ti.size≤i0*ti.size:=Nat.mul_le_mul_right _ h
           rw [Nat.succ_mul] at this
           omega
          ·exact h
         ·rcases Nat.lt_or_ge j (i0+k) with h | h
          ·exact h
          ·have:(i0+k)*ti.size≤j*ti.size:=Nat.mul_le_mul_right _ h
           rw [Nat.add_mul] at this
           omega)
     intro next Q hnx
     exact nU hrun (hnx _ _ I O (Co.qV bW) (λ u z hu=>(keep u z hu).qV Co bW) (.pure (.int _ _)))
  ·exact (dK.aJ h6).elim
 ·exact (dK.aJ h).elim
end
end Go.Ab
namespace Go.Ab
section
variable {P:Program} {cfg:qz} {cx:Ctx} {H:Nat→Option cu} {D:Nat→Prop} {w:World} {I:Nat→Prop} {O:OM} {Sp:kL}
variable {bW:Nat} {o:Oper} {a:Act} {ρ:Operand→AV} {v:AV} {ups:jh} {r:List Nat}
theorem Vn (g:Nat→AV) (ns:List Int):∀(k i:Nat) (s:ByteArray),k+i=ns.length→(∀j,i≤j→j<ns.length→g j=.int .u8 (ns.getD j 0))→J7 k i g s=(ns.drop i).foldl (λ r n=>r.push (UInt8.ofNat n.toNat)) s:=by
 intro k;induction k with
 | zero=>intro i s h _; rw [List.drop_eq_nil_of_le om]; rfl
 | succ k ih=>
  intro i s h hg;rw [show ns.drop i=ns.getD i 0::ns.drop (i+1) by rw [List.drop_eq_getElem_cons om,List.getD_eq_getElem?_getD,List.getElem?_eq_getElem om]; rfl];simp only [J7,List.foldl_cons];rw [hg i (Nat.le_refl _) om];exact ih (i+1) _ om (λ j hj hj'=>hg j om hj')
theorem aa8 (hc:fq P cfg) (hR:Rel cfg cx H D w I O) {src dst:TypeId} {x:Operand} (ho:o.op=.convert src dst x) (hx:cO w I O D (ρ x) (a.eval x)) {td:Ei} (hd:look cfg.ty dst=some td) (hs:aeM td.desc=true)
  (h:dK Sp H (TB cfg src (ρ x)) v ups r):dG P cfg cx H D w I O bW o a v ups:=by
 unfold TB at h;obtain ⟨tt,e,ei,p1,p2,p3,h1⟩:=h.kr;obtain ⟨hu8,h2⟩:=h1.bq;obtain ⟨hu,i,z,hi,hiz,hsz,_⟩:=hc.slice p1 p2 p3;obtain ⟨es,n,g,base,c,r1,hxv,h3,hreads⟩:=TQ (P:=P) hR hx h2;obtain ⟨hes,h4⟩:=h3.bq;obtain ⟨hall,h5⟩:=h4.qB;obtain ⟨rfl,rfl⟩:=h5.dn;obtain ⟨cells,hcells,hrd⟩:=hreads 1 hes om;have hue:P.underlying e=some (.int .u8):=by
  obtain ⟨_,d,_,_,hud,_,_,_,_,_,_,_,hm⟩:=(hc.ty e ei p3).ex;unfold u8D at hu8;split at hu8
  ·rename_i hdd;rw [hdd] at hm;have hm:d=.int .u8:=hm;rw [hud,hm]
  ·cases hu8
 have hdd:P.underlying dst=some .string:=by
  obtain ⟨_,d,_,_,hud,_,_,_,_,_,_,_,hm⟩:=(hc.ty dst td hd).ex;unfold aeM at hs;split at hs
  ·rename_i hq;rw [hq] at hm;have hm:d=.string:=hm;rw [hud,hm]
  ·cases hs
 have hus:∃ds,P.underlying src=some ds:=⟨_,hu⟩;let num:AV→Int:=λ u=>match u with | .int _ m=>m | _=>0
 have hg8:∀j,j<n→g j=.int .u8 (num (g j)):=λ j hj=>by
  have:=hall j hj;cases hgj:g j with
  | int k m=>rw [hgj] at this; cases k<;>first | rfl | cases this
  | _=>rw [hgj] at this; cases this
 obtain ⟨ns,hns⟩:∃ns:List Int,ns=(List.range n).map λ j=>num (g j):=⟨_,rfl⟩;have hnl:ns.length=n:=by rw [hns]; simp
 have hng:∀j,j<n→ns.getD j 0=num (g j):=λ j hj=>by
  rw [hns,List.getD_eq_getElem?_getD,List.getElem?_map,List.getElem?_range hj];rfl
 have hce:cells=(ns.map (Value.int .u8)).toArray:=by
  apply Array.ext
  ·rw [hcells.1]; simp [hnl]
  ·intro j h1 h2;have hj:j<n:=by have:=hcells.1; omega
   have h3:=((hcells.2 j hj).2 0 om).1;rw [hg8 j hj] at h3;have h4:fC w I (.int .u8 (num (g j))) (cells.getD (j*1+0) Go.undef):=h3;have h5:cells.getD (j*1+0) Go.undef=.int .u8 (num (g j)):=(cO.pure (O:=λ _=>none) (D:=λ _=>False) h4).fQ;rw [Nat.mul_one,Nat.add_zero] at h5;have h6:cells.getD j Go.undef=cells[j]:=by simp [h1]
   rw [h6] at h5;rw [h5];have:=hng j hj;rw [List.getD_eq_getElem?_getD,List.getElem?_eq_getElem om] at this;simp at this;simp [this]
 have hval:J7 n 0 g ByteArray.empty=ns.foldl (λ r n=>r.push (UInt8.ofNat n.toNat)) ByteArray.empty:=by
  have:=Vn g ns n 0 ByteArray.empty om (λ j _ hj=>by rw [hng j om]; exact hg8 j om);rw [this,List.drop_zero]
 refine dG.bZ (x:=.string (J7 n 0 g ByteArray.empty)) hR ?_ (.pure (.str _));rw [hval];simp only [execOp,ho,hxv,Sem.run_bind,run_convert_bytes_string w src dst e base n c hu hue hdd];cases base with
 | none=>
  have hn0:n=0:=by
   have h7:=hrd w rfl;rw [hxv] at h7;have h8:(#[]:Array Value)=cells:=by simpa [Builtin.firstCells] using h7
   have h9:=hcells.1;rw [← h8] at h9;simpa using h9.symm
  have:ns=[]:=List.eq_nil_of_length_eq_zero om;subst this;simp [Conv.bytesToString]
 | some ad=>
  have hload:(loadCells ad n).run P w=.ok (ns.map (Value.int .u8)).toArray w:=by
   have:=hrd w rfl;rw [hxv,hce] at this;have e1:Builtin.firstCells 1 n (.slice (some ad) n c)=loadCells ad (n*1):=rfl;rw [e1,Nat.mul_one] at this;exact this
  rw [run_bytesToString w ad n c ns hload];rfl
theorem Xl (hc:fq P cfg) (hR:Rel cfg cx H D w I O) {s d:TypeId} {x:Operand} (ho:o.op=.convert s d x) (hx:cO w I O D (ρ x) (a.eval x))
  (h:dK Sp H (eZ cfg bW (.convert s d x) ρ) v ups r):dG P cfg cx H D w I O bW o a v ups:=by
 simp only [eZ] at h;obtain ⟨ts,hs,h1⟩:=h.iG;obtain ⟨td,hd,h2⟩:=h1.iG;obtain ⟨_,ds,_,_,hus,_⟩:=(hc.ty s ts hs).ex;obtain ⟨_,dd,_,_,hud,_,_,_,_,_,_,_,hm⟩:=(hc.ty d td hd).ex;split at h2
 ·exact aa8 hc hR ho hx hd (by assumption) h2
 split at h2
 ·rename_i k k' n e1 e2;rw [e2] at hx;rw [e1] at hm;have hm:dd=.int k:=hm;subst hm;obtain ⟨rfl,rfl⟩:=h2.dn;refine dG.bZ (x:=.int k _) hR ?_ (.pure (.int _ _));simp [execOp,ho,hx.fQ,convert,bn hus,bn hud,Conv.intToInt]
 ·exact (dK.aJ h2).elim
theorem aa9 (hc:fq P cfg) (hR:Rel cfg cx H D w I O) {c:Call} (ho:o.op=.call c) (hcl:c.callee=.builtin .clear) (hx:∀x∈c.args.toList,cO w I O D (ρ x) (a.eval x))
  (h:dK Sp H (eZ cfg bW (.call c) ρ) v ups r):dG P cfg cx H D w I O bW o a v ups:=by
 simp only [eZ,hcl] at h;split at h
 ·rename_i ob i0 n full t e1 e2;obtain ⟨x,hargs,hd⟩:∃x,c.args=#[x]∧ρ x=.dA ob i0 n full:=by
   have hl:c.args.toList.length=1:=by
    have:=congrArg List.length e1;simpa using this
   match hh:c.args.toList,hl with
   | [x],_=>
    refine ⟨x,by rw [← Array.toList_inj]; simpa using hh,?_⟩
    rw [hh] at e1
    simpa using e1
  have hty:c.argTypes=#[t]:=by rw [← Array.toList_inj]; simpa using e2
  have hdr:cO w I O D (.dA ob i0 n full) (a.eval x):=hd ▸ hx x (by simp [hargs]);obtain ⟨tt,e,ti,p1,p2,p3,h1⟩:=h.kr;obtain ⟨hz,h2⟩:=h1.bq;obtain ⟨hpos,_⟩:=y9 hz;obtain ⟨hu,i,z,hi,hiz,hsz,hby,hzs⟩:=hc.slice p1 p2 p3;obtain ⟨i',_,z',hi',_,Cn,_,_,_,_,hzl,GX,_⟩:=(hc.ty e ti p3).ex;rw [hi] at hi'; cases hi';rw [hiz] at Cn; cases Cn;obtain ⟨obj,_,lg,h3⟩:=h2.jN;obtain ⟨p,hp,hO⟩:=hR.live lg;have run:∀ {x' w'},(Builtin.clear_ #[t] o.type #[a.eval x]).run P w=.ok x' w'→(execOp a.eval o).run P w=.ok (.value x') w':=by
   intro x' w' hr;simp only [execOp,ho,hcl,resolve,invoke,builtin,Sem.run_bind,Sem.run_pure,Result.andThen_ok,hargs,hty,List.map_toArray,List.map_cons,List.map_nil,hr]
  cases obj with
  | map=>exact (dK.aJ h3).elim
  | box cs=>exact (dK.aJ h3).elim
  | row es N g=>
   obtain ⟨hes,h4⟩:=h3.bq;have hes:es=ti.size:=Nat.eq_of_beq_eq_true hes;obtain ⟨rfl,rfl⟩:=h4.iP;subst hes;have Ki:p.es=ti.size:=hO.2.1;have hpn:p.n=N:=hO.1;obtain ⟨aa,cap,hdv,a1,a2,a3,a4⟩:=hdr.jH hp;by_cases hn0:n=0
   ·subst hn0;have hr:(Builtin.clear_ #[t] o.type #[a.eval x]).run P w=.ok (.tuple #[]) w:=by
     rw [hdv];cases aa<;>simp [Builtin.clear_,bn hu]
    intro next Q hnx
    refine nU (run hr) (hnx _ w I O (by rw [Pe,Kq lg]; exact hR.qV bW) (λ u y hu=>hu.qV hR bW) (.pure (.undef _)))
   ·obtain ⟨b,bo,sz,hpl,Zr,hcapz⟩:=a4 om;have hcells:zZ w I ti.size n (λ _=>zeroOf ti) ((Array.range (n*ti.size)).map (λ k=>z.cells[k % z.cells.size]!)):=by
     refine ⟨by simp,λ j hj=>?_⟩;rw [vC hz hzl];refine ⟨by rw [gL]; exact hzl,λ q hq=>?_⟩;rw [oh z.cells n j q ti.size hzs hj hq];exact ⟨tJ _ _ ti.size hzl GX q hq,og _ _ ti.size GX q hq⟩
    obtain ⟨hst,Co,keep⟩:=hR.aa7 (P:=P) (i0:=i0) (k:=n) hp hO hpl hpos hcells om;have hzc:Builtin.zeroCells z.cells n=(Array.range (n*ti.size)).map (λ k=>z.cells[k % z.cells.size]!):=by
     unfold Builtin.zeroCells;rw [hzs]
    have hr:(Builtin.clear_ #[t] o.type #[a.eval x]).run P w=.ok (.tuple #[]) (w.setCells b (bo+i0*ti.size) ((Array.range (n*ti.size)).map (λ k=>z.cells[k % z.cells.size]!)).toList):=by
     rw [hdv,Zr,Ki];rw [← hzc] at hst ⊢;cases n with
     | zero=>exact absurd rfl hn0
     | succ n=>
      simp only [Builtin.clear_,List.getElem?_toArray,List.getElem?_cons_zero,Sem.run_bind,Sem.run_pure,bn hu,zeroValue,typeInfo,program,Sem.run,hi,hiz,Result.andThen] at hst ⊢;rw [hst]
    intro next Q hnx
    exact nU (run hr) (hnx _ _ I O (Co.qV bW) (λ u y hu=>(keep u y hu).qV Co bW) (.pure (.undef _)))
 ·exact (dK.aJ h).elim
end
end Go.Ab
namespace Go.Ab
section
variable {P:Program} {cfg:qz} {cx:Ctx} {H:Nat→Option cu} {D:Nat→Prop} {w:World} {I:Nat→Prop} {O:OM} {Sp:kL}
variable {bW:Nat} {o:Oper} {a:Act} {ρ:Operand→AV} {v:AV} {ups:jh} {r:List Nat}
theorem cO.tL {u:AV} {x:Value} (h:cO w I O D u x) (hp:lq u=true):fC w I u x:=by
 cases h with
 | pure h=>exact h
 | _=>cases hp
theorem Rw {l:List AV} (h:rR l=true):∀j,j<l.length→lq (nth l j)=true:=by
 induction l with
 | nil=>intro j hj; cases hj
 | cons u l ih=>
  intro j hj;unfold rR at h;cases hv:lq u with
  | false=>simp [hv] at h
  | true=>
   simp only [hv] at h;cases j with
   | zero=>exact hv
   | succ j=>exact ih h j (by simpa using hj)
theorem za:∀(l:List Nat) (x k j:Nat),o9 l x k=some j→k≤j∧j - k<l.length∧fJ l (j - k)=x:=by
 intro l;induction l with
 | nil=>intro x k j h; cases h
 | cons y l ih=>
  intro x k j h;unfold o9 at h;cases hb:Nat.beq y x with
  | true=>
   simp only [hb] at h;cases h;exact ⟨Nat.le_refl _,by simp,by simp [fJ,Nat.eq_of_beq_eq_true hb]⟩
  | false=>
   simp only [hb] at h;obtain ⟨h1,h2,h3⟩:=ih x (k+1) j h;refine ⟨by omega,by simp; omega,?_⟩;have:j - k=(j - (k+1))+1:=by omega
   rw [this];exact h3
theorem Vo:∀(sg:List Nat) (k:List cu→Pg) (r:List Nat),dK Sp H (Yo sg k) v ups r→∃obs r',dK Sp H (k obs) v ups r'∧obs.length=sg.length∧∀j,j<sg.length→∃x,hof obs j=some x∧H (fJ sg j)=some x:=by
 intro sg;induction sg with
 | nil=>intro k r h; exact ⟨[],r,h,rfl,λ j hj=>by cases hj⟩
 | cons x sg ih=>
  intro k r h;simp only [Yo] at h;obtain ⟨ob,r1,lg,h1⟩:=h.jN;obtain ⟨obs,r2,h2,h3,h4⟩:=ih _ _ h1;refine ⟨ob::obs,r2,h2,by simp [h3],λ j hj=>?_⟩;cases j with
  | zero=>exact ⟨ob,rfl,lg⟩
  | succ j=>exact h4 j (by simpa using hj)
def lD (O:OM) (sg:List Nat):OM:=λ j=>if j<sg.length then O (fJ sg j) else none
variable {sg:List Nat}
theorem rY (hR:Rel cfg cx H D w I O) (hlive:∀j,j<sg.length→∃x,H (fJ sg j)=some x) {o j:Nat} (h:o9 sg o 0=some j):j<sg.length∧∃p,O o=some p∧lD O sg j=some p:=by
 obtain ⟨_,h2,h3⟩:=za sg o 0 j h;simp only [Nat.sub_zero] at h2 h3;obtain ⟨y,hy⟩:=hlive j h2;rw [h3] at hy;obtain ⟨p,hp,_⟩:=hR.live hy;exact ⟨h2,p,hp,by unfold lD; rw [if_pos h2,h3]; exact hp⟩
theorem Vp (hR:Rel cfg cx H D w I O) (hlive:∀j,j<sg.length→∃x,H (fJ sg j)=some x) {u:AV} {k:AV→Pg} {r:List Nat} (h:dK Sp H (aaB sg u k) v ups r):
  ∃u',dK Sp H (k u') v ups r∧∀(I':Nat→Prop) (_:∀b,I b→I' b) x,cO w I O D u x→cO w I' (lD O sg) (λ o=>o<sg.length) u' x:=by
 have Pj:lq u=true→∀(I':Nat→Prop) (_:∀b,I b→I' b) x,cO w I O D u x→cO w I' (lD O sg) (λ o=>o<sg.length) u x:=λ hp I' hI x hx=>.pure ((hx.tL hp).mono hI (λ _ _=>rfl));unfold aaB at h;split at h
 ·rename_i ob i off;cases hi:o9 sg ob 0 with
  | none=>rw [hi] at h; exact (dK.aJ h).elim
  | some j=>
   rw [hi] at h;obtain ⟨h1,p,h2,h3⟩:=rY hR hlive hi;refine ⟨_,h,λ I' hI x hx=>?_⟩;obtain ⟨b,bo,sz,q1,q2,rfl⟩:=hx.kQ h2;exact .ptr h3 q1 q2
 ·rename_i ob i n f;cases hi:o9 sg ob 0 with
  | none=>rw [hi] at h; exact (dK.aJ h).elim
  | some j=>
   rw [hi] at h;obtain ⟨h1,p,h2,h3⟩:=rY hR hlive hi;refine ⟨_,h,λ I' hI x hx=>?_⟩;obtain ⟨aa,cap,rfl,q1,q2,q3,q4⟩:=hx.jH h2;exact .dA h3 q1 q2 q3 q4 (hx.xA h2)
 ·rename_i ob;cases hi:o9 sg ob 0 with
  | none=>rw [hi] at h; exact (dK.aJ h).elim
  | some j=>
   rw [hi] at h;obtain ⟨h1,p,h2,h3⟩:=rY hR hlive hi;refine ⟨_,h,λ I' hI x hx=>?_⟩;obtain ⟨b,bo,sz,q1,rfl⟩:=hx.qA h2;exact .mref h3 q1
 ·obtain ⟨hp,h⟩:=h.bq;exact ⟨_,h,Pj hp⟩
theorem Pk (hR:Rel cfg cx H D w I O) (hlive:∀j,j<sg.length→∃x,H (fJ sg j)=some x):∀(l:List AV) (k:List AV→Pg) (r:List Nat),dK Sp H (WU sg l k) v ups r→
  ∃l',dK Sp H (k l') v ups r∧l'.length=l.length∧∀j,j<l.length→∀(I':Nat→Prop) (_:∀b,I b→I' b) x,cO w I O D (nth l j) x→cO w I' (lD O sg) (λ o=>o<sg.length) (nth l' j) x:=by
 intro l;induction l with
 | nil=>intro k r h; exact ⟨[],h,rfl,λ j hj=>by cases hj⟩
 | cons u l ih=>
  intro k r h;simp only [WU] at h;obtain ⟨u',h1,h2⟩:=Vp hR hlive h;obtain ⟨l',h3,h4,h5⟩:=ih _ _ h1;refine ⟨u'::l',h3,by simp [h4],λ j hj I' hI x hx=>?_⟩;cases j with
  | zero=>exact h2 I' hI x hx
  | succ j=>exact h5 j (by simpa using hj) I' hI x hx
theorem Pm (hR:Rel cfg cx H D w I O) (hlive:∀j,j<sg.length→∃x,H (fJ sg j)=some x) {f:FuncId} {cs:List AV} {k:List AV→Pg} {r:List Nat} (h:dK Sp H (WU sg cs k) v ups r):
  ∃cs',dK Sp H (k cs') v ups r∧∀(I':Nat→Prop) (_:∀b,I b→I' b) x,cO w I O D (.fn f cs) x→cO w I' (lD O sg) (λ o=>o<sg.length) (.fn f cs') x:=by
 obtain ⟨cs',h1,h2,h3⟩:=Pk hR hlive cs _ _ h;refine ⟨cs',h1,λ I' hI x hx=>?_⟩;obtain ⟨xs,rfl,hl,hr⟩:=hx.vW;exact .fn (by rw [h2]; exact hl) λ j hj=>h3 j om I' hI _ (hr j om)
theorem Fj (hR:Rel cfg cx H D w I O) (hlive:∀j,j<sg.length→∃x,H (fJ sg j)=some x) {u:AV} {k:AV→List Nat→Pg} (h:dK Sp H (El sg u k) v ups r):
  ∃u' ids r',dK Sp H (k u' ids) v ups r'∧∀x,cO w I O D u x→cO w (λ b=>I b∨wU O ids b) (lD O sg) (λ o=>o<sg.length) u' x:=by
 have dflt:∀ {u:AV} {r:List Nat},dK Sp H (Rk fuel u k) v ups r→∃u' ids r',dK Sp H (k u' ids) v ups r'∧∀x,cO w I O D u x→cO w (λ b=>I b∨wU O ids b) (lD O sg) (λ o=>o<sg.length) u' x:=by
  intro u r h;obtain ⟨u',ids,r',h1,h2⟩:=(y8 hR fuel).1 _ _ _ _ _ h;exact ⟨u',ids,r',h1,λ x hx=>.pure (h2 x hx)⟩
 unfold El at h;split at h
 ·rename_i ob i off;cases hi:o9 sg ob 0 with
  | none=>rw [hi] at h; exact dflt h
  | some j=>
   rw [hi] at h;obtain ⟨_,h2,h3⟩:=za sg ob 0 j hi;simp only [Nat.sub_zero] at h2 h3;refine ⟨_,_,r,h,λ x hx=>?_⟩;obtain ⟨y,hy⟩:=hlive j h2;rw [h3] at hy;obtain ⟨p,hp,_⟩:=hR.live hy;obtain ⟨b,bo,sz,q1,q2,rfl⟩:=hx.kQ hp;exact .ptr (by unfold lD; rw [if_pos h2,h3]; exact hp) q1 q2
 ·rename_i ob i n f;cases hi:o9 sg ob 0 with
  | none=>rw [hi] at h; exact dflt h
  | some j=>
   rw [hi] at h;obtain ⟨_,h2,h3⟩:=za sg ob 0 j hi;simp only [Nat.sub_zero] at h2 h3;refine ⟨_,_,r,h,λ x hx=>?_⟩;obtain ⟨y,hy⟩:=hlive j h2;rw [h3] at hy;obtain ⟨p,hp,_⟩:=hR.live hy;obtain ⟨aa,cap,rfl,q1,q2,q3,q4⟩:=hx.jH hp;exact .dA (by unfold lD; rw [if_pos h2,h3]; exact hp) q1 q2 q3 q4 (hx.xA hp)
 ·rename_i ob;cases hi:o9 sg ob 0 with
  | none=>rw [hi] at h; exact dflt h
  | some j=>
   rw [hi] at h;obtain ⟨_,p,h2,h3⟩:=rY hR hlive hi;refine ⟨_,_,r,h,λ x hx=>?_⟩;obtain ⟨b,bo,sz,q1,rfl⟩:=hx.qA h2;exact .mref h3 q1
 ·rename_i f cs;cases hi:Yn sg (LZ cs) with
  | false=>rw [hi] at h; exact dflt h
  | true=>
   rw [hi] at h;obtain ⟨cs',h1,h2⟩:=Pm (f:=f) hR hlive h;exact ⟨_,_,r,h1,λ x hx=>h2 _ (λ b hb=>.inl hb) x hx⟩
 ·rename_i cs;cases hi:Yn sg (LZ cs) with
  | false=>rw [hi] at h; exact dflt h
  | true=>
   rw [hi] at h;obtain ⟨cs',h1,h2,h3⟩:=Pk hR hlive cs _ _ h;refine ⟨_,_,r,h1,λ x hx=>?_⟩;obtain ⟨xs,rfl,hl,hr⟩:=hx.lX;exact .agg (by rw [h2]; exact hl) λ j hj=>h3 j om _ (λ b hb=>.inl hb) _ (hr j om)
 ·exact dflt h
theorem Cr (hR:Rel cfg cx H D w I O) (hlive:∀j,j<sg.length→∃x,H (fJ sg j)=some x):∀(l:List AV) (k:List AV→List Nat→Pg) (r:List Nat),dK Sp H (yY sg l k) v ups r→
  ∃l' ids r',dK Sp H (k l' ids) v ups r'∧l'.length=l.length∧∀j,j<l.length→∀x,cO w I O D (nth l j) x→cO w (λ b=>I b∨wU O ids b) (lD O sg) (λ o=>o<sg.length) (nth l' j) x:=by
 intro l;induction l with
 | nil=>intro k r h; exact ⟨[],[],r,h,rfl,λ j hj=>by cases hj⟩
 | cons u l ih=>
  intro k r h;simp only [yY] at h;obtain ⟨u',i1,r1,h1,h2⟩:=Fj hR hlive h;obtain ⟨l',i2,r2,h3,h4,h5⟩:=ih _ _ h1;have gQ:∀o p,lD O sg o=some p→o<sg.length:=λ o p h=>by
   unfold lD at h;split at h
   ·assumption
   ·cases h
  refine ⟨u'::l',i1++i2,r2,h3,by simp [h4],λ j hj x hx=>?_⟩;cases j with
  | zero=>exact (h2 x hx).mono (λ b h=>h.elim .inl λ h=>.inr h.Xf) (λ _ _=>rfl) (λ _ _=>.inl rfl) (λ _ h=>h) gQ
  | succ j=>exact (h5 j (by simpa using hj) x hx).mono (λ b h=>h.elim .inl λ h=>.inr h.Xg) (λ _ _=>rfl) (λ _ _=>.inl rfl) (λ _ h=>h) gQ
theorem Aa:∀(l:List Nat),kN l=true→∀i j,i<l.length→j<l.length→fJ l i=fJ l j→i=j:=by
 have mem:∀(l:List Nat) (j:Nat),j<l.length→fJ l j∈l:=by
  intro l;induction l with
  | nil=>intro j hj; cases hj
  | cons x l ih=>intro j hj; cases j with
   | zero=>simp [fJ]
   | succ j=>exact List.mem_cons_of_mem _ (ih j (by simpa using hj))
 intro l;induction l with
 | nil=>intro _ i j hi; cases hi
 | cons x l ih=>
  intro h i j hi hj he;unfold kN at h;cases hm:vv x l with
  | true=>simp [hm] at h
  | false=>
   simp only [hm] at h;have hx:=rX hm;cases i with
   | zero=>cases j with
    | zero=>rfl
    | succ j=>simp only [fJ] at he; exact absurd (he ▸ mem l j (by simpa using hj)) hx
   | succ i=>cases j with
    | zero=>simp only [fJ] at he; exact absurd (he ▸ mem l i (by simpa using hi)) hx
    | succ j=>simp only [fJ] at he; rw [ih h i j (by simpa using hi) (by simpa using hj) he]
theorem mE:∀(l:List Nat) (j:Nat),j<l.length→fJ l j∈l:=by
 intro l;induction l with
 | nil=>intro j hj; cases hj
 | cons x l ih=>intro j hj; cases j with
  | zero=>simp [fJ]
  | succ j=>exact List.mem_cons_of_mem _ (ih j (by simpa using hj))
theorem Pn:∀(l:List Nat) (x:Nat),x∈l→∃j,j<l.length∧fJ l j=x:=by
 intro l;induction l with
 | nil=>intro x h; cases h
 | cons y l ih=>
  intro x h;rcases List.mem_cons.1 h with h | h
  ·exact ⟨0,by simp,h.symm⟩
  ·obtain ⟨j,h1,h2⟩:=ih x h;exact ⟨j+1,by simp; omega,h2⟩
theorem FV:∀(l m:List Nat),Cg l m=true→∀x∈l,x ∉ m:=by
 intro l;induction l with
 | nil=>intro m _ x hx; cases hx
 | cons y l ih=>
  intro m h x hx;unfold Cg at h;cases hm:vv y m with
  | true=>simp [hm] at h
  | false=>
   simp only [hm] at h;rcases List.mem_cons.1 hx with hx | hx
   ·subst hx; exact rX hm
   ·exact ih m h x hx
theorem Xm (hR:Rel cfg cx H D w I O) (hlive:∀j,j<sg.length→∃x,H (fJ sg j)=some x) {u:AV} {k:AV→Pg} {r:List Nat} (h:dK Sp H (inv1 sg u k) v ups r):
  ∃u',dK Sp H (k u') v ups r∧∀(I':Nat→Prop) (_:∀b,I b→I' b) x,cO w I O D u x→cO w I' (lD O sg) (λ o=>o<sg.length) u' x:=by
 have Pj:lq u=true→∀(I':Nat→Prop) (_:∀b,I b→I' b) x,cO w I O D u x→cO w I' (lD O sg) (λ o=>o<sg.length) u x:=λ hp I' hI x hx=>.pure ((hx.tL hp).mono hI (λ _ _=>rfl));unfold inv1 at h;split at h
 ·rename_i ob i off;cases hi:o9 sg ob 0 with
  | none=>rw [hi] at h; exact (dK.aJ h).elim
  | some j=>
   rw [hi] at h;obtain ⟨h1,p,h2,h3⟩:=rY hR hlive hi;refine ⟨_,h,λ I' hI x hx=>?_⟩;obtain ⟨b,bo,sz,q1,q2,rfl⟩:=hx.kQ h2;exact .ptr h3 q1 q2
 ·rename_i ob i n f;cases hi:o9 sg ob 0 with
  | none=>rw [hi] at h; exact (dK.aJ h).elim
  | some j=>
   rw [hi] at h;obtain ⟨h1,p,h2,h3⟩:=rY hR hlive hi;refine ⟨_,h,λ I' hI x hx=>?_⟩;obtain ⟨aa,cap,rfl,q1,q2,q3,q4⟩:=hx.jH h2;exact .dA h3 q1 q2 q3 q4 (hx.xA h2)
 ·rename_i ob;cases hi:o9 sg ob 0 with
  | none=>rw [hi] at h; exact (dK.aJ h).elim
  | some j=>
   rw [hi] at h;obtain ⟨h1,p,h2,h3⟩:=rY hR hlive hi;refine ⟨_,h,λ I' hI x hx=>?_⟩;obtain ⟨b,bo,sz,q1,rfl⟩:=hx.qA h2;exact .mref h3 q1
 ·rename_i f cs;obtain ⟨cs',h1,h2⟩:=Pm (f:=f) hR hlive h;exact ⟨_,h1,h2⟩
 ·obtain ⟨hp,h⟩:=h.bq;exact ⟨_,h,Pj hp⟩
theorem Xn (hR:Rel cfg cx H D w I O) (hlive:∀j,j<sg.length→∃x,H (fJ sg j)=some x):∀(l:List AV) (k:List AV→Pg) (r:List Nat),dK Sp H (acU sg l k) v ups r→
  ∃l',dK Sp H (k l') v ups r∧l'.length=l.length∧∀j,j<l.length→∀(I':Nat→Prop) (_:∀b,I b→I' b) x,cO w I O D (nth l j) x→cO w I' (lD O sg) (λ o=>o<sg.length) (nth l' j) x:=by
 intro l;induction l with
 | nil=>intro k r h; exact ⟨[],h,rfl,λ j hj=>by cases hj⟩
 | cons u l ih=>
  intro k r h;simp only [acU] at h;obtain ⟨u',h1,h2⟩:=Xm hR hlive h;obtain ⟨l',h3,h4,h5⟩:=ih _ _ h1;refine ⟨u'::l',h3,by simp [h4],λ j hj I' hI x hx=>?_⟩;cases j with
  | zero=>exact h2 I' hI x hx
  | succ j=>exact h5 j (by simpa using hj) I' hI x hx
theorem Xo (hR:Rel cfg cx H D w I O) (hlive:∀j,j<sg.length→∃x,H (fJ sg j)=some x) {ob:cu} {k:cu→Pg} {r:List Nat} (h:dK Sp H (agx sg ob k) v ups r):
  ∃ob',dK Sp H (k ob') v ups r∧∀(I':Nat→Prop) (_:∀b,I b→I' b) p,gJ w I O D p ob→gJ w I' (lD O sg) (λ o=>o<sg.length) p ob':=by
 cases ob with
 | map=>exact ⟨_,h,λ I' hI p hp=>hp⟩
 | box cs=>
  obtain ⟨cs',h1,h2,h3⟩:=Xn hR hlive cs _ _ h;refine ⟨_,h1,λ I' hI p hp=>?_⟩;obtain ⟨q1,b,bo,sz,q2,q3,q4,q5⟩:=hp;exact ⟨q1,b,bo,sz,q2,q3,by rw [h2]; exact q4,λ j hj=>h3 j om I' hI _ (q5 j om)⟩
 | row es n g=>
  refine ⟨_,h,λ I' hI p hp=>?_⟩;obtain ⟨q1,q2,q3,q4⟩:=hp;refine ⟨q1,q2,q3,?_⟩;rcases q4 with q4 | ⟨b,bo,sz,e1,e2,e3,e4⟩
  ·exact .inl q4
  ·exact .inr ⟨b,bo,sz,e1,e2,e3,λ i j hi hj=>⟨(e4 i j hi hj).1.mono hI (λ _ _=>rfl),(e4 i j hi hj).2⟩⟩
theorem Vq (hR:Rel cfg cx H D w I O) (hlive:∀j,j<sg.length→∃x,H (fJ sg j)=some x):∀(l:List cu) (k:List cu→Pg) (r:List Nat),dK Sp H (Yp sg l k) v ups r→
  ∃l',dK Sp H (k l') v ups r∧l'.length=l.length∧∀j x,hof l j=some x→∃y,hof l' j=some y∧∀(I':Nat→Prop) (_:∀b,I b→I' b) p,gJ w I O D p x→gJ w I' (lD O sg) (λ o=>o<sg.length) p y:=by
 intro l;induction l with
 | nil=>intro k r h; exact ⟨[],h,rfl,λ j x hx=>by cases hx⟩
 | cons ob l ih=>
  intro k r h;simp only [Yp] at h;obtain ⟨y,h1,h2⟩:=Xo hR hlive h;obtain ⟨l',h3,h4,h5⟩:=ih _ _ h1;refine ⟨y::l',h3,by simp [h4],λ j x hx=>?_⟩;cases j with
  | zero=>cases hx; exact ⟨y,rfl,h2⟩
  | succ j=>exact h5 j x hx
theorem TR:∀(f:Nat) (todo sg:List Nat) (k:List Nat→Pg) (r:List Nat),dK Sp H (OL f todo sg k) v ups r→∃sg' r',dK Sp H (k sg') v ups r':=by
 intro f;induction f with
 | zero=>intro todo sg k r h; exact (dK.aJ h).elim
 | succ f ih=>
  intro todo sg k r h;cases todo with
  | nil=>exact ⟨sg,r,h⟩
  | cons o todo=>
   simp only [OL] at h;cases hm:vv o sg with
   | true=>rw [hm] at h; exact ih _ _ _ _ h
   | false=>
    rw [hm] at h;cases h with
    | rd ho h=>exact ih _ _ _ _ h
theorem Rel.sub (hR:Rel cfg cx H D w I O) {ids:List Nat} {obs:List cu} (hnd:kN sg=true) (hdj:Cg ids sg=true) (hl:obs.length=sg.length) (Rx:∀j,j<sg.length→∃x y,hof obs j=some y∧H (fJ sg j)=some x∧∀p,gJ w I O D p x→gJ w (λ b=>I b∨wU O ids b) (lD O sg) (λ o=>o<sg.length) p y):
  Rel cfg (BK w (λ b=>I b∨wU O ids b) (lD O sg) obs.length) (hof obs) (λ o=>o<obs.length) w (λ b=>I b∨wU O ids b) (lD O sg):=by
 have hsub:∀ {j p},lD O sg j=some p→j<sg.length∧O (fJ sg j)=some p:=λ h=>by
  unfold lD at h;split at h
  ·exact ⟨by assumption,h⟩
  ·cases h
 have Hq:∀(l:List cu) (j:Nat),l.length≤j→hof l j=none:=by
  intro l;induction l with
  | nil=>intro j _; rfl
  | cons x l ih=>intro j hj; cases j with
   | zero=>simp at hj
   | succ j=>exact ih j (by simpa using hj)
 exact {
  dom:=λ j=>by
   unfold lD
   by_cases hj:j<sg.length
   ·obtain ⟨x,y,h1,h2,_⟩:=Rx j hj
    obtain ⟨p,hp,_⟩:=hR.live h2
    simp [hj,h1,hp]
   ·rw [if_neg hj,Hq obs j om]
    simp
  used:=λ j p h=>by have:=(hsub h).1; omega
  objs:=λ j ob p h h'=>by
   obtain ⟨h1,h2⟩:=hsub h'
   obtain ⟨x,y,h3,h4,h5⟩:=Rx j h1
   rw [h] at h3
   cases h3
   rw [hl]
   exact h5 p (hR.objs _ _ p h4 h2)
  inj:=λ j j' p p' b bo sz b' kK sz' h1 h2 h3 h4 h5=>by
   obtain ⟨q1,q2⟩:=hsub h1
   obtain ⟨q3,q4⟩:=hsub h2
   exact hR.inj _ _ p p' b bo sz b' kK sz' q2 q4 h3 h4 (λ e=>h5 (Aa sg hnd j j' q1 q3 e))
  lu:=λ j p b bo sz h1 h2 h3=>by
   obtain ⟨q1,q2⟩:=hsub h1
   rcases h3 with h3 | ⟨o',p',kK,sz',q3,q4,q5⟩
   ·exact hR.lu _ p b bo sz q2 h2 h3
   ·exact hR.inj _ o' p p' b bo sz b kK sz' q2 q4 h2 q5 (λ e=>FV ids sg hdj o' q3 (e ▸ mE sg j q1)) rfl
  lt:=λ j p b bo sz h1 h2=>hR.lt _ p b bo sz (hsub h1).2 h2
  uw:=(hR.freeze ids).uw
  size:=Nat.le_refl _
  frame:=λ _ _ _=>rfl
  env:=⟨fP.refl _,λ _ _ h=>h.elim⟩
  new:=λ j p b bo sz h1 h2=>.inr ⟨j,p,bo,sz,h1,h2⟩
  glob:=(hR.freeze ids).glob
  G8:=λ _ h=>h
  L9:=λ _ h=>.inl h
  O5:=λ _ _=>.inl rfl
  Dm:=λ _ h=>h }
end
end Go.Ab

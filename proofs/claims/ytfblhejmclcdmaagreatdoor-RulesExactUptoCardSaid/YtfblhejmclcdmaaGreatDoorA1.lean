/- An abstract machine over the model's code, that it is sound; models of the functions and their proofs. -/
import Derived.Test.YtfblhejmclcdmaaGreatDoorA0
import Derived.Laws.Append
import Derived.Deep.Upon
import GoSem.Builtin.Clear
import Derived.Laws.BytesString
set_option linter.unusedVariables false
set_option linter.unusedSimpArgs false

namespace Go.Ab
section
variable {P:Program} {cfg:rU} {cx:Ctx} {H:Nat→Option cB} {D:Nat→Prop} {w:World} {I:Nat→Prop} {O:OM} {Sp:kY}
variable {nid:Nat} {o:Oper} {a:Act} {ρ:Operand→AV} {v:AV} {ups:jh} {r:List Nat}
theorem run_places (l:List Field) (h:∀f∈l,(P.info? f.type).isSome=true):∃ps:List (Nat×Nat),ps.length=l.length∧(∀(k:Nat) (f:Field) (i:TypeInfo),l[k]? = some f→P.info? f.type=some i→ps[k]? = some (f.offset,i.size))∧
  (l.mapM (fun f:Field=>do pure (f.offset,← sizeOf f.type))).run P w=.ok ps w:=by
 induction l with
 | nil=>exact ⟨[],rfl,fun k f i h=>by simp at h,by simp⟩
 | cons f l ih=>
  obtain ⟨ps,h1,h2,h3⟩:=ih (fun f hf=>h f (List.mem_cons_of_mem _ hf));obtain ⟨i,hi⟩:=Option.isSome_iff_exists.1 (h f (by simp));refine ⟨(f.offset,i.size)::ps,by simp [h1],fun k f' i' hk hi'=>?_,?_⟩
  ·cases k with
   | zero=>simp at hk; subst hk; rw [hi] at hi'; cases hi'; simp
   | succ k=>simpa using h2 k f' i' (by simpa using hk) hi'
  ·rw [List.mapM_cons];simp only [bind_assoc,pure_bind,Sem.run_bind,eF hi,Result.andThen_ok,h3,Sem.run_pure]
def setAt (cells:Array Value) (off:Nat) (vs:Array Value):Array Value:=vs.zipIdx.foldl (fun cs (p:Value×Nat)=>cs.setIfInBounds (off+p.2) p.1) cells
theorem WL (off:Nat):∀(l:List Value) (n:Nat) (cells:Array Value),off+n+l.length≤cells.size→
  ((l.zipIdx n).foldl (fun (cs:Array Value) (p:Value×Nat)=>cs.setIfInBounds (off+p.2) p.1) cells).size=cells.size∧
  ∀k,((l.zipIdx n).foldl (fun (cs:Array Value) (p:Value×Nat)=>cs.setIfInBounds (off+p.2) p.1) cells).getD k Go.undef=
   if off+n≤k∧k<off+n+l.length then l.getD (k - (off+n)) Go.undef else cells.getD k Go.undef:=by
 intro l;induction l with
 | nil=>intro n cells _; exact ⟨rfl,fun k=>by simp [show ¬ (off+n≤k∧k<off+n) by omega]⟩
 | cons x l ih=>
  intro n cells hle;simp only [List.zipIdx_cons,List.foldl_cons];obtain ⟨h1,h2⟩:=ih (n+1) (cells.setIfInBounds (off+n) x) (by simp at hle ⊢; omega);refine ⟨by rw [h1]; simp,fun k=>?_⟩;rw [h2 k];by_cases hk:k=off+n
  ·subst hk;have hlt:off+n<cells.size:=by simp at hle; omega
   have e1:¬ (off+(n+1)≤off+n∧off+n<off+(n+1)+l.length):=by omega
   have e2:off+n≤off+n∧off+n<off+n+(x::l).length:=by simp
   rw [if_neg e1,if_pos e2];simp [hlt]
  ·by_cases hin:off+(n+1)≤k∧k<off+(n+1)+l.length
   ·have e2:off+n≤k∧k<off+n+(x::l).length:=by simp; omega
    rw [if_pos hin,if_pos e2];have:k - (off+n)=(k - (off+(n+1)))+1:=by omega
    rw [this];simp
   ·have e2:¬ (off+n≤k∧k<off+n+(x::l).length):=by simp; omega
    rw [if_neg hin,if_neg e2];have hne:off+n≠k:=fun e=>hk e.symm;simp [Array.getElem?_setIfInBounds_ne hne]
theorem PX (cells:Array Value) (off:Nat) (vs:Array Value) (h:off+vs.size≤cells.size):(setAt cells off vs).size=cells.size∧
  ∀k,(setAt cells off vs).getD k Go.undef=if off≤k∧k<off+vs.size then vs.getD (k - off) Go.undef else cells.getD k Go.undef:=by
 have e:setAt cells off vs=(vs.toList.zipIdx 0).foldl (fun (cs:Array Value) (p:Value×Nat)=>cs.setIfInBounds (off+p.2) p.1) cells:=by
  unfold setAt;rw [← Array.foldl_toList];simp
 rw [e];obtain ⟨h1,h2⟩:=WL off vs.toList 0 cells (by simpa using h);refine ⟨h1,fun k=>?_⟩;rw [h2 k];simp
theorem uF:∀(new l:List AV) (off:Nat),(AY off new l).length=l.length:=by
 intro new l;induction l generalizing new with
 | nil=>intro off; cases new<;>cases off<;>simp [AY]
 | cons x l ih=>
  intro off;cases new with
  | nil=>cases off<;>simp [AY]
  | cons v new=>cases off<;>simp [AY,ih]
theorem PY:∀(l new:List AV) (off:Nat),off+new.length≤l.length→∀j,nth (AY off new l) j=if off≤j∧j<off+new.length then nth new (j - off) else nth l j:=by
 intro l;induction l with
 | nil=>
  intro new off h j;have:new=[]:=by cases new<;>simp_all
  subst this;rw [if_neg (by simp)];cases off<;>rfl
 | cons x l ih=>
  intro new off h j;cases new with
  | nil=>cases off<;>simp [AY,show ∀n:Nat,¬ (n≤j∧j<n) by omega]
  | cons v new=>
   cases off with
   | zero=>
    simp only [AY];cases j with
    | zero=>simp [nth]
    | succ j=>
     simp only [nth];rw [ih new 0 (by simp at h ⊢; omega) j];by_cases hj:j<new.length
     ·rw [if_pos om,if_pos (by simp; omega)]; simp [nth]
     ·rw [if_neg om,if_neg (by simp; omega)]
   | succ off=>
    simp only [AY];cases j with
    | zero=>simp [nth]
    | succ j=>
     simp only [nth];rw [ih (v::new) off (by simp at h ⊢; omega) j];by_cases hj:off≤j∧j<off+(v::new).length
     ·rw [if_pos hj,if_pos om]; congr 1; omega
     ·rw [if_neg hj,if_neg om]
def UU (w:World) (I:Nat→Prop) (O:OM) (D:Nat→Prop) (cs:List AV) (cells:Array Value):Prop:=cells.size=cs.length∧∀j,j<cs.length→Rep w I O D (nth cs j) (cells.getD j Go.undef)
theorem UU.put {cs new:List AV} {cells vs:Array Value} {off:Nat} (h:UU w I O D cs cells) (h':UU w I O D new vs) (hle:off+new.length≤cs.length):UU w I O D (AY off new cs) (setAt cells off vs):=by
 obtain ⟨h1,h2⟩:=h;obtain ⟨h3,h4⟩:=h';obtain ⟨s1,s2⟩:=PX cells off vs om;refine ⟨by rw [s1,uF,h1],fun j hj=>?_⟩;rw [uF] at hj;rw [PY _ _ _ hle,s2];by_cases hin:off≤j∧j<off+new.length
 ·rw [if_pos hin,if_pos om]; exact h4 _ om
 ·rw [if_neg hin,if_neg om]; exact h2 j hj
theorem SA (place:Nat→Option (Nat×Nat)) (cells:Array Value) (i:Nat) (v:Value) (rest:List (Nat×Value)) (off size:Nat) (hp:place i=some (off,size)) (hs:v.cells.size=size) (hle:off+v.cells.size≤cells.size):
  Instr.fill place cells ((i,v)::rest)=Instr.fill place (setAt cells off v.cells) rest:=by
 have hs':¬ v.cells.size≠size:=by omega
 have hle':¬ off+v.cells.size > cells.size:=by omega
 simp only [Instr.fill,hp];rw [if_neg (by simp; omega)];rfl
theorem NH {fs:List (Nat×Nat)} {place:Nat→Option (Nat×Nat)} (hpl:∀k off t ti,Od fs k=some (off,t)→look cfg.ty t=some ti→place k=some (off,ti.size)):
  ∀(parts:List (Nat×Operand)) (cs:List AV) (cells:Array Value) (k:List AV→Pg) (r:List Nat),(∀p∈parts,Rep w I O D (ρ p.2) (a.eval p.2))→UU w I O D cs cells→dQ Sp H (UD cfg fs (parts.map fun p=>(p.1,ρ p.2)) cs k) v ups r→
   ∃cs' cells' r',dQ Sp H (k cs') v ups r'∧Instr.fill place cells (parts.map fun p=>(p.1,a.eval p.2))=some cells'∧UU w I O D cs' cells':=by
 intro parts;induction parts with
 | nil=>intro cs cells k r _ hrep h; exact ⟨cs,cells,r,h,rfl,hrep⟩
 | cons p parts ih=>
  intro cs cells k r hx hrep h;simp only [List.map_cons,UD] at h;cases hf:Od fs p.1 with
  | none=>simp only [hf] at h; exact (dQ.aR h).elim
  | some q=>
   obtain ⟨off,t⟩:=q;simp only [hf] at h;obtain ⟨ti,ht,h1⟩:=h.jR;obtain ⟨hk,h2⟩:=h1.xL;obtain ⟨hsz,h3⟩:=h2.bM;obtain ⟨hle,h4⟩:=h3.bM;have hsz:(ρ p.2).cells.length=ti.size:=Nat.eq_of_beq_eq_true hsz;have hle:off+(ρ p.2).cells.length≤cs.length:=Nat.le_of_ble_eq_true hle;obtain ⟨hl,hcs⟩:=(hx p (by simp)).cells hk;have hrep':=hrep.put (off:=off) (new:=(ρ p.2).cells) (vs:=(a.eval p.2).cells) ⟨hl,fun j hj=>(hcs j hj).1⟩ hle;obtain ⟨cs',cells',r',q1,q2,q3⟩:=ih _ _ k r (fun p hp=>hx p (List.mem_cons_of_mem _ hp)) hrep' h4;refine ⟨cs',cells',r',q1,?_,q3⟩;simp only [List.map_cons];rw [SA place cells p.1 (a.eval p.2) _ off ti.size (hpl _ _ _ _ hf ht) om (by have:=hrep.1; omega)];exact q2
theorem aav {et sz:Nat}:∀(n b k:Nat) {off t:Nat},Od (X0 et sz n b) k=some (off,t)→off=(b+k)*sz∧t=et:=by
 intro n;induction n with
 | zero=>intro b k off t h; cases h
 | succ n ih=>
  intro b k off t h;cases k with
  | zero=>cases h; exact ⟨rfl,rfl⟩
  | succ k=>
   obtain ⟨h1,h2⟩:=ih (b+1) k h;exact ⟨by rw [h1]; congr 1; omega,h2⟩
theorem aaw (hc:fq P cfg) (hR:Rel cfg cx H D w I O) {t:TypeId} {parts:Array (Nat×Operand)} (ho:o.op=.build t parts) (hx:∀p∈parts.toList,Rep w I O D (ρ p.2) (a.eval p.2))
  (h:dQ Sp H (eP cfg nid (.build t parts) ρ) v ups r):dR P cfg cx H D w I O nid o a v ups:=by
 simp only [eP] at h;obtain ⟨ti,ht,h1⟩:=h.jR;obtain ⟨i,d,z,hi,hu,hz,hs,_,_,hzs,hzl,hzm,hd⟩:=(hc.ty t ti ht).ex;split at h1
 ·rename_i fs e;rw [e] at hd;obtain ⟨fields,rfl,hfs⟩:=hd;have hth:=hc.fields t ti _ ht hu;obtain ⟨ps,p1,p2,p3⟩:=run_places (P:=P) (w:=w) fields.toList hth;have hpl:∀k off t ti,Od fs k=some (off,t)→look cfg.ty t=some ti→(ps.toArray[·]?) k=some (off,ti.size):=by
   intro k off t' ti' hk ht';have hf:H8 ti k=some (off,t'):=by unfold H8; rw [e]; exact hk
   obtain ⟨fields',fd,q1,q2,q3,q4⟩:=hc.field ht hf;rw [hu] at q1;cases q1;obtain ⟨i',_,_,q5,_,_,q6,_⟩:=(hc.ty t' ti' ht').ex;have:=p2 k fd i' (by simpa using q2) (by rw [q4]; exact q5);simpa [q3,q6] using this
  have hrep:UU w I O D (uE ti.zero) z.cells:=⟨by rw [gq]; omega,fun j hj=>.pure (yg _ _ ti.size hzl hzm j (by rw [gq] at hj; omega))⟩;obtain ⟨cs',cells',r',q1,q2,q3⟩:=NH hpl parts.toList _ _ _ _ hx hrep h1;obtain ⟨rfl,rfl⟩:=q1.dN;refine dR.dD (x:=.agg cells') hR ?_ (.agg q3.1 q3.2);have hm:(fields.mapM (fun f:Field=>do pure (f.offset,← sizeOf f.type))).run P w=.ok ps.toArray w:=by
   have e0:fields=fields.toList.toArray:=by simp
   rw [e0,List.mapM_toArray,map_eq_pure_bind,Sem.run_bind,p3];rfl
  have e1:(parts.map fun (p:Nat×Operand)=>(p.1,a.eval p.2)).toList=parts.toList.map fun p=>(p.1,a.eval p.2):=by simp
  simp only [execOp,ho,Instr.build,Sem.run_bind,zeroValue,typeInfo,program,Sem.run,hi,hz,Sem.run_pure,Result.andThen_ok,bO hu,hm,e1,q2]
 ·rename_i n et e;rw [e] at hd;have hd:d=.array n et:=hd;subst hd;obtain ⟨ei,he,h2⟩:=h1.jR;obtain ⟨ie,de,hie,hude,hde,hsze⟩:=hc.agg he;have hpl:∀k off t ti,Od (X0 et ei.size n 0) k=some (off,t)→look cfg.ty t=some ti→(fun i=>some (i*ei.size,ei.size):Nat→Option (Nat×Nat)) k=some (off,ti.size):=by
   intro k off t' ti' hk ht';obtain ⟨rfl,rfl⟩:=aav n 0 k hk;rw [he] at ht';cases ht';simp
  have hrep:UU w I O D (uE ti.zero) z.cells:=⟨by rw [gq]; omega,fun j hj=>.pure (yg _ _ ti.size hzl hzm j (by rw [gq] at hj; omega))⟩;obtain ⟨cs',cells',r',q1,q2,q3⟩:=NH hpl parts.toList _ _ _ _ hx hrep h2;obtain ⟨rfl,rfl⟩:=q1.dN;refine dR.dD (x:=.agg cells') hR ?_ (.agg q3.1 q3.2);have e1:(parts.map fun (p:Nat×Operand)=>(p.1,a.eval p.2)).toList=parts.toList.map fun p=>(p.1,a.eval p.2):=by simp
  have e2:=eF (w:=w) hie;rw [hsze] at e2;simp only [execOp,ho,Instr.build,Sem.run_bind,zeroValue,typeInfo,program,Sem.run,hi,hz,Sem.run_pure,Result.andThen_ok,bO hu,e2,e1,q2]
 ·exact (dQ.aR h1).elim
end
end Go.Ab

namespace Go.Ab
section
variable {P:Program} {cfg:rU} {cx:Ctx} {H:Nat→Option cB} {D:Nat→Prop} {w:World} {I:Nat→Prop} {O:OM} {Sp:kY}
variable {nid:Nat} {o:Oper} {a:Act} {ρ:Operand→AV} {v:AV} {ups:jh} {r:List Nat}
theorem FH {ti:Jf} (h:zok ti=true):0<ti.size∧(ti.agg=false→ti.size=1):=by
 unfold zok at h;cases h0:Nat.blt 0 ti.size with
 | false=>simp [h0] at h
 | true=>
  simp only [h0] at h;refine ⟨by simpa using h0,fun ha=>?_⟩;simp only [ha] at h;exact Nat.eq_of_beq_eq_true h
theorem YI (z:ZK):(ofZ z).cells=[ofZ z]:=by cases z<;>rfl
theorem CJ {ti:Jf} (hz:zok ti=true) (hl:ti.zero.length=ti.size):(zeroOf ti).cells=uE ti.zero:=by
 obtain ⟨h0,h1⟩:=FH hz;unfold zeroOf;cases ha:ti.agg with
 | true=>rfl
 | false=>
  have:=h1 ha;match hzz:ti.zero,hl with
  | [z],_=>simp only [uE,nth]; exact YI z
  | [],hl=>simp at hl; omega
  | _::_::_,hl=>simp at hl; omega
theorem Ak (z:Array Value) (len i j size:Nat) (hs:z.size=size) (hi:i<len) (hj:j<size):((Array.range (len*size)).map (fun k=>z[k % z.size]!)).getD (i*size+j) Go.undef=z.getD j Go.undef:=by
 have hlt:i*size+j<len*size:=by
  have:(i+1)*size≤len*size:=Nat.mul_le_mul_right _ hi;rw [Nat.succ_mul] at this;omega
 have hm:(i*size+j) % size=j:=by
  rw [Nat.mul_comm,Nat.mul_add_mod];exact Nat.mod_eq_of_lt hj
 have hjz:j<z.size:=by omega
 simp [hlt,hs,hm,getElem!_pos z j hjz,Array.getElem?_eq_getElem hjz]
def FI (w:World) (I:Nat→Prop) (size len:Nat) (g:Nat→AV) (cells:Array Value):Prop:=cells.size=len*size∧∀i,i<len→(g i).cells.length=size∧∀j,j<size→PRep w I (nth (g i).cells j) (cells.getD (i*size+j) Go.undef)∧(cells.getD (i*size+j) Go.undef).oneCell'=true
theorem FI.obj {size len:Nat} {g:Nat→AV} {cells:Array Value} {e:TypeId} {O':OM} {D':Nat→Prop} {p:Own} (hI:∀b,I b→b<w.heap.size) (h:FI w I size len g cells) (hp:p=⟨size,len,some (w.heap.size,0,cells.size)⟩):
  fM (w.alloc (.cells cells e)) I O' D' p (.row size len g):=by
 subst hp;obtain ⟨h1,h2⟩:=h;refine ⟨rfl,rfl,fun i hi=>(h2 i hi).1,.inr ⟨_,_,_,rfl,l5 _ _,by omega,fun i j hi hj=>?_⟩⟩;rw [Nat.zero_add,kL];exact ⟨((h2 i hi).2 j hj).1.mono (fun _ h=>h) (fun b hb=>gU _ (hI b hb)),((h2 i hi).2 j hj).2⟩
theorem aax (n i:Nat) (z:AV) (h:i<n):nth (Yx n z) i=z:=by
 induction n generalizing i with
 | zero=>cases h
 | succ n ih=>cases i with
  | zero=>rfl
  | succ i=>exact ih i om
theorem UW (n:Nat) (z:AV):(Yx n z).length=n:=by
 induction n with
 | zero=>rfl
 | succ n ih=>simp [Yx,ih]
theorem Rp (l:List AV) (i:Nat) (v:AV):(Ai i v l).length=l.length:=by
 induction l generalizing i with
 | nil=>simp [Ai]
 | cons x l ih=>cases i<;>simp [Ai,ih]
theorem WM (l:List AV) (i:Nat) (v:AV) (h:i<l.length) (k:Nat):nth (Ai i v l) k=if k=i then v else nth l k:=by
 induction l generalizing i k with
 | nil=>cases h
 | cons x l ih=>
  cases i with
  | zero=>cases k<;>simp [Ai,nth]
  | succ i=>cases k with
   | zero=>simp [Ai,nth]
   | succ k=>simp [Ai,nth,ih i (by simpa using h) k]
theorem zB {u:AV} {x:Value} (h:Rep w I (fun _=>none) (fun _=>False) u x):PRep w I u x:=by
 induction h with
 | pure h=>exact h
 | ptr ho=>cases ho
 | dh ho=>cases ho
 | mref ho=>cases ho
 | KD _ hd=>exact hd.elim
 | xX _ hd=>exact hd.elim
 | wB _ hd=>exact hd.elim
 | agg hl _ ih=>exact .agg hl ih
 | fn hl _ ih=>exact .fn hl ih
 | jX hl _ ih=>exact .jX hl ih
theorem UY {size len:Nat} {agg:Bool}:∀(ps:List (Nat×AV)) (vals:List (Nat×Value)) (es:List AV) (cells:Array Value) (k:List AV→Pg) (r:List Nat),vals.map (·.1)=ps.map (·.1)→
  (∀(j:Nat) (u:Nat×AV) (x:Nat×Value),ps[j]? = some u→vals[j]? = some x→PRep w I u.2 x.2)→es.length=len→FI w I size len (nth es) cells→dQ Sp H (XU size agg ps es k) v ups r→
   ∃es' cells' r',dQ Sp H (k es') v ups r'∧Instr.fill (fun i=>some (i*size,size)) cells vals=some cells'∧FI w I size len (nth es') cells':=by
 intro ps;induction ps with
 | nil=>
  intro vals es cells k r hv _ _ hrep h;have:vals=[]:=by simpa using hv
  subst this;exact ⟨es,cells,r,h,rfl,hrep⟩
 | cons p ps ih=>
  intro vals es cells k r hv hx hl hrep h;cases vals with
  | nil=>simp at hv
  | cons x vals=>
   simp only [List.map_cons,List.cons.injEq] at hv;obtain ⟨i,u⟩:=p;obtain ⟨i',xv⟩:=x;simp only at hv;obtain ⟨rfl,hv⟩:=hv;simp only [XU] at h;obtain ⟨_,h1⟩:=h.bM;obtain ⟨hk,h2⟩:=h1.xL;obtain ⟨hsz,h3⟩:=h2.bM;obtain ⟨hlt,h4⟩:=h3.bM;have hsz:u.cells.length=size:=Nat.eq_of_beq_eq_true hsz;have hlt:i'<es.length:=by simpa using hlt
   have hu:PRep w I u xv:=hx 0 (i',u) (i',xv) rfl rfl;have hur:Rep w I (fun _=>none) (fun _=>False) u xv:=.pure hu;obtain ⟨hcl,hcs⟩:=hur.cells hk;obtain ⟨r1,r2⟩:=hrep;have hmul:(i'+1)*size≤len*size:=Nat.mul_le_mul_right _ om;rw [Nat.succ_mul] at hmul;obtain ⟨s1,s2⟩:=PX cells (i'*size) xv.cells om;have hrep':FI w I size len (nth (Ai i' u es)) (setAt cells (i'*size) xv.cells):=by
    refine ⟨by omega,fun j hj=>?_⟩;rw [WM es i' u hlt];by_cases hji:j=i'
    ·subst hji;rw [if_pos rfl];refine ⟨hsz,fun q hq=>?_⟩;rw [s2,if_pos om,Nat.add_sub_cancel_left];exact ⟨zB (hcs q om).1,(hcs q om).2⟩
    ·rw [if_neg hji];refine ⟨(r2 j hj).1,fun q hq=>?_⟩;have hne:¬ (i'*size≤j*size+q∧j*size+q<i'*size+xv.cells.size):=by
      rcases Nat.lt_or_gt_of_ne hji with hlt' | hgt
      ·have:(j+1)*size≤i'*size:=Nat.mul_le_mul_right _ om;rw [Nat.succ_mul] at this;omega
      ·have:(i'+1)*size≤j*size:=Nat.mul_le_mul_right _ om;rw [Nat.succ_mul] at this;omega
     rw [s2,if_neg hne];exact (r2 j hj).2 q hq
   obtain ⟨es',cells',r',q1,q2,q3⟩:=ih vals _ _ k r hv (fun j u x hj hj'=>hx (j+1) u x (by simpa using hj) (by simpa using hj')) (by rw [Rp]; exact hl) hrep' h4;refine ⟨es',cells',r',q1,?_,q3⟩;rw [SA _ cells i' xv vals (i'*size) size rfl om om];exact q2
theorem PZ (hR:Rel cfg cx H D w I O):∀(parts:List (Nat×Operand)) (k:List (Nat×AV)→List Nat→Pg) (r:List Nat),(∀p∈parts,Rep w I O D (ρ p.2) (a.eval p.2))→dQ Sp H (KC (parts.map fun p=>(p.1,ρ p.2)) k) v ups r→
  ∃ps ids r',dQ Sp H (k ps ids) v ups r'∧(parts.map fun p=>(p.1,a.eval p.2)).map (·.1)=ps.map (·.1)∧
   ∀(j:Nat) (u:Nat×AV) (x:Nat×Value),ps[j]? = some u→(parts.map fun p=>(p.1,a.eval p.2))[j]? = some x→PRep w (fun b=>I b∨zl O ids b) u.2 x.2:=by
 intro parts;induction parts with
 | nil=>intro k r _ h; exact ⟨[],[],r,h,rfl,fun j u x hu=>by simp at hu⟩
 | cons p parts ih=>
  intro k r hx h;simp only [List.map_cons,KC] at h;obtain ⟨u,i1,r1,h1,h2⟩:=(Ba hR fuel).1 _ _ _ _ _ h;obtain ⟨ps,i2,r2,h3,h4,h5⟩:=ih _ _ (fun p hp=>hx p (List.mem_cons_of_mem _ hp)) h1;refine ⟨(p.1,u)::ps,i1++i2,r2,h3,by simpa using h4,fun j u' x' hu' hx'=>?_⟩;cases j with
  | zero=>
   simp at hu' hx';subst hu'; subst hx';exact (h2 _ (hx p (by simp))).mono (fun b h=>h.elim .inl fun h=>.inr h.WJ) (fun _ _=>rfl)
  | succ j=>
   exact (h5 j u' x' (by simpa using hu') (by simpa using hx')).mono (fun b h=>h.elim .inl fun h=>.inr h.WK) (fun _ _=>rfl)
theorem Rq (hc:fq P cfg) (hR:Rel cfg cx H D w I O) (hn:¬ D nid) {t:TypeId} {len:Nat} {parts:Array (Nat×Operand)} (ho:o.op=.buildSlice t len parts) (hx:∀p∈parts.toList,Rep w I O D (ρ p.2) (a.eval p.2))
  (h:dQ Sp H (eP cfg nid (.buildSlice t len parts) ρ) v ups r):dR P cfg cx H D w I O nid o a v ups:=by
 simp only [eP] at h;obtain ⟨tt,e,ti,h1,h2,h3,h4⟩:=h.mQ;obtain ⟨hz,h5⟩:=h4.bM;obtain ⟨hle,h6⟩:=h5.bM;have hle:len*ti.size≤4096:=Nat.le_of_ble_eq_true hle;obtain ⟨z0,z1⟩:=FH hz;obtain ⟨hu,i,z,hi,hiz,hs,hby,hzs⟩:=hc.slice h1 h2 h3;obtain ⟨i',_,z',hi',_,hiz',_,_,_,_,hzl,hzm,_⟩:=(hc.ty e ti h3).ex;rw [hi] at hi'; cases hi';rw [hiz] at hiz'; cases hiz';obtain ⟨ps,ids,r1,h7,h8,h9⟩:=PZ hR parts.toList _ _ hx h6;have hzero:FI w (fun b=>I b∨zl O ids b) ti.size len (nth (Yx len (zeroOf ti))) ((Array.range (len*ti.size)).map (fun k=>z.cells[k % z.cells.size]!)):=by
  refine ⟨by simp,fun j hj=>?_⟩;rw [aax _ _ _ hj,CJ hz hzl];refine ⟨by rw [gq]; exact hzl,fun q hq=>?_⟩;rw [Ak z.cells len j q ti.size hzs hj hq];exact ⟨yg _ _ ti.size hzl hzm q hq,KI _ _ ti.size hzm q hq⟩
 obtain ⟨es',cells',r2,q1,q2,q3⟩:=UY ps _ _ _ _ _ h8 h9 (UW _ _) hzero h7;obtain ⟨rfl,rfl⟩:=q1.jy;refine dR.PW (p:=⟨ti.size,len,some (w.heap.size,0,cells'.size)⟩) (c:=cells') (e:=e) (x:=.slice (some ⟨w.heap.size,0,none⟩) len len) hR hn ids ?_ rfl (FI.obj (hR.freeze ids).vF q3 rfl) ?_
 ·have e1:(parts.map fun (p:Nat×Operand)=>(p.1,a.eval p.2)).toList=parts.toList.map fun p=>(p.1,a.eval p.2):=by simp
  have hno:¬ len*ti.size > 2 ^ 24:=by omega
  by_cases h0:len*ti.size=0
  ·have hcell:cells'=#[]:=by
    have:=q3.1;rw [h0] at this;exact Array.eq_empty_of_size_eq_zero this
   have hf:Instr.fill (fun i=>some (i*ti.size,ti.size)) ((Array.range (len*ti.size)).map (fun k=>(#[]:Array Value)[k % (#[]:Array Value).size]!)) (parts.toList.map fun p=>(p.1,a.eval p.2))=some cells':=by
    have e0:∀f:Nat→Value,(Array.range (len*ti.size)).map f=#[]:=fun f=>Array.eq_empty_of_size_eq_zero (by simp [h0]);rw [e0] at q2 ⊢;exact q2
   simp only [execOp,ho,Instr.buildSlice,Sem.run_bind,bO hu,eF hi,hs,if_neg hno,if_pos h0,Sem.run_pure,e1,hf,newRow,newObj,Sem.run,Result.andThen];rfl
  ·simp only [execOp,ho,Instr.buildSlice,Sem.run_bind,bO hu,eF hi,hs,if_neg hno,if_neg h0,zeroValue,typeInfo,program,Sem.run,hi,hiz,Sem.run_pure,e1,q2,newRow,newObj,Result.andThen];rfl
 ·intro I' O' D' hO;refine .dh hO (by simp) (Nat.le_refl _) (fun _=>rfl) (fun _=>⟨_,_,_,rfl,by simp,?_⟩) (by simp);have:=q3.1;simp [this]
theorem acn {m b:Nat} (h:m*b≤140737488355328):¬ ((b:Int)*(m:Int) > 2 ^ 48):=by
 have e:(2:Int) ^ 48=((281474976710656:Nat):Int):=by decide
 rw [e,← Int.natCast_mul,Nat.mul_comm];omega
theorem TJ (hc:fq P cfg) (hR:Rel cfg cx H D w I O) (hn:¬ D nid) {t:TypeId} {l c:Operand} (ho:o.op=.makeSlice t l c) (hx:Rep w I O D (ρ l) (a.eval l))
  (h:dQ Sp H (eP cfg nid (.makeSlice t l c) ρ) v ups r):dR P cfg cx H D w I O nid o a v ups:=by
 simp only [eP] at h;obtain ⟨tt,e,ti,h1,h2,h3,h4⟩:=h.mQ;split at h4
 ·rename_i k n en;rw [en] at hx;have hlv:=hx.fP;obtain ⟨hsame,h5⟩:=h4.bM;obtain ⟨hb0,h6⟩:=h5.bM;obtain ⟨hz,h7⟩:=h6.bM;obtain ⟨⟨hn0,hbig⟩,h8⟩:=h7.x9;obtain ⟨rfl,rfl⟩:=h8.jy;have hcl:c=l:=by have:=Mk hsame; simpa using this.symm
  subst hcl;have hb0:0<ti.bytes:=by simpa using hb0
  obtain ⟨z0,z1⟩:=FH hz;obtain ⟨hu,i,z,hi,hiz,hs,hby,hzs⟩:=hc.slice h1 h2 h3;obtain ⟨i',_,z',hi',_,hiz',_,_,_,_,hzl,hzm,_⟩:=(hc.ty e ti h3).ex;rw [hi] at hi'; cases hi';rw [hiz] at hiz'; cases hiz';obtain ⟨m,rfl⟩:=Int.eq_ofNat_of_zero_le hn0;have hbig':m*ti.bytes≤140737488355328:=by
   have:((m*ti.bytes:Nat):Int)≤((140737488355328:Nat):Int):=by simpa [big] using hbig
   exact_mod_cast this
  have hm47:m≤140737488355328:=Nat.le_trans (Nat.le_mul_of_pos_right _ hb0) hbig';have hw:IntKind.i64.wrap (m:Int)=m:=wrap_i64 ⟨by omega,by omega⟩;have hcells:FI w (fun b=>I b∨zl O [] b) ti.size m (fun _=>zeroOf ti) ((Array.range (m*ti.size)).map (fun k=>z.cells[k % z.cells.size]!)):=by
   refine ⟨by simp,fun j hj=>?_⟩;rw [CJ hz hzl];refine ⟨by rw [gq]; exact hzl,fun q hq=>?_⟩;rw [Ak z.cells m j q ti.size hzs hj hq];exact ⟨yg _ _ ti.size hzl hzm q hq,KI _ _ ti.size hzm q hq⟩
  have e2:((m:Int)).toNat=m:=by simp
  rw [e2];have hlen:=hcells.1;refine dR.PW (p:=⟨ti.size,m,some (w.heap.size,0,((Array.range (m*ti.size)).map (fun k=>z.cells[k % z.cells.size]!)).size)⟩) (c:=(Array.range (m*ti.size)).map (fun k=>z.cells[k % z.cells.size]!)) (e:=e) (x:=.slice (some ⟨w.heap.size,0,none⟩) m m) hR hn [] ?_ rfl (FI.obj (hR.freeze []).vF hcells rfl) ?_
  ·have hge:¬ ((m:Int)<0):=by omega
   have hb2:¬ ((ti.bytes:Int)*(m:Int) > 2 ^ 48):=acn hbig';have hroom:(askRoom (m*ti.bytes)).run P w=.ok () w:=by
    unfold askRoom;by_cases h:m*ti.bytes > roomBytes
    ·rw [if_pos h]; rfl
    ·rw [if_neg h]; rfl
   have hcond:(decide ((m:Int)<0)||decide ((ti.bytes:Int)*(m:Int) > 2 ^ 48)||decide ((m:Int)<0)||decide ((m:Int) > (m:Int)))=false:=by
    rw [decide_eq_false hge,decide_eq_false hb2,decide_eq_false (Int.lt_irrefl _)]; rfl
   clear h1 h2 h3 h4 h5 h6 h7 h8 hzm hR hc hcells hlen hbig;by_cases h0:m*ti.size=0
   ·have e0:∀f:Nat→Value,(Array.range (m*ti.size)).map f=#[]:=fun f=>Array.eq_empty_of_size_eq_zero (by simp [h0]);simp only [execOp,ho,hlv,Instr.makeSlice,Sem.run_bind,bO hu,Result.andThen,asInt,asIntOf,Sem.run_pure,typeInfo,program,Sem.run,hi,hw,hby,Int.toNat_natCast,hcond,Bool.false_eq_true,if_false,hroom,eF hi,hs,if_pos h0,e0,newRow,newObj];rfl
   ·simp only [execOp,ho,hlv,Instr.makeSlice,Sem.run_bind,bO hu,Result.andThen,asInt,asIntOf,Sem.run_pure,typeInfo,program,Sem.run,hi,hw,hby,Int.toNat_natCast,hcond,Bool.false_eq_true,if_false,hroom,eF hi,hs,if_neg h0,zeroValue,hiz,newRow,newObj];rfl
  ·intro I' O' D' hO;refine .dh hO (by simp) (Nat.le_refl _) (fun _=>rfl) (fun _=>⟨_,_,_,rfl,by simp,?_⟩) (by simp);simp
 ·exact (dQ.aR h4).elim
end
end Go.Ab



namespace Go.Ab
section
variable {P:Program} {cfg:rU} {cx:Ctx} {H:Nat→Option cB} {D:Nat→Prop} {w:World} {I:Nat→Prop} {O:OM} {Sp:kY}
variable {nid:Nat} {o:Oper} {a:Act} {ρ:Operand→AV} {v:AV} {ups:jh} {r:List Nat}
theorem Rel.CK {w':World} (h:w'.heap=w.heap) (he:eZ w' w) (hR:Rel cfg cx H D w I O):Rel cfg cx H D w' I O:=
 { hR with
  objs:=fun o ob p h1 h2=>(hR.objs o ob p h1 h2).mono (fun _ h=>h) (fun _ _=>by rw [h]) (fun _ _=>.inl rfl) (fun _ h=>h) hR.used (fun _ _ _ _=>by rw [h])
  lt:=fun o p b bo sz h1 h2=>by rw [h]; exact hR.lt o p b bo sz h1 h2
  vF:=fun b hb=>by rw [h]; exact hR.vF b hb
  size:=by rw [h]; exact hR.size
  frame:=fun b h1 h2=>by rw [h]; exact hR.frame b h1 h2
  env:=hR.env.step he
  glob:=fun g cs hg=>(hR.glob g cs hg).mono (fun _ h=>h) (fun _ _=>by rw [h]) }
theorem Rep.CK {w':World} (h:w'.heap=w.heap) (hR:Rel cfg cx H D w I O) {v:AV} {x:Value} (hx:Rep w I O D v x):Rep w' I O D v x:=
 hx.mono (fun _ h=>h) (fun _ _=>by rw [h]) (fun _ _=>.inl rfl) (fun _ h=>h) hR.used
theorem Rel.drop (hR:Rel cfg cx H D w I O) (ids:List Nat):Rel cfg cx (jQ H (dead ids)) D w I (kill O ids):=by
 have hF:=hR.freeze ids;exact { hF with
  objs:=fun o ob p h h'=>by
   rw [A9] at h; unfold kill at h'
   by_cases h0:o∈ids<;>simp [h0] at h h'
   exact (hR.objs o ob p h h').mono (fun _ h=>h) (fun _ _=>rfl) (fun o _=>by unfold kill; by_cases h0:o∈ids<;>simp [h0]) (fun _ h=>h) hR.used (fun _ _ _ _=>rfl)
  lZ:=fun o p b bo sz h1 h2 h3=>hF.lZ o p b bo sz h1 h2 (.inl h3)
  vF:=hR.vF
  glob:=hR.glob
  KE:=hR.KE
  NC:=hR.NC }
theorem Rep.drop (hR:Rel cfg cx H D w I O) (ids:List Nat) {v:AV} {x:Value} (h:Rep w I O D v x):Rep w I (Ab.kill O ids) D v x:=
 h.mono (fun _ h=>h) (fun _ _=>rfl) (fun o _=>by unfold Ab.kill; by_cases h0:o∈ids<;>simp [h0]) (fun _ h=>h) hR.used
theorem Rel.place (hR:Rel cfg cx H D w I O) (hn:¬ D nid) {w':World} (he:eZ w' w) {b bo sz:Nat} (ob:cB) (p:Own) (hp:p.pl=some (b,bo,sz)) (hb:∀b',b'≠b→w'.heap[b']? = w.heap[b']?) (hs:w'.heap.size=w.heap.size)
  (hlt:b<w.heap.size) (hnew:cx.w0.heap.size≤b∨cx.M b) (hnI:¬ I b) (hfree:∀o p b' bo' sz',O o=some p→p.pl=some (b',bo',sz')→b'≠b)
  (hob:fM w' I (setO O nid p) (xY D nid) p ob) (hnm:∀kd z f,ob≠.map kd z f:=by intro _ _ _ h; cases h):Rel cfg cx (jQ H [(nid,some ob)]) (xY D nid) w' I (setO O nid p):=by
 have hH:∀o,jQ H [(nid,some ob)] o=if o=nid then some ob else H o:=by
  intro o;simp only [jQ,look];cases hb:Nat.beq nid o with
  | true=>have:=Nat.eq_of_beq_eq_true hb; subst this; simp
  | false=>
   have:o≠nid:=fun e=>by subst e; simp at hb
   simp [this]
 have old:∀ {o p'},o≠nid→setO O nid p o=some p'→O o=some p':=fun hne h=>by unfold setO at h; rwa [if_neg hne] at h
 have hIb:∀b',I b'→w'.heap[b']? = w.heap[b']? := fun b' h=>hb b' (fun e=>hnI (e ▸ h));exact {
  maps:=fun o kd z f p1 b1 bo1 sz1 h h1 h2=>by
   by_cases e1:o=nid
   ·rw [hH,if_pos e1] at h
    exact absurd (Option.some.inj h) (hnm kd z f)
   ·rw [hH,if_neg e1] at h
    exact hR.maps o kd z f p1 b1 bo1 sz1 h (old e1 h1) h2
  dom:=fun o=>by
   rw [hH]; unfold setO
   by_cases h:o=nid
   ·simp [h]
   ·simp [h,hR.dom o]
  used:=fun o p' h=>by
   by_cases hne:o=nid
   ·exact Mi hne
   ·exact .inl (hR.used o p' (old hne h))
  objs:=fun o ob' p' h h'=>by
   by_cases hne:o=nid
   ·subst hne
    rw [hH,if_pos rfl] at h
    unfold setO at h'
    rw [if_pos rfl] at h'
    cases h; cases h'
    exact hob
   ·rw [hH,if_neg hne] at h
    have h'':=old hne h'
    exact (hR.objs o ob' p' h h'').mono (fun _ h=>h) hIb (fun _ ho=>.inl (FE hn ho)) (fun _ h=>.inl h) hR.used (fun b' bo' sz' hpl=>hb b' (hfree o p' b' bo' sz' h'' hpl))
  inj:=fun o o' p1 p2 b1 bo1 sz1 b2 bo2 sz2 h1 h2 h3 h4 h5=>by
   by_cases e1:o=nid
   ·by_cases e2:o'=nid
    ·exact absurd (e1.trans e2.symm) h5
    ·unfold setO at h1
     rw [if_pos e1] at h1
     cases h1
     rw [hp] at h3
     cases h3
     exact fun e=>hfree o' p2 b2 bo2 sz2 (old e2 h2) h4 e.symm
   ·by_cases e2:o'=nid
    ·unfold setO at h2
     rw [if_pos e2] at h2
     cases h2
     rw [hp] at h4
     cases h4
     exact hfree o p1 b1 bo1 sz1 (old e1 h1) h3
    ·exact hR.inj o o' p1 p2 b1 bo1 sz1 b2 bo2 sz2 (old e1 h1) (old e2 h2) h3 h4 h5
  lZ:=fun o p1 b1 bo1 sz1 h1 h2 h3=>by
   by_cases e1:o=nid
   ·unfold setO at h1
    rw [if_pos e1] at h1
    cases h1
    rw [hp] at h2
    cases h2
    exact hnI h3
   ·exact hR.lZ o p1 b1 bo1 sz1 (old e1 h1) h2 h3
  lt:=fun o p1 b1 bo1 sz1 h1 h2=>by
   by_cases e1:o=nid
   ·unfold setO at h1
    rw [if_pos e1] at h1
    cases h1
    rw [hp] at h2
    cases h2
    omega
   ·have:=hR.lt o p1 b1 bo1 sz1 (old e1 h1) h2
    omega
  vF:=fun b' h=>by rw [hs]; exact hR.vF b' h
  size:=by rw [hs]; exact hR.size
  env:=hR.env.step he
  frame:=fun b' h1 h2=>by
   rw [hb b' (fun e=>by subst e; rcases hnew with h | h; omega; exact h2 h)]
   exact hR.frame b' h1 h2
  new:=fun o p1 b1 bo1 sz1 h1 h2=>by
   by_cases e1:o=nid
   ·unfold setO at h1
    rw [if_pos e1] at h1
    cases h1
    rw [hp] at h2
    cases h2
    exact hnew
   ·exact hR.new o p1 b1 bo1 sz1 (old e1 h1) h2
  glob:=fun g cs h=>(hR.glob g cs h).mono (fun _ h=>h) hIb
  KE:=hR.KE
  NC:=hR.NC
  PN:=fun o h=>by
   have hne:o≠nid:=fun e=>hn (e ▸ hR.Dm o h)
   unfold setO
   rw [if_neg hne]
   exact hR.PN o h
  Dm:=fun o h=>.inl (hR.Dm o h) }
theorem Rep.place (hR:Rel cfg cx H D w I O) (hn:¬ D nid) {w':World} {p:Own} (hb:∀b',I b'→w'.heap[b']? = w.heap[b']?) {v:AV} {x:Value} (h:Rep w I O D v x):Rep w' I (setO O nid p) (xY D nid) v x:=
 h.mono (fun _ h=>h) hb (fun _ ho=>.inl (FE hn ho)) (fun _ h=>.inl h) hR.used
theorem Rel.empty (hR:Rel cfg cx H D w I O) (hn:¬ D nid) (es:Nat) (g:Nat→AV):Rel cfg cx (jQ H [(nid,some (.row es 0 g))]) (xY D nid) w I (setO O nid ⟨es,0,none⟩):=by
 have hH:∀o,jQ H [(nid,some (.row es 0 g))] o=if o=nid then some (.row es 0 g) else H o:=by
  intro o;simp only [jQ,look];cases hb:Nat.beq nid o with
  | true=>have:=Nat.eq_of_beq_eq_true hb; subst this; simp
  | false=>
   have:o≠nid:=fun e=>by subst e; simp at hb
   simp [this]
 have old:∀ {o p' b bo sz},setO O nid ⟨es,0,none⟩ o=some p'→p'.pl=some (b,bo,sz)→O o=some p':=fun h h'=>by
  unfold setO at h;split at h
  ·cases h; cases h'
  ·exact h
 exact {
  maps:=fun o kd z f p1 b1 bo1 sz1 h h1 h2=>by
   by_cases e1:o=nid
   ·rw [hH,if_pos e1] at h
    cases h
   ·rw [hH,if_neg e1] at h
    exact hR.maps o kd z f p1 b1 bo1 sz1 h (old h1 h2) h2
  dom:=fun o=>by
   rw [hH]; unfold setO
   by_cases h:o=nid
   ·simp [h]
   ·simp [h,hR.dom o]
  used:=fun o p' h=>by
   by_cases hne:o=nid
   ·exact Mi hne
   ·unfold setO at h
    rw [if_neg hne] at h
    exact .inl (hR.used o p' h)
  objs:=fun o ob' p' h h'=>by
   by_cases hne:o=nid
   ·subst hne
    rw [hH,if_pos rfl] at h
    unfold setO at h'
    rw [if_pos rfl] at h'
    cases h; cases h'
    exact ⟨rfl,rfl,fun i hi=>absurd hi om,.inl ⟨rfl,rfl⟩⟩
   ·rw [hH,if_neg hne] at h
    unfold setO at h'
    rw [if_neg hne] at h'
    exact (hR.objs o ob' p' h h').mono (fun _ h=>h) (fun _ _=>rfl) (fun _ ho=>.inl (FE hn ho)) (fun _ h=>.inl h) hR.used (fun _ _ _ _=>rfl)
  inj:=fun o o' p1 p2 b1 bo1 sz1 b2 bo2 sz2 h1 h2 h3 h4 h5=>hR.inj o o' p1 p2 b1 bo1 sz1 b2 bo2 sz2 (old h1 h3) (old h2 h4) h3 h4 h5
  lZ:=fun o p1 b1 bo1 sz1 h1 h2 h3=>hR.lZ o p1 b1 bo1 sz1 (old h1 h2) h2 h3
  lt:=fun o p1 b1 bo1 sz1 h1 h2=>hR.lt o p1 b1 bo1 sz1 (old h1 h2) h2
  vF:=hR.vF
  size:=hR.size
  frame:=hR.frame
  env:=hR.env
  new:=fun o p1 b1 bo1 sz1 h1 h2=>hR.new o p1 b1 bo1 sz1 (old h1 h2) h2
  glob:=hR.glob
  KE:=hR.KE
  NC:=hR.NC
  PN:=fun o h=>by
   have hne:o≠nid:=fun e=>hn (e ▸ hR.Dm o h)
   unfold setO
   rw [if_neg hne]
   exact hR.PN o h
  Dm:=fun o h=>.inl (hR.Dm o h) }
theorem Rel.aay (hR:Rel cfg cx H D w I O) {w':World} (he:A8 cx w') {ob b bo sz:Nat} {p:Own} (x:cB) (ho:O ob=some p) (hp:p.pl=some (b,bo,sz)) (hb:∀b',b'≠b→w'.heap[b']? = w.heap[b']?) (hs:w'.heap.size=w.heap.size)
  (hob:fM w' I O D p x) (hnm:∀kd z f,x=.map kd z f→cx.w0.heap.size≤b∧∀o,¬ cx.K b o):Rel cfg cx (jQ H [(ob,some x)]) D w' I O:=by
 have hnI:=hR.lZ ob p b bo sz ho hp;have hIb:∀b',I b'→w'.heap[b']? = w.heap[b']? := fun b' h=>hb b' (fun e=>hnI (e ▸ h));have hH:∀o,jQ H [(ob,some x)] o=if o=ob then some x else H o:=by
  intro o;simp only [jQ,look];cases hb:Nat.beq ob o with
  | true=>have:=Nat.eq_of_beq_eq_true hb; subst this; simp
  | false=>
   have:o≠ob:=fun e=>by subst e; simp at hb
   simp [this]
 exact { hR with
  maps:=fun o kd z f p1 b1 bo1 sz1 h h1 h2=>by
   by_cases e1:o=ob
   ·rw [hH,if_pos e1] at h
    rw [e1,ho] at h1
    cases h1
    rw [hp] at h2
    cases h2
    exact hnm kd z f (Option.some.inj h)
   ·rw [hH,if_neg e1] at h
    exact hR.maps o kd z f p1 b1 bo1 sz1 h h1 h2
  dom:=fun o=>by
   rw [hH]
   by_cases h:o=ob
   ·subst h; simp [ho]
   ·simp [h,hR.dom o]
  objs:=fun o ob' p' h h'=>by
   by_cases hne:o=ob
   ·subst hne
    rw [hH,if_pos rfl] at h
    rw [ho] at h'
    cases h; cases h'
    exact hob
   ·rw [hH,if_neg hne] at h
    exact (hR.objs o ob' p' h h').mono (fun _ h=>h) hIb (fun _ _=>.inl rfl) (fun _ h=>h) hR.used (fun b' bo' sz' hpl=>hb b' (hR.inj o ob p' p b' bo' sz' b bo sz h' ho hpl hp hne))
  lt:=fun o p1 b1 bo1 sz1 h1 h2=>by rw [hs]; exact hR.lt o p1 b1 bo1 sz1 h1 h2
  vF:=fun b' h=>by rw [hs]; exact hR.vF b' h
  size:=by rw [hs]; exact hR.size
  env:=he
  frame:=fun b' h1 h2=>by
   rw [hb b' (fun e=>by subst e; rcases hR.new ob p b' bo sz ho hp with h | h; omega; exact h2 h)]
   exact hR.frame b' h1 h2
  glob:=fun g cs h=>(hR.glob g cs h).mono (fun _ h=>h) hIb }
theorem Rel.write (hR:Rel cfg cx H D w I O) {w':World} (he:eZ w' w) {ob b bo sz:Nat} {p:Own} (x:cB) (ho:O ob=some p) (hp:p.pl=some (b,bo,sz)) (hb:∀b',b'≠b→w'.heap[b']? = w.heap[b']?) (hs:w'.heap.size=w.heap.size)
  (hob:fM w' I O D p x) (hnm:∀kd z f,x≠.map kd z f:=by intro _ _ _ h; cases h):Rel cfg cx (jQ H [(ob,some x)]) D w' I O:=
 hR.aay (hR.env.step he) x ho hp hb hs hob fun kd z f h=>absurd h (hnm kd z f)
theorem eZ.setCell (w:World) (a:Addr) (v:Value):eZ (w.setCell a v) w:=⟨rfl,rfl,rfl,fun i o hi ho=>by
 unfold World.setCell;simp only [Array.getElem?_modify];split
 ·rw [hi];cases o with
  | cells c t f=>cases ho
  | _=>rfl
 ·exact hi⟩
theorem lG (b:Nat):∀(vs:List Value) (off:Nat) (w:World),eZ (w.setCells b off vs) w
 | [],_,w=>eZ.refl w
 | v::r,off,w=>(lG b r (off+1) (w.setCell ⟨b,off,none⟩ v)).trans (eZ.setCell w _ v)
theorem ku (b:Nat):∀(vs:List Value) (off:Nat) (w:World),(w.setCells b off vs).heap.size=w.heap.size∧∀b',b'≠b→(w.setCells b off vs).heap[b']? = w.heap[b']?
 | [],_,_=>⟨rfl,fun _ _=>rfl⟩
 | v::r,off,w=>by
  obtain ⟨h1,h2⟩:=ku b r (off+1) (w.setCell ⟨b,off,none⟩ v);have e1:(w.setCell ⟨b,off,none⟩ v).heap.size=w.heap.size:=by simp [World.setCell]
  refine ⟨by rw [World.setCells,h1,e1],fun b' hb=>?_⟩;rw [World.setCells,h2 b' hb];simp [World.setCell,Array.getElem?_modify,Ne.symm hb]
theorem DK (b:Nat):∀(vs:List Value) (off:Nat) (w:World) (j:Nat),(w.setCells b off vs).frozen? ⟨b,j,none⟩=w.frozen? ⟨b,j,none⟩
 | [],_,_,_=>rfl
 | v::r,off,w,j=>by
  rw [World.setCells,DK b r (off+1) _ j];unfold World.frozen? World.setCell;simp only [Array.getElem?_modify];cases hb:w.heap[b]? with
  | none=>simp
  | some ob=>cases ob<;>simp
theorem kM {b sz:Nat} (h:Fy w b sz) (off:Nat) (vs:List Value) (hle:off+vs.length≤sz):Fy (w.setCells b off vs) b sz∧
  ∀j,j<sz→cellAt (w.setCells b off vs) b j=if off≤j∧j<off+vs.length then vs.getD (j - off) Go.undef else cellAt w b j:=by
 have hin:=World.cell?_setCells_in b vs off w (fun j hj=>(h (off+j) om).1);have key:∀j,j<sz→(w.setCells b off vs).cell? ⟨b,j,none⟩=some (if off≤j∧j<off+vs.length then vs.getD (j - off) Go.undef else cellAt w b j):=by
  intro j hj;by_cases hc:off≤j∧j<off+vs.length
  ·rw [if_pos hc];have:=hin (j - off) om;rw [show off+(j - off)=j by omega] at this;rw [this];simp [show j - off<vs.length by omega]
  ·rw [if_neg hc,World.cell?_setCells_out b vs off w ⟨b,j,none⟩ (fun _ _=>by simp; omega)];exact qb h hj
 refine ⟨fun j hj=>⟨by rw [key j hj]; rfl,by rw [DK]; exact (h j hj).2⟩,fun j hj=>by rw [cellAt,key j hj]; rfl⟩
end
end Go.Ab

namespace Go.Ab
section
variable {P:Program} {cfg:rU} {cx:Ctx} {H:Nat→Option cB} {D:Nat→Prop} {w:World} {I:Nat→Prop} {O:OM} {Sp:kY}
variable {nid:Nat} {o:Oper} {a:Act} {ρ:Operand→AV} {v:AV} {ups:jh} {r:List Nat}
theorem run_store {t:TypeId} {i:TypeInfo} (hi:P.info? t=some i) {b off sz:Nat} (hal:Fy w b sz) (x:Value) (hs:x.cells.size=i.size) (hle:off+x.cells.size≤sz) (h1:∀j,j<x.cells.size→(x.cells.getD j Go.undef).oneCell'=true):
  (Instr.storeAt t (.pointer (some ⟨b,off,none⟩)) x).run P w=.ok () (w.setCells b off x.cells.toList):=by
 have:=run_storeCells_cells (P:=P) b off x.cells.toList 0 w (fun j hj=>(hal (off+0+j) (by simp at hj; omega)).1) (fun j hj=>(hal (off+0+j) (by simp at hj; omega)).2)
  (fun u hu=>by
    obtain ⟨j,hj,rfl⟩:=List.mem_iff_getElem.1 hu
    have hj':j<x.cells.size:=by simpa using hj
    simpa [hj'] using h1 j hj')
 rw [Nat.add_zero] at this;have hne:¬ x.cells.size≠i.size:=by omega
 simp only [Instr.storeAt,Instr.sureAddr,Sem.run_bind,Sem.run_pure,Result.andThen,storeVar,eF hi,if_neg hne,this]
theorem KJ {w':World} {next:Act→World→Prop} {Q:Exit→Act→World→Prop} (h:(execOp a.eval o).run P w=.ok .skip w') (hn:next (a.put o.dst Go.undef) w'):o.wp P a w next Q:=by
 unfold Oper.wp; rw [h]; exact hn
theorem sO {x:Nat} {l:List Nat} (h:wK x l=false):x ∉ l:=by
 induction l with
 | nil=>simp
 | cons b l ih=>
  unfold wK at h;cases hb:Nat.beq x b with
  | true=>simp [hb] at h
  | false=>
   simp only [hb] at h;have hne:x≠b:=fun e=>by subst e; simp at hb
   simp [hne,ih h]
theorem aaz (hc:fq P cfg) (hR:Rel cfg cx H D w I O) {t:TypeId} {x y:Operand} (ho:o.op=.store t x y) (hx:Rep w I O D (ρ x) (a.eval x)) (hy:Rep w I O D (ρ y) (a.eval y))
  (h:dQ Sp H (eP cfg nid (.store t x y) ρ) v ups r):dR P cfg cx H D w I O nid o a v ups:=by
 simp only [eP] at h;obtain ⟨ti,ht,h1⟩:=h.jR;obtain ⟨i,d,hi,hu,hd,hs⟩:=hc.agg ht;split at h1
 ·rename_i ob k off e;rw [e] at hx;obtain ⟨obj,_,hob,h2⟩:=h1.kK;obtain ⟨p,hp,hO⟩:=hR.live hob;obtain ⟨b,bo,sz,hpl,hk,hxv⟩:=hx.lF hp;cases obj with
  | map=>exact (dQ.aR h2).elim
  | box cs=>
   obtain ⟨hn,b',bo',sz',hpl',hal,hle,hcs⟩:=hO;rw [hpl] at hpl';cases hpl';have hk0:k=0:=by omega
   subst hk0;obtain ⟨hok,h3⟩:=h2.xL;obtain ⟨hsz,h4⟩:=h3.bM;obtain ⟨hin,h5⟩:=h4.bM;obtain ⟨rfl,rfl⟩:=h5.jy;have hsz:(ρ y).cells.length=ti.size:=Nat.eq_of_beq_eq_true hsz;have hin:off+(ρ y).cells.length≤cs.length:=Nat.le_of_ble_eq_true hin;obtain ⟨hcl,hcc⟩:=hy.cells hok;have hrun:=run_store (P:=P) hi hal (a.eval y) (off:=bo+off) om om (fun j hj=>(hcc j om).2);obtain ⟨hal',hcell⟩:=kM hal (bo+off) (a.eval y).cells.toList (by simp; omega);obtain ⟨hh1,hh2⟩:=ku b (a.eval y).cells.toList (bo+off) w;have hIb:∀b',I b'→(w.setCells b (bo+off) (a.eval y).cells.toList).heap[b']? = w.heap[b']? := fun b' hb=>hh2 b' (fun e=>hR.lZ ob p b bo sz hp hpl (e ▸ hb));have keep:∀u z,Rep w I O D u z→Rep (w.setCells b (bo+off) (a.eval y).cells.toList) I O D u z:=fun u z hu=>hu.mono (fun _ h=>h) hIb (fun _ _=>.inl rfl) (fun _ h=>h) hR.used;have hRel:=hR.write (lG _ _ _ _) (.box (AY off (ρ y).cells cs)) hp hpl hh2 hh1 (by
    refine ⟨hn,b,bo,sz,hpl,hal',by rw [uF]; exact hle,fun j hj=>?_⟩
    rw [uF] at hj
    rw [PY _ _ _ hin,hcell (bo+j) om]
    by_cases hc1:off≤j∧j<off+(ρ y).cells.length
    ·rw [if_pos hc1,if_pos (by simp; omega)]
     have:=keep _ _ (hcc (j - off) om).1
     have e2:bo+j - (bo+off)=j - off:=by omega
     rw [e2]
     have hlt:j - off<(a.eval y).cells.size:=by omega
     simpa [hlt] using this
    ·rw [if_neg hc1,if_neg (by simp; omega)]
     exact keep _ _ (hcs j hj))
   intro next Q hnx
   refine KJ (w':=w.setCells b (bo+off) (a.eval y).cells.toList) ?_ (hnx Go.undef _ I O (hRel.rP nid) (fun u z hu=>(keep u z hu).rP hRel nid) (.pure (.undef _)));simp only [Nat.zero_mul,Nat.zero_add] at hxv;simp only [execOp,ho,hxv,Sem.run_bind,hrun,Result.andThen,Sem.run_pure]
  | row es n g=>
   simp only at h2;split at h2
   ·obtain ⟨x',ids,_,h3,hpur⟩:=(Ba hR fuel).1 _ _ _ _ _ h2;obtain ⟨hmem,h4⟩:=h3.bM;have hmem:ob ∉ ids:=sO (by simpa using hmem);obtain ⟨hok,h5⟩:=h4.xL;obtain ⟨hsz,h6⟩:=h5.bM;obtain ⟨c1,h7⟩:=h6.bM;obtain ⟨c2,h8⟩:=h7.bM;obtain ⟨c3,h9⟩:=h8.bM;obtain ⟨rfl,rfl⟩:=h9.jy;obtain ⟨rfl,rfl⟩:=O5 c3;have hsz:x'.cells.length=ti.size:=Nat.eq_of_beq_eq_true hsz;have c1:es=1:=Nat.eq_of_beq_eq_true c1;have c2:n=ti.size:=Nat.eq_of_beq_eq_true c2;subst c1;have hyp:=hpur _ hy;have hR1:=hR.freeze ids;have hp1:kill O ids ob=some p:=by unfold kill; rw [if_neg hmem]; exact hp
    have hyr:Rep w (fun b=>I b∨zl O ids b) (kill O ids) D x' (a.eval y):=.pure hyp;obtain ⟨hcl,hcc⟩:=hyr.cells hok;have hcp:∀j,j<x'.cells.length→PRep w (fun b=>I b∨zl O ids b) (nth x'.cells j) ((a.eval y).cells.getD j Go.undef):=by
     have hyr':Rep w (fun b=>I b∨zl O ids b) (fun _=>none) (fun _=>False) x' (a.eval y):=.pure hyp;exact fun j hj=>zB ((hyr'.cells hok).2 j hj).1
    obtain ⟨hn,hes,hlen,hpl' | ⟨b',bo',sz',hpl',hal,hle,hcs⟩⟩:=hO
    ·rw [hpl] at hpl'; cases hpl'.2
    rw [hpl] at hpl';cases hpl';simp only [Nat.zero_mul,Nat.add_zero] at hxv;have hrun:=run_store (P:=P) hi hal (a.eval y) (off:=bo) om om (fun j hj=>(hcc j om).2);obtain ⟨hal',hcell⟩:=kM hal bo (a.eval y).cells.toList (by simp; omega);obtain ⟨hh1,hh2⟩:=ku b (a.eval y).cells.toList bo w;have hIb:∀b',(fun b=>I b∨zl O ids b) b'→(w.setCells b bo (a.eval y).cells.toList).heap[b']? = w.heap[b']? := fun b' hb=>hh2 b' (fun e=>hR1.lZ ob p b bo sz hp1 hpl (e ▸ hb));have keep:∀u z,Rep w (fun b=>I b∨zl O ids b) (kill O ids) D u z→Rep (w.setCells b bo (a.eval y).cells.toList) (fun b=>I b∨zl O ids b) (kill O ids) D u z:=fun u z hu=>hu.mono (fun _ h=>h) hIb (fun _ _=>.inl rfl) (fun _ h=>h) hR1.used;have pkeep:∀u z,PRep w (fun b=>I b∨zl O ids b) u z→PRep (w.setCells b bo (a.eval y).cells.toList) (fun b=>I b∨zl O ids b) u z:=fun u z hu=>hu.mono (fun _ h=>h) hIb;have hone:∀q,q<n→(nth x'.cells q).cells=[nth x'.cells q]:=fun q hq=>by
     have:=NG hok q om;cases hv:nth x'.cells q with
     | agg cs=>rw [hv] at this; cases this
     | _=>rfl
    have hRel:=hR1.write (lG _ _ _ _) (.row 1 n (Ny x'.cells)) hp1 hpl hh2 hh1 (by
     refine ⟨hn,hes,fun q hq=>by show (nth x'.cells q).cells.length=1; rw [hone q hq]; rfl,.inr ⟨b,bo,sz,hpl,hal',hle,fun q j hq hj=>?_⟩⟩
     have hj0:j=0:=by omega
     subst hj0
     simp only [Nat.mul_one,Nat.add_zero]
     rw [hcell (bo+q) om,if_pos (by simp; omega)]
     have e2:bo+q - bo=q:=by omega
     rw [e2]
     have hlt:q<(a.eval y).cells.size:=by omega
     show PRep _ _ (nth (nth x'.cells q).cells 0) _∧_
     rw [hone q hq]
     have:=pkeep _ _ (hcp q om)
     exact ⟨by simpa [hlt,nth] using this,by simpa [hlt] using (hcc q om).2⟩)
    intro next Q hnx
    refine KJ (w':=w.setCells b bo (a.eval y).cells.toList) ?_ (hnx Go.undef _ _ _ (by rw [xO]; exact hRel.rP nid) (fun u z hu=>(keep u z (hu.kill hR ids)).rP hRel nid) (.pure (.undef _)));simp only [execOp,ho,hxv,Sem.run_bind,hrun,Result.andThen,Sem.run_pure]
   obtain ⟨x',ids,_,h3,hpur⟩:=(Ba hR fuel).1 _ _ _ _ _ h2;obtain ⟨hmem,h4⟩:=h3.bM;have hmem:ob ∉ ids:=sO (by simpa using hmem);obtain ⟨hok,h5⟩:=h4.xL;obtain ⟨hsz,h6⟩:=h5.bM;obtain ⟨hpos,h7⟩:=h6.bM;obtain ⟨hin,h8⟩:=h7.bM;obtain ⟨rfl,rfl⟩:=h8.jy;have hsz:x'.cells.length=ti.size:=Nat.eq_of_beq_eq_true hsz;have hpos:0<ti.size:=by simpa using hpos
   have hin:off+x'.cells.length≤es:=Nat.le_of_ble_eq_true hin;have hyp:=hpur _ hy;have hR1:=hR.freeze ids;have hp1:kill O ids ob=some p:=by unfold kill; rw [if_neg hmem]; exact hp
   have hyr:Rep w (fun b=>I b∨zl O ids b) (kill O ids) D x' (a.eval y):=.pure hyp;obtain ⟨hcl,hcc⟩:=hyr.cells hok;have hcp:∀j,j<x'.cells.length→PRep w (fun b=>I b∨zl O ids b) (nth x'.cells j) ((a.eval y).cells.getD j Go.undef):=by
    have hyr':Rep w (fun b=>I b∨zl O ids b) (fun _=>none) (fun _=>False) x' (a.eval y):=.pure hyp;exact fun j hj=>zB ((hyr'.cells hok).2 j hj).1
   obtain ⟨hn,hes,hlen,hpl' | ⟨b',bo',sz',hpl',hal,hle,hcs⟩⟩:=hO
   ·rw [hpl] at hpl'; cases hpl'.2
   rw [hpl] at hpl';cases hpl';rw [hes] at hxv;have hkn:k<n:=by omega
   have hmul:(k+1)*es≤n*es:=Nat.mul_le_mul_right _ hkn;rw [Nat.succ_mul] at hmul;have hrun:=run_store (P:=P) hi hal (a.eval y) (off:=bo+(k*es+off)) om om (fun j hj=>(hcc j om).2);obtain ⟨hal',hcell⟩:=kM hal (bo+(k*es+off)) (a.eval y).cells.toList (by simp; omega);obtain ⟨hh1,hh2⟩:=ku b (a.eval y).cells.toList (bo+(k*es+off)) w;have hIb:∀b',(fun b=>I b∨zl O ids b) b'→(w.setCells b (bo+(k*es+off)) (a.eval y).cells.toList).heap[b']? = w.heap[b']? := fun b' hb=>hh2 b' (fun e=>hR1.lZ ob p b bo sz hp1 hpl (e ▸ hb));have keep:∀u z,Rep w (fun b=>I b∨zl O ids b) (kill O ids) D u z→Rep (w.setCells b (bo+(k*es+off)) (a.eval y).cells.toList) (fun b=>I b∨zl O ids b) (kill O ids) D u z:=fun u z hu=>hu.mono (fun _ h=>h) hIb (fun _ _=>.inl rfl) (fun _ h=>h) hR1.used;have pkeep:∀u z,PRep w (fun b=>I b∨zl O ids b) u z→PRep (w.setCells b (bo+(k*es+off)) (a.eval y).cells.toList) (fun b=>I b∨zl O ids b) u z:=fun u z hu=>hu.mono (fun _ h=>h) hIb;have hel:∀gk,gk=g k→(match gk with | .agg cs=>AV.agg (AY off x'.cells cs) | _=>x').cells.length=es∧
     ∀j,j<es→nth (match gk with | .agg cs=>AV.agg (AY off x'.cells cs) | _=>x').cells j=if off≤j∧j<off+x'.cells.length then nth x'.cells (j - off) else nth gk.cells j:=by
    intro gk hgk
    have hl:=hlen k hkn
    rw [← hgk] at hl
    have one:gk.cells=[gk]→x'.cells.length=es∧∀j,j<es→nth x'.cells j=if off≤j∧j<off+x'.cells.length then nth x'.cells (j - off) else nth gk.cells j:=by
     intro hc1
     rw [hc1] at hl
     simp at hl
     have:off=0:=by omega
     subst this
     exact ⟨by omega,fun j hj=>by rw [if_pos om]; rfl⟩
    cases gk with
    | agg cs=>
     simp only [AV.cells] at hl ⊢
     exact ⟨by rw [uF]; exact hl,fun j hj=>PY cs x'.cells off om j⟩
    | _=>exact one rfl
   have hel':∀q:Bool,q=(Tn off&&Nat.beq x'.cells.length es)→(match q with | true=>x' | false=>match g k with | .agg cs=>AV.agg (AY off x'.cells cs) | _=>x').cells.length=es∧
     ∀j,j<es→nth (match q with | true=>x' | false=>match g k with | .agg cs=>AV.agg (AY off x'.cells cs) | _=>x').cells j=if off≤j∧j<off+x'.cells.length then nth x'.cells (j - off) else nth (g k).cells j:=by
    intro q hq
    cases q with
    | false=>exact hel (g k) rfl
    | true=>
     simp only [eq_comm (a:=true),Bool.and_eq_true] at hq
     have h0:off=0:=by cases off with | zero=>rfl | succ n=>cases hq.1
     have hq1:=Nat.eq_of_beq_eq_true hq.2
     subst h0
     exact ⟨hq1,fun j hj=>by rw [if_pos om]; rfl⟩
   obtain ⟨hel1,hel2⟩:=hel' _ rfl;have hRel:=hR1.write (lG _ _ _ _) (.row es n (UC g k (match Tn off&&Nat.beq x'.cells.length es with | true=>x' | false=>match g k with | .agg cs=>.agg (AY off x'.cells cs) | _=>x'))) hp1 hpl hh2 hh1 (by
    refine ⟨hn,hes,fun j hj=>?_,.inr ⟨b,bo,sz,hpl,hal',hle,fun j q hj hq=>?_⟩⟩
    ·simp only [UC]
     cases hb:Nat.beq j k with
     | true=>simp only [cond_true]; exact hel1
     | false=>simp only [cond_false]; exact hlen j hj
    ·have hmj:(j+1)*es≤n*es:=Nat.mul_le_mul_right _ hj
     rw [Nat.succ_mul] at hmj
     rw [hcell (bo+(j*es+q)) om]
     simp only [UC]
     cases hb:Nat.beq j k with
     | true=>
      have hjk:=Nat.eq_of_beq_eq_true hb
      subst hjk
      simp only [cond_true]
      rw [hel2 q hq]
      by_cases hc1:off≤q∧q<off+x'.cells.length
      ·rw [if_pos hc1,if_pos (by simp; omega)]
       have e2:bo+(j*es+q) - (bo+(j*es+off))=q - off:=by omega
       rw [e2]
       have hlt:q - off<(a.eval y).cells.size:=by omega
       have:=pkeep _ _ (hcp (q - off) om)
       exact ⟨by simpa [hlt] using this,by simpa [hlt] using (hcc (q - off) om).2⟩
      ·rw [if_neg hc1,if_neg (by simp; omega)]
       exact ⟨pkeep _ _ ((hcs j q hj hq).1.mono (fun _ h=>.inl h) (fun _ _=>rfl)),(hcs j q hj hq).2⟩
     | false=>
      have hjk:j≠k:=fun e=>by subst e; simp at hb
      simp only [cond_false]
      have hne:¬ (bo+(k*es+off)≤bo+(j*es+q)∧bo+(j*es+q)<bo+(k*es+off)+(a.eval y).cells.toList.length):=by
       simp only [Array.length_toList]
       rcases Nat.lt_or_gt_of_ne hjk with hlt' | hgt
       ·have:(j+1)*es≤k*es:=Nat.mul_le_mul_right _ om
        rw [Nat.succ_mul] at this
        omega
       ·have:(k+1)*es≤j*es:=Nat.mul_le_mul_right _ om
        rw [Nat.succ_mul] at this
        omega
      rw [if_neg hne]
      exact ⟨pkeep _ _ ((hcs j q hj hq).1.mono (fun _ h=>.inl h) (fun _ _=>rfl)),(hcs j q hj hq).2⟩)
   intro next Q hnx
   refine KJ (w':=w.setCells b (bo+(k*es+off)) (a.eval y).cells.toList) ?_ (hnx Go.undef _ _ _ (by rw [xO]; exact hRel.rP nid) (fun u z hu=>(keep u z (hu.kill hR ids)).rP hRel nid) (.pure (.undef _)));simp only [execOp,ho,hxv,Sem.run_bind,hrun,Result.andThen,Sem.run_pure]
 ·exact (dQ.aR h1).elim
end
end Go.Ab

namespace Go.Ab
section
variable {P:Program} {cfg:rU} {cx:Ctx} {H:Nat→Option cB} {D:Nat→Prop} {w:World} {I:Nat→Prop} {O:OM} {Sp:kY}
variable {nid:Nat} {o:Oper} {a:Act} {ρ:Operand→AV} {v:AV} {ups:jh} {r:List Nat}
def Reads (P:Program) (w:World) (I:Nat→Prop) (size n:Nat) (g:Nat→AV) (x:Value):Prop:=
 ∃cells:Array Value,FI w I size n g cells∧∀w':World,w'.heap=w.heap→(Builtin.firstCells size n x).run P w'=.ok cells w'
theorem iU {size n:Nat} {g:Nat→AV} {aa:Option Addr} {n' cap:Nat} (b off:Nat) (vs:Nat→Nat→Value) (ha:n≠0→aa=some ⟨b,off,none⟩) (hes:∀i,i<n→(g i).cells.length=size)
  (hm:∀i j,i<n→j<size→w.cell? ⟨b,off+(i*size+j),none⟩=some (vs i j)) (h1:∀i j,i<n→j<size→(vs i j).oneCell'=true) (hr:∀i j,i<n→j<size→PRep w I (nth (g i).cells j) (vs i j)) (hs:0<size):
  Reads P w I size n g (.slice aa n' cap):=by
 refine ⟨((List.range (n*size)).map (fun k=>vs (k / size) (k % size))).toArray,⟨by simp,fun i hi=>⟨hes i hi,fun j hj=>?_⟩⟩,fun w' hw=>?_⟩
 ·have hlt:i*size+j<n*size:=by
   have:(i+1)*size≤n*size:=Nat.mul_le_mul_right _ hi;rw [Nat.succ_mul] at this;omega
  have e1:(i*size+j) / size=i:=by
   rw [Nat.mul_comm,Nat.mul_add_div hs,Nat.div_eq_of_lt hj,Nat.add_zero]
  have e2:(i*size+j) % size=j:=by
   rw [Nat.mul_comm,Nat.mul_add_mod];exact Nat.mod_eq_of_lt hj
  exact ⟨by simpa [hlt,e1,e2] using hr i j hi hj,by simpa [hlt,e1,e2] using h1 i j hi hj⟩
 ·by_cases hn:n=0
  ·subst hn;cases aa with
   | none=>simp [Builtin.firstCells]
   | some aa=>simp [Builtin.firstCells,loadCells,loadCellsFrom]
  ·rw [ha hn];simp only [Builtin.firstCells];have:=run_loadCells_list (P:=P) w' ⟨b,off,none⟩ ((List.range (n*size)).map (fun k=>vs (k / size) (k % size))) (fun k u hk=>by
    have hlt:k<n*size:=by
     rcases Nat.lt_or_ge k (n*size) with h | h
     ·exact h
     ·simp [h] at hk
    simp [hlt] at hk;rw [← hk,Addr.add_mid,gT (w:=w) (w':=w') (by rw [hw])];have h1:k / size<n:=(Nat.div_lt_iff_lt_mul hs).2 hlt;have h2:k % size<size:=Nat.mod_lt _ hs;have:=hm _ _ h1 h2;rwa [Nat.div_add_mod'] at this)
   simpa using this
theorem UZ {size es n:Nat} {full:Bool} {g:Nat→AV} {x:Value} (h:PRep w I (.sl es n full g) x) (he:JQ es n size=true) (hs:0<size):Reads P w I size n g x:=by
 cases h with
 | sl b off vs hcap hfull ha hes hm h11 hr=>
  by_cases hn:n=0
  ·subst hn;exact iU b off vs (fun h=>absurd rfl h) (fun i hi=>absurd hi om) (fun i j hi=>absurd hi om) (fun i j hi=>absurd hi om) (fun i j hi=>absurd hi om) hs
  ·have:=sN he hn;subst this;exact iU b off vs (fun h=>(ha h).1) hes hm h11 hr hs
theorem Mq {size m i n cap:Nat} {g:Nat→AV} {aa:Option Addr} {p:Own} {O':OM} {D':Nat→Prop} (hO:fM w I O' D' p (.row size m g)) (hi:i+n≤p.n) (hcap:n≤cap) (hs:0<size)
  (hpl:cap≠0→∃b bo sz,p.pl=some (b,bo,sz)∧aa=some ⟨b,bo+i*p.es,none⟩∧bo+(i+cap)*p.es≤sz):Reads P w I size n (mq i g) (.slice aa n cap):=by
 obtain ⟨hn,hes,hlen,hpl'⟩:=hO;by_cases h0:n=0
 ·subst h0;exact iU 0 0 (fun _ _=>Go.undef) (fun h=>absurd rfl h) (fun i hi=>absurd hi om) (fun i j hi=>absurd hi om) (fun i j hi=>absurd hi om) (fun i j hi=>absurd hi om) hs
 ·obtain ⟨b,bo,sz,h1,h2,h3⟩:=hpl om;rcases hpl' with ⟨_,h4⟩ | ⟨b',bo',sz',h4,hal,hle,hcs⟩
  ·rw [h1] at h4; cases h4
  ·rw [h1] at h4;cases h4;subst hn;refine iU b (bo+i*size) (fun k j=>cellAt w b (bo+((i+k)*size+j))) (fun _=>by rw [h2,hes]) (fun k hk=>by rw [xM]; exact hlen _ om) (fun k j hk hj=>?_) (fun k j hk hj=>(hcs (i+k) j om hj).2) (fun k j hk hj=>?_) hs
   ·have e:bo+i*size+(k*size+j)=bo+((i+k)*size+j):=by rw [Nat.add_mul]; omega
    rw [e];refine qb hal ?_;have:(i+k+1)*size≤p.n*size:=Nat.mul_le_mul_right _ om;rw [Nat.succ_mul] at this;omega
   ·rw [xM];exact (hcs (i+k) j om hj).1
theorem run_append_grow {t t' e e' ty:TypeId} {i:TypeInfo} {z:Value} (hu:P.underlying t=some (.slice e)) (hu':P.underlying t'=some (.slice e')) (hi:P.info? e=some i) (hz:i.zero=some z)
  {base base':Option Addr} {cap n m c:Nat} {olds news:Array Value} (ho:∀w':World,w'.heap=w.heap→(Builtin.firstCells i.size n (.slice base n cap)).run P w'=.ok olds w')
  (hn:∀w':World,w'.heap=w.heap→(Builtin.firstCells i.size m (.slice base' m c)).run P w'=.ok news w') (hcap:cap<n+m) (hb:(n+m)*i.bytes≤140737488355328) (hb0:0<i.bytes):
  ∃c' rest,n+m≤c'∧rest.size=(c' - (n+m))*z.cells.size∧(Builtin.append_ #[t,t'] ty #[.slice base n cap,.slice base' m c]).run P w=
   .ok (.slice (some ⟨w.heap.size,0,none⟩) (n+m) c') (w.drew.alloc (.cells (olds++news++rest) e)):=by
 refine ⟨grownCap w (n+m) cap e,Builtin.zeroCells z.cells (grownCap w (n+m) cap e - (n+m)),grownCap_ge _ _ _ _,size_zeroCells _ _,?_⟩;have hnm:n+m≤140737488355328:=Nat.le_trans (Nat.le_mul_of_pos_right _ hb0) hb;have h1:¬ n+m≤cap:=by omega
 have h63':¬ (9223372036854775807<((n:Int)+(m:Int))):=by omega
 have h48':¬ (281474976710656<Builtin.nextslicecap (n+m) cap*i.bytes):=by have:=growslice_fits hcap hb; omega
 have ho':=ho w.drew rfl;have hn':=hn w.drew rfl;simp [Builtin.append_,run_underlying hu,run_underlying hu',sizeOf,typeInfo,zeroValue,hi,hz,Builtin.lenOf,h1,h63',h48',Question.forced,ho',hn',newRow,grownCap]
theorem oK {t t' e e' ty:TypeId} {i:TypeInfo} (hu:P.underlying t=some (.slice e)) (hu':P.underlying t'=some (.slice e')) (hi:P.info? e=some i)
  {base base':Option Addr} {cap n m c:Nat} {news:Array Value} (hn:(Builtin.firstCells i.size m (.slice base' m c)).run P w=.ok news w) (hcap:n+m≤cap) {w':World}
  (hst:∀ad,base=some ad→(storeCells (ad.add (n*i.size)) news.toList).run P w=.ok () w') (hno:base=none→w'=w):
  (Builtin.append_ #[t,t'] ty #[.slice base n cap,.slice base' m c]).run P w=.ok (.slice base (n+m) cap) w':=by
 cases base with
 | none=>
  have:=hno rfl;subst this;simp [Builtin.append_,run_underlying hu,run_underlying hu',sizeOf,typeInfo,hi,Builtin.lenOf,hcap,hn]
 | some ad=>
  have:=hst ad rfl;simp [Builtin.append_,run_underlying hu,run_underlying hu',sizeOf,typeInfo,hi,Builtin.lenOf,hcap,hn,this]
end
end Go.Ab

namespace Go.Ab
section
variable {P:Program} {cfg:rU} {cx:Ctx} {H:Nat→Option cB} {D:Nat→Prop} {w:World} {I:Nat→Prop} {O:OM} {Sp:kY}
variable {nid:Nat} {o:Oper} {a:Act} {ρ:Operand→AV} {v:AV} {ups:jh} {r:List Nat}
theorem Ic {k n:Nat} (h:¬ k<n):Nat.blt k n=false:=by
 cases hb:Nat.blt k n with
 | false=>rfl
 | true=>exact absurd (by simpa using hb) h
theorem Mr {size n m:Nat} {g h:Nat→AV} {olds news rest:Array Value} (ho:FI w I size n g olds) (hn:FI w I size m h news):∀k,k<n+m→((appG n g h) k).cells.length=size∧
  ∀j,j<size→PRep w I (nth ((appG n g h) k).cells j) ((olds++news++rest).getD (k*size+j) Go.undef)∧((olds++news++rest).getD (k*size+j) Go.undef).oneCell'=true:=by
 intro k hk;obtain ⟨h1,h2⟩:=ho;obtain ⟨h3,h4⟩:=hn;by_cases hkn:k<n
 ·have e:appG n g h k=g k:=by
   have:Nat.blt k n=true:=by simpa using hkn
   simp [appG,this]
  rw [e];refine ⟨(h2 k hkn).1,fun j hj=>?_⟩;have hm:(k+1)*size≤n*size:=Nat.mul_le_mul_right _ hkn;rw [Nat.succ_mul] at hm;have e2:(olds++news++rest).getD (k*size+j) Go.undef=olds.getD (k*size+j) Go.undef:=by
   have hlt:k*size+j<olds.size:=by omega
   simp [Array.getElem?_append_left hlt]
  rw [e2];exact (h2 k hkn).2 j hj
 ·have e:appG n g h k=h (k - n):=by
   have:Nat.blt k n=false:=Ic hkn;simp [appG,this]
  rw [e];have hkm:k - n<m:=by omega
  refine ⟨(h4 _ hkm).1,fun j hj=>?_⟩;have hm:(k - n+1)*size≤m*size:=Nat.mul_le_mul_right _ hkm;rw [Nat.succ_mul] at hm;have hkk:k*size=n*size+(k - n)*size:=by rw [← Nat.add_mul]; congr 1; omega
  have e2:(olds++news++rest).getD (k*size+j) Go.undef=news.getD ((k - n)*size+j) Go.undef:=by
   have hge:olds.size≤k*size+j:=by omega
   have hlt2:(k - n)*size+j<news.size:=by omega
   have e3:k*size+j - olds.size=(k - n)*size+j:=by omega
   simp [Array.getElem?_append_right hge,e3,Array.getElem?_append_left hlt2]
  rw [e2];exact (h4 _ hkm).2 j hj
theorem dR.aco (hR:Rel cfg cx H D w I O) (hn:¬ D nid) {x:Value} {c:Array Value} {e:TypeId} {ob:cB} {p:Own} (ids:List Nat) {w1:World} (hw1:w1.heap=w.heap) (he1:eZ w1 w) (hrun:(execOp a.eval o).run P w=.ok (.value x) (w1.alloc (.cells c e)))
  (hp:p.pl=some (w1.heap.size,0,c.size)) (hob:fM (w1.alloc (.cells c e)) I (setO (kill O ids) nid p) (xY D nid) p ob)
  (hv:∀I' O' D',O' nid=some p→Rep (w1.alloc (.cells c e)) I' O' D' v x):dR P cfg cx H D w I O nid o a v ((nid,some ob)::dead ids):=by
 intro next Q hnx
 have hR0:=hR.CK hw1 he1;have hR1:=hR0.drop ids;refine oC hrun (hnx x _ _ _ ?_ ?_ (hv I (setO (kill O ids) nid p) _ (by simp [setO])))
 ·rw [xO];exact hR1.push hn c e ob p hp hob
 ·intro u y hu;exact ((hu.CK hw1 hR).drop hR0 ids).push hR1 _ p hn
theorem dR.grown (hR:Rel cfg cx H D w I O) (hn:¬ D nid) (ids:List Nat) {size n m c':Nat} {g h:Nat→AV} {olds news rest:Array Value} {e:TypeId} (ho:FI w I size n g olds) (hnw:FI w I size m h news)
  (hc':n+m≤c') (hrest:rest.size=(c' - (n+m))*size) (hrun:(execOp a.eval o).run P w=.ok (.value (.slice (some ⟨w.heap.size,0,none⟩) (n+m) c')) (w.drew.alloc (.cells (olds++news++rest) e))):
  dR P cfg cx H D w I O nid o a (.dh nid 0 (n+m) false) ((nid,some (.row size (n+m) (appG n g h)))::dead ids):=by
 have hcells:=Mr (rest:=rest) ho hnw;have hsz:(olds++news++rest).size=c'*size:=by
  rw [Array.size_append,Array.size_append,ho.1,hnw.1,hrest,← Nat.add_mul,← Nat.add_mul];congr 1;omega
 have hle:(n+m)*size≤c'*size:=Nat.mul_le_mul_right _ hc';refine dR.aco (p:=⟨size,n+m,some (w.drew.heap.size,0,(olds++news++rest).size)⟩) hR hn ids (w1:=w.drew) rfl (eZ.heap rfl rfl rfl rfl) hrun rfl ?_ ?_
 ·refine ⟨rfl,rfl,fun k hk=>(hcells k hk).1,.inr ⟨_,_,_,rfl,l5 _ _,by omega,fun k j hk hj=>?_⟩⟩;rw [Nat.zero_add,kL];exact ⟨PRep.mono (w:=w) (fun _ h=>h) (fun b hb=>gU (w:=w.drew) _ (hR.vF b hb)) ((hcells k hk).2 j hj).1,((hcells k hk).2 j hj).2⟩
 ·intro I' O' D' hO;refine .dh hO (by simp) hc' (fun h=>by cases h) (fun _=>⟨_,_,_,rfl,?_,?_⟩) (by simp; omega)
  ·simp
  ·simp only [Nat.zero_add];omega
theorem TK {u:AV} {k:Nat→Nat→(Nat→AV)→Pg} {x:Value} (hR:Rel cfg cx H D w I O) (hx:Rep w I O D u x) (h:dQ Sp H (Nz u k) v ups r):
  ∃es m g base c r',x=.slice base m c∧dQ Sp H (k es m g) v ups r'∧∀size,JQ es m size=true→0<size→Reads P w I size m g x:=by
 unfold Nz at h;split at h
 ·rename_i es n f g;have hp:=hx.Aj;cases hp with
  | sl b off vs hcap hfull ha hes hm h1 hr=>exact ⟨es,n,g,_,_,r,rfl,h,fun size he hs=>UZ (PRep.sl b off vs hcap hfull ha hes hm h1 hr) he hs⟩
 ·rename_i ob i n f;obtain ⟨obj,r',hob,h1⟩:=h.kK;obtain ⟨p,hp,hO⟩:=hR.live hob;cases obj with
  | map=>exact (dQ.aR h1).elim
  | box cs=>exact (dQ.aR h1).elim
  | row es m g=>
   obtain ⟨aa,cap,rfl,h2,h3,h4,h5⟩:=hx.kG hp;refine ⟨es,n,mq i g,aa,cap,r',rfl,h1,fun size he hs=>?_⟩;by_cases hn:n=0
   ·subst hn;exact iU 0 0 (fun _ _=>Go.undef) (fun h=>absurd rfl h) (fun i hi=>absurd hi om) (fun i j hi=>absurd hi om) (fun i j hi=>absurd hi om) (fun i j hi=>absurd hi om) hs
   ·have:=sN he hn;subst this;exact Mq hO h2 h3 hs h5
 ·exact (dQ.aR h).elim
theorem aaA {es size:Nat}:JQ es 0 size=true:=by unfold JQ; cases Nat.beq es size<;>rfl
theorem Ms {ob:Nat} {x:cB} (h:H ob=some x):jQ H [(ob,some x)]=H:=by
 funext k;simp only [jQ,look];cases hb:Nat.beq ob k with
 | true=>have:=Nat.eq_of_beq_eq_true hb; subst this; simp [h]
 | false=>rfl
theorem P5 (i:Nat) (g h:Nat→AV):Yz i 0 g h=g:=by
 funext j;unfold Yz;cases h1:Nat.ble i j with
 | false=>rfl
 | true=>
  have h1:=Nat.le_of_ble_eq_true h1;rw [Ic om];rfl
theorem P6 {i k j:Nat} {g h:Nat→AV} (h1:i≤j) (h2:j<i+k):Yz i k g h j=h (j - i):=by
 unfold Yz;have a1:Nat.ble i j=true:=Nat.ble_eq_true_of_le h1;have a2:Nat.blt j (i+k)=true:=by simpa using h2
 rw [a1,a2];rfl
theorem KL {i k j:Nat} {g h:Nat→AV} (hn:¬ (i≤j∧j<i+k)):Yz i k g h j=g j:=by
 unfold Yz;by_cases h1:i≤j
 ·rw [Ic om];cases Nat.ble i j<;>rfl
 ·have a1:Nat.ble i j=false:=by
   cases hb:Nat.ble i j with
   | false=>rfl
   | true=>exact absurd (Nat.le_of_ble_eq_true hb) h1
  rw [a1];rfl
theorem Rel.aaB (hR:Rel cfg cx H D w I O) {ob es N i0 k b bo sz:Nat} {g g':Nat→AV} {p:Own} (hp:O ob=some p) (hO:fM w I O D p (.row es N g)) (hpl:p.pl=some (b,bo,sz)) (hpos:0<es) {cells:Array Value} (hcells:FI w I es k g' cells) (hle0:i0+k≤N):
  (storeCells ⟨b,bo+i0*es,none⟩ cells.toList).run P w=.ok () (w.setCells b (bo+i0*es) cells.toList)∧Rel cfg cx (jQ H [(ob,some (.row es N (Yz i0 k g g')))]) D (w.setCells b (bo+i0*es) cells.toList) I O∧
   ∀u z,Rep w I O D u z→Rep (w.setCells b (bo+i0*es) cells.toList) I O D u z:=by
 obtain ⟨hn,hess,hlen,hpl' | ⟨b',bo',sz',hpl',hal,hle,hcs⟩⟩:=hO
 ·rw [hpl] at hpl'; cases hpl'.2
 rw [hpl] at hpl';cases hpl';have hmul:(i0+k)*es≤N*es:=Nat.mul_le_mul_right _ hle0;rw [Nat.add_mul] at hmul;have hcsz:=hcells.1;have hone:∀j,j<cells.size→(cells.getD j Go.undef).oneCell'=true:=fun j hj=>by
  rw [hcsz] at hj;have h1:j / es<k:=(Nat.div_lt_iff_lt_mul hpos).2 hj;have h2:=((hcells.2 _ h1).2 (j % es) (Nat.mod_lt _ hpos)).2;rwa [Nat.div_add_mod'] at h2
 have hst:=run_storeCells_cells (P:=P) b (bo+i0*es) cells.toList 0 w (fun j hj=>(hal (bo+i0*es+0+j) (by simp at hj; omega)).1) (fun j hj=>(hal (bo+i0*es+0+j) (by simp at hj; omega)).2)
  (fun u hu=>by
    obtain ⟨j,hj,rfl⟩:=List.mem_iff_getElem.1 hu
    have hj':j<cells.size:=by simpa using hj
    simpa [hj'] using hone j hj')
 rw [Nat.add_zero] at hst;obtain ⟨hal',hcell⟩:=kM hal (bo+i0*es) cells.toList (by simp; omega);obtain ⟨hh1,hh2⟩:=ku b cells.toList (bo+i0*es) w;have hIb:∀b',I b'→(w.setCells b (bo+i0*es) cells.toList).heap[b']? = w.heap[b']? := fun b' hb=>hh2 b' (fun e=>hR.lZ ob p b bo sz hp hpl (e ▸ hb));have keep:∀u z,Rep w I O D u z→Rep (w.setCells b (bo+i0*es) cells.toList) I O D u z:=fun u z hu=>hu.mono (fun _ h=>h) hIb (fun _ _=>.inl rfl) (fun _ h=>h) hR.used;have pkeep:∀u z,PRep w I u z→PRep (w.setCells b (bo+i0*es) cells.toList) I u z:=fun u z hu=>hu.mono (fun _ h=>h) hIb;refine ⟨hst,hR.write (lG _ _ _ _) (.row es N (Yz i0 k g g')) hp hpl hh2 hh1 ?_,keep⟩;refine ⟨hn,hess,fun j hj=>?_,.inr ⟨b,bo,sz,hpl,hal',hle,fun j q hj hq=>?_⟩⟩
 ·by_cases hin:i0≤j∧j<i0+k
  ·rw [P6 hin.1 hin.2];exact (hcells.2 (j - i0) om).1
  ·rw [KL hin];exact hlen j hj
 ·have hmj:(j+1)*es≤N*es:=Nat.mul_le_mul_right _ hj;rw [Nat.succ_mul] at hmj;rw [hcell _ om];by_cases hin:i0≤j∧j<i0+k
  ·rw [P6 hin.1 hin.2];have q1:i0*es≤j*es:=Nat.mul_le_mul_right _ hin.1;have q2:(j+1)*es≤(i0+k)*es:=Nat.mul_le_mul_right _ hin.2;rw [Nat.succ_mul,Nat.add_mul] at q2;have q3:(j - i0)*es=j*es - i0*es:=Nat.sub_mul _ _ _;rw [if_pos (by simp; omega)];have e3:bo+(j*es+q) - (bo+i0*es)=(j - i0)*es+q:=by omega
   rw [e3];have hh:=(hcells.2 (j - i0) om).2 q hq;have e4:cells.toList.getD ((j - i0)*es+q) Go.undef=cells.getD ((j - i0)*es+q) Go.undef:=by
    have hlt:(j - i0)*es+q<cells.size:=by omega
    simp [hlt]
   rw [e4];exact ⟨pkeep _ _ hh.1,hh.2⟩
  ·rw [KL hin];rw [if_neg ?_]
   ·exact ⟨pkeep _ _ (hcs j q hj hq).1,(hcs j q hj hq).2⟩
   ·intro ⟨r1,r2⟩;have r2:bo+(j*es+q)<bo+i0*es+cells.size:=by simpa using r2
    apply hin;constructor
    ·rcases Nat.lt_or_ge j i0 with h | h
     ·have:(j+1)*es≤i0*es:=Nat.mul_le_mul_right _ h;rw [Nat.succ_mul] at this;omega
     ·exact h
    ·rcases Nat.lt_or_ge j (i0+k) with h | h
     ·exact h
     ·have:(i0+k)*es≤j*es:=Nat.mul_le_mul_right _ h;rw [Nat.add_mul] at this;omega
theorem P7 (hR:Rel cfg cx H D w I O) {xd xs:Operand} {d s:AV} {t t' e e':TypeId} {ti:Jf} {i:TypeInfo} (hdr:Rep w I O D d (a.eval xd)) (hsr:Rep w I O D s (a.eval xs))
  (hu:P.underlying t=some (.slice e)) (hu':P.underlying t'=some (.slice e')) (hi:P.info? e=some i) (hsz:i.size=ti.size) (hpos:0<ti.size)
  (run:∀ {x' w'},(Builtin.append_ #[t,t'] o.type #[a.eval xd,a.eval xs]).run P w=.ok x' w'→(execOp a.eval o).run P w=.ok (.value x') w')
  (h:dQ Sp H (Tq ti d s) v ups r):dR P cfg cx H D w I O nid o a v ups:=by
 unfold Tq at h;obtain ⟨es',m,g',base',c',r1,hsv,h5,hreads⟩:=TK (P:=P) hR hsr h;obtain ⟨hes',h6⟩:=h5.bM;obtain ⟨news,hnews,hnrun⟩:=hreads ti.size hes' hpos;have hnrun:=hnrun w rfl;rw [hsv] at hnrun;rw [← hsz] at hnrun;split at h6
 ·rename_i ob i0 n full;obtain ⟨obj,_,hob,h7⟩:=h6.kK;obtain ⟨p,hp,hO⟩:=hR.live hob;cases obj with
  | map=>exact (dQ.aR h7).elim
  | box cs=>exact (dQ.aR h7).elim
  | row es N g=>
   obtain ⟨hes,h8⟩:=h7.bM;have hes:es=ti.size:=Nat.eq_of_beq_eq_true hes;obtain ⟨hle,h9⟩:=h8.x9;obtain ⟨rfl,rfl⟩:=h9.jy;subst hes;have hpes:p.es=ti.size:=hO.2.1;have hpn:p.n=N:=hO.1;obtain ⟨aa,cap,hdv,a1,a2,a3,a4⟩:=hdr.kG hp;have hext:p.n≤i0+cap:=(hdv ▸ hdr).zA hp;have hcap:n+m≤cap:=by omega
   by_cases hz:cap=0
   ·have hm0:m=0:=by omega
    have hn0:n=0:=by omega
    subst hm0;have hce:news=#[]:=Array.eq_empty_of_size_eq_zero (by have:=hnews.1; omega);rw [P5];have hr:=oK (P:=P) (ty:=o.type) (base:=aa) hu hu' hi hnrun hcap (w':=w) (fun ad _=>by rw [hce]; rfl) (fun _=>rfl);rw [← hdv,← hsv] at hr;intro next Q hnx
    refine oC (run hr) (hnx _ w I O (by rw [Ms hob]; exact hR.rP nid) (fun u y hu=>hu.rP hR nid) ?_);have h2:=hdr.rP hR nid;rw [hdv] at h2;exact .dh hp om hcap (fun h=>by cases h) a4 hext
   ·obtain ⟨b,bo,sz,hpl,haa,hcapz⟩:=a4 hz;have hR2:=hR;obtain ⟨hst,hRel,keep⟩:=hR.aaB (P:=P) (i0:=i0+n) (k:=m) hp hO hpl hpos hnews om;have hr:=oK (P:=P) (ty:=o.type) (base:=aa) hu hu' hi hnrun hcap (w':=w.setCells b (bo+(i0+n)*ti.size) news.toList) (fun ad had=>by
     rw [haa] at had;cases had;rw [hpes,hsz,Addr.add_mid];have e1:bo+i0*ti.size+n*ti.size=bo+(i0+n)*ti.size:=by rw [Nat.add_mul]; omega
     rw [e1];exact hst) (fun had=>by rw [haa] at had; cases had)
    rw [← hdv,← hsv] at hr;intro next Q hnx
    refine oC (run hr) (hnx _ _ I O (hRel.rP nid) (fun u y hu=>(keep u y hu).rP hRel nid) ?_);exact .dh hp om hcap (fun h=>by cases h) a4 hext
 ·exact (dQ.aR h6).elim
end
end Go.Ab

namespace Go.Ab
section
variable {P:Program} {cfg:rU} {cx:Ctx} {H:Nat→Option cB} {D:Nat→Prop} {w:World} {I:Nat→Prop} {O:OM} {Sp:kY}
variable {nid:Nat} {o:Oper} {a:Act} {ρ:Operand→AV} {v:AV} {ups:jh} {r:List Nat}
theorem YJ (hc:fq P cfg) (hR:Rel cfg cx H D w I O) (hn:¬ D nid) {c:Call} (ho:o.op=.call c) (hcl:c.callee=.builtin .append) (hx:∀x∈c.args.toList,Rep w I O D (ρ x) (a.eval x))
  (h:dQ Sp H (eP cfg nid (.call c) ρ) v ups r):dR P cfg cx H D w I O nid o a v ups:=by
 simp only [eP,hcl] at h;split at h
 ·rename_i d s t t' e1 e2;obtain ⟨xd,xs,hargs,hd,hs⟩:=args2 e1;have hty:c.argTypes=#[t,t']:=by rw [← Array.toList_inj]; simpa using e2
  have hdr:Rep w I O D d (a.eval xd):=hd ▸ hx xd (by simp [hargs]);have hsr:Rep w I O D s (a.eval xs):=hs ▸ hx xs (by simp [hargs]);obtain ⟨tt',e',ti',q1,q2,q3,h1⟩:=h.mQ;obtain ⟨tt,e,ti,p1,p2,p3,h2⟩:=h1.mQ;obtain ⟨hpos,h3⟩:=h2.bM;obtain ⟨hbp,h4⟩:=h3.bM;have hpos:0<ti.size:=by simpa using hpos
  have hbp:0<ti.bytes:=by simpa using hbp
  obtain ⟨hu',_⟩:=hc.slice q1 q2 q3;obtain ⟨hu,i,z,hi,hz,hsz,hby,hzs⟩:=hc.slice p1 p2 p3;have run:∀ {x' w'},(Builtin.append_ #[t,t'] o.type #[a.eval xd,a.eval xs]).run P w=.ok x' w'→(execOp a.eval o).run P w=.ok (.value x') w':=by
   intro x' w' hr;simp only [execOp,ho,hcl,resolve,invoke,builtin,Sem.run_bind,Sem.run_pure,Result.andThen_ok,hargs,hty,List.map_toArray,List.map_cons,List.map_nil,hr]
  clear h h1 h2 h3;split at h4
  ·exact P7 hR hdr hsr hu hu' hi hsz hpos run h4
  rename_i hself;clear hself;unfold UE at h4;obtain ⟨es',m,g',base',c',r1,hsv,h5,hreads⟩:=TK (P:=P) hR hsr h4;obtain ⟨hes',h6⟩:=h5.bM;obtain ⟨news,hnews,hnrun⟩:=hreads ti.size hes' hpos;rw [hsv] at hnrun;rw [← hsz] at hnrun;clear h4 h5 hreads;split at h6
  ·rename_i es n full g;obtain ⟨hfull,h7⟩:=h6.bM;have hes:JQ es n ti.size=true:=by
    cases es with
    | zero=>
     simp only at h7;obtain ⟨hz0,_⟩:=h7.bM;cases n with
     | zero=>exact aaA
     | succ=>cases hz0
    | succ es1=>
     simp only at h7;exact h7.bM.1
   have hp:=hdr.Aj;obtain ⟨olds,holds,horun⟩:=UZ (P:=P) hp hes hpos;generalize hdv:a.eval xd=dv at hp horun;cases hp with
   | @sl _ _ _ _ aa cap b off vs hcap hfl ha hesl hm h11 hr=>
    have hcn:cap=n:=hfl hfull;subst hcn;rw [← hsz] at horun;clear h6 hdr;have grow:∀(hm0:0<m) (hb:(cap+m)*ti.bytes≤140737488355328),∃c'' rest,cap+m≤c''∧rest.size=(c'' - (cap+m))*ti.size∧
      (execOp a.eval o).run P w=.ok (.value (.slice (some ⟨w.heap.size,0,none⟩) (cap+m) c'')) (w.drew.alloc (.cells (olds++news++rest) e)):=by
     intro hm0 hb
     obtain ⟨c'',rest,g1,g2,g3⟩:=run_append_grow (P:=P) (ty:=o.type) hu hu' hi hz horun hnrun om (by rw [hby]; exact hb) om
     exact ⟨c'',rest,g1,by rw [g2,hzs],run (by rw [hdv,hsv]; exact g3)⟩
    have same:m=0→(execOp a.eval o).run P w=.ok (.value (.slice aa (cap+m) cap)) w:=by
     intro hm0;subst hm0;have hnz:news=#[]:=Array.eq_empty_of_size_eq_zero (by have:=hnews.1; omega);refine run ?_;rw [hdv,hsv];exact oK hu hu' hi (hnrun w rfl) om (fun ad _=>by rw [hnz]; rfl) (fun _=>rfl)
    cases hee:es with
    | zero=>
     rw [hee] at h7;simp only at h7;obtain ⟨hz0,h8⟩:=h7.bM;have hcc:cap=0:=by cases hc0:cap with
      | zero=>rfl
      | succ=>rw [hc0] at hz0; cases hz0
     obtain ⟨hbg,h9⟩:=h8.x9;obtain ⟨rfl,rfl⟩:=h9.jy;by_cases hm0:m=0
     ·have hrun:=same hm0;subst hm0;intro next Q hnx
      have hR2:=hR.empty hn ti.size g';refine oC hrun (hnx _ w I _ hR2 (fun u y hu=>hu.place hR hn (fun _ _=>rfl)) ?_);rw [hcc];exact .dh (p:=⟨ti.size,0,none⟩) (by simp [setO]) (by simp) om (fun h=>by cases h) (fun h=>absurd rfl h) (Nat.zero_le _)
     ·obtain ⟨c'',rest,g1,g2,g3⟩:=grow om (by rw [hcc,Nat.zero_add]; simpa [big] using hbg);have ho0:FI w I ti.size 0 g' olds:=⟨by have:=holds.1; rw [hcc] at this; exact this,fun k hk=>absurd hk om⟩;rw [hcc] at g1 g2 g3;have key:=dR.grown (P:=P) (o:=o) (a:=a) hR hn [] (g:=g') ho0 hnews g1 g2 g3;have e3:appG 0 g' g'=g':=by
       funext k;simp [appG]
      rw [e3] at key;simpa [dead] using key
    | succ es1=>
     rw [hee] at h7;simp only at h7;obtain ⟨_,h8⟩:=h7.bM;obtain ⟨hbg,rfl,rfl⟩:=h8.fO;by_cases hm0:m=0
     ·refine dR.dD hR (same hm0) (.pure ?_);subst hm0;by_cases hc0:cap=0
      ·subst hc0;exact .sl 0 0 (fun _ _=>Go.undef) (Nat.le_refl _) (fun h=>by cases h) (fun h=>absurd rfl h) (fun i h=>absurd h om) (fun i j h=>absurd h om) (fun i j h=>absurd h om) (fun i j h=>absurd h om)
      have hes1:=sN hes hc0;rw [hes1] at hesl hm h11 hr;have e3:∀k,k<cap→appG cap g g' k=g k:=fun k hk=>by
       have:Nat.blt k cap=true:=by simpa using hk
       simp [appG,this]
      exact .sl b off vs om (fun h=>by cases h) (fun h=>ha om) (fun k hk=>by rw [e3 k om]; exact hesl k om) (fun k j hk hj=>hm k j om hj) (fun k j hk hj=>h11 k j om hj) (fun k j hk hj=>by rw [e3 k om]; exact hr k j om hj)
     ·obtain ⟨c'',rest,g1,g2,g3⟩:=grow om (by simpa [big] using hbg);have hcells:=Mr (rest:=rest) holds hnews;have hsize:(olds++news++rest).size=c''*ti.size:=by
       rw [Array.size_append,Array.size_append,holds.1,hnews.1,g2,← Nat.add_mul,← Nat.add_mul];congr 1;omega
      have key:=dR.grown (P:=P) (o:=o) (a:=a) (nid:=nid) hR hn [] holds hnews g1 g2 g3;intro next Q hnx
      have hR0:=Rel.CK (w:=w) (w':=w.drew) rfl (eZ.heap rfl rfl rfl rfl) hR;have hIlt:∀b,I b→(w.drew.alloc (.cells (olds++news++rest) e)).heap[b]? = w.heap[b]? := fun b hb=>gU (w:=w.drew) _ (hR.vF b hb);refine oC g3 (hnx _ _ (fun b=>I b∨b=w.heap.size) O ?_ ?_ (.pure ?_))
      ·rw [xZ];have hR1:=(hR0.rP nid);exact { hR1 with
        objs:=fun o ob p h1 h2=>((hR.rP nid).objs o ob p h1 h2).mono (fun _ h=>.inl h) hIlt (fun _ _=>.inl rfl) (fun _ h=>h) hR1.used (fun b bo sz hpl=>gU (w:=w.drew) _ (hR.lt o p b bo sz h2 hpl))
        lZ:=fun o p b bo sz h1 h2 h3=>by
         rcases h3 with h3 | h3
         ·exact hR.lZ o p b bo sz h1 h2 h3
         ·have:=hR.lt o p b bo sz h1 h2; omega
        lt:=fun o p b bo sz h1 h2=>by rw [jS]; have:=hR.lt o p b bo sz h1 h2; exact Nat.lt_succ_of_lt this
        vF:=fun b h=>by
         rw [jS]
         rcases h with h | h
         ·exact Nat.lt_succ_of_lt (hR.vF b h)
         ·subst h; exact Nat.lt_succ_self _
        size:=by rw [jS]; exact Nat.le_succ_of_le hR.size
        env:=hR1.env.step (eZ.alloc _ _)
        frame:=fun b h1 h2=>by rw [gU (w:=w.drew) _ (Nat.lt_of_lt_of_le h1 hR.size)]; exact hR.frame b h1 h2
        glob:=fun g cs h=>(hR.glob g cs h).mono (fun _ h=>.inl h) hIlt
        KE:=fun b h=>.inl (hR.KE b h)
        NC:=fun b h=>by
         rcases h with h | h
         ·exact hR.NC b h
         ·subst h; exact .inr (.inl hR.size) }
      ·intro u y hu;exact hu.mono (fun _ h=>.inl h) hIlt (fun _ _=>.inl rfl) (fun _ h=>.inl h) hR.used
      ·refine .sl w.heap.size 0 (fun k j=>(olds++news++rest).getD (k*ti.size+j) Go.undef) g1 (fun h=>by cases h) (fun _=>⟨rfl,.inr rfl⟩) (fun k hk=>(hcells k hk).1) (fun k j hk hj=>?_) (fun k j hk hj=>((hcells k hk).2 j hj).2) (fun k j hk hj=>((hcells k hk).2 j hj).1.mono (fun _ h=>.inl h) hIlt);have hlt:k*ti.size+j<(olds++news++rest).size:=by
        rw [hsize];have:(k+1)*ti.size≤c''*ti.size:=Nat.mul_le_mul_right _ om;rw [Nat.succ_mul] at this;omega
       have:=yc (w:=w.drew) (olds++news++rest) e (k*ti.size+j);rw [Nat.zero_add];refine Eq.trans this ?_;rw [Array.getD_eq_getD_getElem?, Array.getElem?_eq_getElem hlt];rfl
  ·rename_i ob k n full;obtain ⟨obj,_,hob,h7⟩:=h6.kK;obtain ⟨p,hp,hO⟩:=hR.live hob;cases obj with
   | map=>exact (dQ.aR h7).elim
   | box cs=>exact (dQ.aR h7).elim
   | row es n' g=>
    obtain ⟨hes,h8⟩:=h7.bM;have hes:es=ti.size:=Nat.eq_of_beq_eq_true hes;subst hes;obtain ⟨hbg,h9⟩:=h8.x9;have hbg:(n+m)*ti.bytes≤140737488355328:=by simpa [big] using hbg
    obtain ⟨aa,cap,hdv,hkn,hcap,hfl,hpl⟩:=hdr.kG hp;obtain ⟨olds,holds,horun⟩:=Mq (P:=P) hO hkn hcap hpos hpl;rw [← hsz] at horun;have grow:∀(ids:List Nat) (hm0:cap<n+m),dR P cfg cx H D w I O nid o a (.dh nid 0 (n+m) false) ((nid,some (.row ti.size (n+m) (appG n (mq k g) g')))::dead ids):=by
     intro ids hm0;obtain ⟨c'',rest,g1,g2,g3⟩:=run_append_grow (P:=P) (ty:=o.type) hu hu' hi hz horun hnrun hm0 (by rw [hby]; exact hbg) om;exact dR.grown hR hn ids holds hnews g1 (by rw [g2,hzs]) (run (by rw [hdv,hsv]; exact g3))
    have other:dR P cfg cx H D w I O nid o a (.dh nid 0 (n+m) false) [(nid,some (.row ti.size (n+m) (appG n (mq k g) g'))),(ob,none)]:=by
     by_cases hroom:n+m≤cap
     ·by_cases hcap0:cap=0
      ·have hn0:n=0:=by omega
       have hm0:m=0:=by omega
       subst hn0; subst hm0;have hnz:news=#[]:=Array.eq_empty_of_size_eq_zero (by have:=hnews.1; omega);have hrun:=run (oK (P:=P) (ty:=o.type) hu hu' hi (base:=aa) (n:=0) (cap:=cap) (w':=w) (hnrun w rfl) om (fun ad _=>by rw [hnz]; rfl) (fun _=>rfl) |> fun q=>by rw [hdv,hsv]; exact q);intro next Q hnx
       have hR1:=hR.drop [ob];have hR2:=hR1.empty hn ti.size (appG 0 (mq k g) g');refine oC hrun (hnx _ w I _ (by rw [xO]; exact hR2) (fun u y hu=>(hu.drop hR [ob]).place hR1 hn (fun _ _=>rfl)) ?_);exact .dh (p:=⟨ti.size,0,none⟩) (by simp [setO]) (by simp) om (fun h=>by cases h) (fun h=>absurd hcap0 h) (Nat.zero_le _)
      ·obtain ⟨b,bo,sz,hpl1,haa,hle⟩:=hpl hcap0;obtain ⟨hpn,hpes,hlen,hpl' | ⟨b',bo',sz',hpl',hal,hle',hcs⟩⟩:=hO
       ·rw [hpl1] at hpl'; cases hpl'.2
       rw [hpl1] at hpl';cases hpl';rw [hpes] at haa hle;have hmul1:(k+cap)*ti.size=k*ti.size+cap*ti.size:=Nat.add_mul _ _ _;have hmul2:(n+m)*ti.size≤cap*ti.size:=Nat.mul_le_mul_right _ hroom;rw [Nat.add_mul] at hmul2;have hnsz:=hnews.1;have hst:=run_storeCells_cells (P:=P) b (bo+k*ti.size+n*ti.size) news.toList 0 w (fun j hj=>(hal _ (by simp at hj; omega)).1) (fun j hj=>(hal _ (by simp at hj; omega)).2)
        (fun u hu=>by
          obtain ⟨q,hq,rfl⟩:=List.mem_iff_getElem.1 hu
          have hq':q<news.size:=by simpa using hq
          have hdiv:q / ti.size<m:=(Nat.div_lt_iff_lt_mul hpos).2 om
          have:=((hnews.2 _ hdiv).2 (q % ti.size) (Nat.mod_lt _ hpos)).2
          rw [Nat.div_add_mod'] at this
          simpa [hq'] using this)
       rw [Nat.add_zero] at hst;have hrun:=run (oK (P:=P) (ty:=o.type) hu hu' hi (base:=aa) (n:=n) (cap:=cap) (w':=w.setCells b (bo+k*ti.size+n*ti.size) news.toList) (hnrun w rfl) hroom
        (fun ad had=>by
          rw [haa] at had
          cases had
          rw [Addr.add_mid,hsz]
          exact hst) (fun hno=>by rw [haa] at hno; cases hno) |> fun q=>by rw [hdv,hsv]; exact q)
       obtain ⟨hal',hcell⟩:=kM hal (bo+k*ti.size+n*ti.size) news.toList (by simp; omega);obtain ⟨hh1,hh2⟩:=ku b news.toList (bo+k*ti.size+n*ti.size) w;have hnI:=hR.lZ ob p b bo sz hp hpl1;have hIb:∀b',I b'→(w.setCells b (bo+k*ti.size+n*ti.size) news.toList).heap[b']? = w.heap[b']? := fun b' hb=>hh2 b' (fun e=>hnI (e ▸ hb));have hR1:=hR.drop [ob];have hfree:∀o1 p1 b1 bo1 sz1,kill O [ob] o1=some p1→p1.pl=some (b1,bo1,sz1)→b1≠b:=by
        intro o1 p1 b1 bo1 sz1 w1 w2;unfold kill at w1;by_cases hne:o1∈[ob]
        ·simp [hne] at w1
        ·rw [if_neg hne] at w1;exact hR.inj o1 ob p1 p b1 bo1 sz1 b bo sz w1 hp w2 hpl1 (by simpa using hne)
       have happ:=Mr (rest:=#[]) holds hnews;have hR2:=hR1.place hn (w':=w.setCells b (bo+k*ti.size+n*ti.size) news.toList) (lG _ _ _ _) (.row ti.size (n+m) (appG n (mq k g) g')) ⟨ti.size,n+m,some (b,bo+k*ti.size,sz)⟩ rfl hh2 hh1 (hR.lt ob p b bo sz hp hpl1) (hR.new ob p b bo sz hp hpl1) hnI hfree (by
        refine ⟨rfl,rfl,fun q hq=>(happ q hq).1,.inr ⟨_,_,_,rfl,hal',?_,fun q j hq hj=>?_⟩⟩
        ·rw [Nat.add_mul]; omega
        ·have hq2:(q+1)*ti.size≤(n+m)*ti.size:=Nat.mul_le_mul_right _ hq
         rw [Nat.succ_mul,Nat.add_mul] at hq2
         rw [hcell _ om]
         by_cases hqn:q<n
         ·have hq3:(q+1)*ti.size≤n*ti.size:=Nat.mul_le_mul_right _ hqn
          rw [Nat.succ_mul] at hq3
          rw [if_neg om]
          have e3:appG n (mq k g) g' q=g (k+q):=by
           have:Nat.blt q n=true:=by simpa using hqn
           simp [appG,this,xM]
          rw [e3]
          have e4:bo+k*ti.size+(q*ti.size+j)=bo+((k+q)*ti.size+j):=by rw [Nat.add_mul]; omega
          rw [e4]
          have:=hcs (k+q) j om hj
          exact ⟨this.1.mono (fun _ h=>h) hIb,this.2⟩
         ·have hq3:n*ti.size≤q*ti.size:=Nat.mul_le_mul_right _ om
          rw [if_pos (by simp; omega)]
          have e3:appG n (mq k g) g' q=g' (q - n):=by
           have:Nat.blt q n=false:=Ic hqn
           simp [appG,this]
          rw [e3]
          have hqq:q*ti.size=n*ti.size+(q - n)*ti.size:=by rw [← Nat.add_mul]; congr 1; omega
          have e4:bo+k*ti.size+(q*ti.size+j) - (bo+k*ti.size+n*ti.size)=(q - n)*ti.size+j:=by omega
          rw [e4]
          have hlt:(q - n)*ti.size+j<news.size:=by omega
          have:=(hnews.2 (q - n) om).2 j hj
          simp [hlt] at this
          simp [hlt]
          exact ⟨this.1.mono (fun _ h=>h) hIb,this.2⟩)
       intro next Q hnx
       refine oC hrun (hnx _ _ I _ (by rw [xO]; exact hR2) (fun u y hu=>(hu.drop hR [ob]).place hR1 hn hIb) ?_);rw [haa];refine .dh (p:=⟨ti.size,n+m,some (b,bo+k*ti.size,sz)⟩) (by simp [setO]) (by simp) hroom (fun h=>by cases h) (fun _=>⟨_,_,_,rfl,by simp,?_⟩) (by simp; omega);simp only [Nat.zero_add];omega
     ·exact grow [ob] om
    obtain ⟨rfl,rfl⟩:=h9.jy;exact other
  ·exact (dQ.aR h6).elim
 ·exact (dQ.aR h).elim
theorem WO {u:AV} {k:Nat→Nat→(Nat→AV)→Pg} {x:Value} (hR:Rel cfg cx H D w I O) (hx:Rep w I O D u x) (h:dQ Sp H (Nz u k) v ups r):
  ∃es n g base c r',x=.slice base n c∧dQ Sp H (k es n g) v ups r'∧∀size,JQ es n size=true→0<size→∀q,q≤n→Reads P w I size q g x:=by
 unfold Nz at h;split at h
 ·rename_i es n f g;have hp:=hx.Aj;cases hp with
  | sl b off vs hcap hfull ha hes hm h1 hr=>
   refine ⟨es,n,g,_,_,r,rfl,h,fun size he hs q hq=>?_⟩;by_cases hn:n=0
   ·have hq:q=0:=by omega
    subst hq;exact iU 0 0 (fun _ _=>Go.undef) (fun h=>absurd rfl h) (fun i hi=>absurd hi om) (fun i j hi=>absurd hi om) (fun i j hi=>absurd hi om) (fun i j hi=>absurd hi om) hs
   ·have:=sN he hn;subst this;exact iU b off vs (fun _=>(ha hn).1) (fun i hi=>hes i om) (fun i j hi=>hm i j om) (fun i j hi=>h1 i j om) (fun i j hi=>hr i j om) hs
 ·rename_i ob i n f;obtain ⟨obj,r',hob,h1⟩:=h.kK;obtain ⟨p,hp,hO⟩:=hR.live hob;cases obj with
  | map=>exact (dQ.aR h1).elim
  | box cs=>exact (dQ.aR h1).elim
  | row es m g=>
   obtain ⟨aa,cap,rfl,h2,h3,h4,h5⟩:=hx.kG hp;refine ⟨es,n,mq i g,aa,cap,r',rfl,h1,fun size he hs q hq=>?_⟩;by_cases hn:n=0
   ·have hq:q=0:=by omega
    subst hq;exact iU 0 0 (fun _ _=>Go.undef) (fun h=>absurd rfl h) (fun i hi=>absurd hi om) (fun i j hi=>absurd hi om) (fun i j hi=>absurd hi om) (fun i j hi=>absurd hi om) hs
   ·have:=sN he hn;subst this;obtain ⟨cells,hc1,hc2⟩:=Mq (P:=P) (n:=q) (cap:=cap) (aa:=aa) hO om om hs h5;exact ⟨cells,hc1,fun w' hw=>by have:=hc2 w' hw; cases aa<;>exact this⟩
 ·exact (dQ.aR h).elim
theorem acp (hc:fq P cfg) (hR:Rel cfg cx H D w I O) {c:Call} (ho:o.op=.call c) (hcl:c.callee=.builtin .copy) (hx:∀x∈c.args.toList,Rep w I O D (ρ x) (a.eval x))
  (h:dQ Sp H (eP cfg nid (.call c) ρ) v ups r):dR P cfg cx H D w I O nid o a v ups:=by
 simp only [eP,hcl] at h;split at h
 ·rename_i d s t t' e1 e2;obtain ⟨xd,xs,hargs,hd,hs⟩:=args2 e1;have hty:c.argTypes=#[t,t']:=by rw [← Array.toList_inj]; simpa using e2
  have hdr:Rep w I O D d (a.eval xd):=hd ▸ hx xd (by simp [hargs]);have hsr:Rep w I O D s (a.eval xs):=hs ▸ hx xs (by simp [hargs]);obtain ⟨tt',e',ti',q1,q2,q3,h1⟩:=h.mQ;obtain ⟨tt,e,ti,p1,p2,p3,h2⟩:=h1.mQ;obtain ⟨hpos,h4⟩:=h2.bM;have hpos:0<ti.size:=by simpa using hpos
  obtain ⟨hu,i,z,hi,hz,hsz,hby,hzs⟩:=hc.slice p1 p2 p3;have run:∀ {x' w'},(Builtin.copy_ #[t,t'] o.type #[a.eval xd,a.eval xs]).run P w=.ok x' w'→(execOp a.eval o).run P w=.ok (.value x') w':=by
   intro x' w' hr;simp only [execOp,ho,hcl,resolve,invoke,builtin,Sem.run_bind,Sem.run_pure,Result.andThen_ok,hargs,hty,List.map_toArray,List.map_cons,List.map_nil,hr]
  clear h h1 h2;unfold ZY at h4;obtain ⟨es',m,g',base',c',r1,hsv,h5,hreads⟩:=WO (P:=P) hR hsr h4;obtain ⟨hes',h6⟩:=h5.bM;clear h4 h5;split at h6
  ·rename_i ob i0 n full;obtain ⟨obj,r',hob,h7⟩:=h6.kK;obtain ⟨p,hp,hO⟩:=hR.live hob;cases obj with
   | map=>exact (dQ.aR h7).elim
   | box cs=>exact (dQ.aR h7).elim
   | row es N g=>
    obtain ⟨aa,cap,hdv,a1,a2,a3,a4⟩:=hdr.kG hp;obtain ⟨hes,h8⟩:=h7.bM;have hes:es=ti.size:=Nat.eq_of_beq_eq_true hes;obtain ⟨rfl,rfl⟩:=h8.jy;obtain ⟨cells,hcells,hrd⟩:=hreads ti.size hes' hpos (Nat.min m n) (Nat.min_le_left _ _);have hrd:=hrd w rfl;rw [hsv,← hsz] at hrd;have hkn:Nat.min m n≤n:=Nat.min_le_right _ _;generalize hk:Nat.min m n=k at hcells hrd hkn;have run2:∀ {w'},(∀ad,aa=some ad→(storeCells ad cells.toList).run P w=.ok () w')→(aa=none→w'=w)→(Builtin.copy_ #[t,t'] o.type #[a.eval xd,a.eval xs]).run P w=.ok (goInt k) w':=by
     intro w' hw1 hw2;rw [hdv,hsv];cases aa with
     | none=>
      have:=hw2 rfl;subst this;simp [Builtin.copy_,run_underlying hu,sizeOf,typeInfo,hi,Builtin.lenOf,hk,hrd]
     | some ad=>
      have:=hw1 ad rfl;simp [Builtin.copy_,run_underlying hu,sizeOf,typeInfo,hi,Builtin.lenOf,hk,hrd,this]
    by_cases hk0:k=0
    ·subst hk0;have hce:cells=#[]:=Array.eq_empty_of_size_eq_zero (by have:=hcells.1; omega);have hrun:=run (run2 (w':=w) (fun ad _=>by rw [hce]; rfl) (fun _=>rfl));rw [P5];intro next Q hnx
     have hR2:Rel cfg cx (jQ H [(ob,some (.row es N g))]) (xY D nid) w I O:=by
      rw [Ms hob];exact hR.rP nid
     exact oC hrun (hnx _ w I O hR2 (fun u y hu=>hu.rP hR nid) (.pure (.int _ _)))
    ·obtain ⟨b,bo,sz,hpl,haa,hcapz⟩:=a4 om;obtain ⟨hn,hess,hlen,hpl' | ⟨b',bo',sz',hpl',hal,hle,hcs⟩⟩:=hO
     ·rw [hpl] at hpl'; cases hpl'.2
     rw [hpl] at hpl';cases hpl';rw [hess] at haa hcapz;subst hes;have hmul:(i0+k)*ti.size≤N*ti.size:=Nat.mul_le_mul_right _ om;rw [Nat.add_mul] at hmul;have hcsz:=hcells.1;have hone:∀j,j<cells.size→(cells.getD j Go.undef).oneCell'=true:=fun j hj=>by
      rw [hcsz] at hj;have h1:j / ti.size<k:=(Nat.div_lt_iff_lt_mul hpos).2 hj;have h2:=((hcells.2 _ h1).2 (j % ti.size) (Nat.mod_lt _ hpos)).2;rwa [Nat.div_add_mod'] at h2
     have hst:=run_storeCells_cells (P:=P) b (bo+i0*ti.size) cells.toList 0 w (fun j hj=>(hal (bo+i0*ti.size+0+j) (by simp at hj; omega)).1) (fun j hj=>(hal (bo+i0*ti.size+0+j) (by simp at hj; omega)).2)
      (fun u hu=>by
        obtain ⟨j,hj,rfl⟩:=List.mem_iff_getElem.1 hu
        have hj':j<cells.size:=by simpa using hj
        simpa [hj'] using hone j hj')
     rw [Nat.add_zero] at hst;have hrun:=run (run2 (w':=w.setCells b (bo+i0*ti.size) cells.toList) (fun ad h=>by rw [haa] at h; cases h; exact hst) (fun h=>by rw [haa] at h; cases h));obtain ⟨hal',hcell⟩:=kM hal (bo+i0*ti.size) cells.toList (by simp; omega);obtain ⟨hh1,hh2⟩:=ku b cells.toList (bo+i0*ti.size) w;have hIb:∀b',I b'→(w.setCells b (bo+i0*ti.size) cells.toList).heap[b']? = w.heap[b']? := fun b' hb=>hh2 b' (fun e=>hR.lZ ob p b bo sz hp hpl (e ▸ hb));have keep:∀u z,Rep w I O D u z→Rep (w.setCells b (bo+i0*ti.size) cells.toList) I O D u z:=fun u z hu=>hu.mono (fun _ h=>h) hIb (fun _ _=>.inl rfl) (fun _ h=>h) hR.used;have pkeep:∀u z,PRep w I u z→PRep (w.setCells b (bo+i0*ti.size) cells.toList) I u z:=fun u z hu=>hu.mono (fun _ h=>h) hIb;have hRel:=hR.write (lG _ _ _ _) (.row ti.size N (Yz i0 k g g')) hp hpl hh2 hh1 (by
      refine ⟨hn,hess,fun j hj=>?_,.inr ⟨b,bo,sz,hpl,hal',hle,fun j q hj hq=>?_⟩⟩
      ·by_cases hin:i0≤j∧j<i0+k
       ·rw [P6 hin.1 hin.2]
        exact (hcells.2 (j - i0) om).1
       ·rw [KL hin]
        exact hlen j hj
      ·have hmj:(j+1)*ti.size≤N*ti.size:=Nat.mul_le_mul_right _ hj
       rw [Nat.succ_mul] at hmj
       rw [hcell _ om]
       by_cases hin:i0≤j∧j<i0+k
       ·rw [P6 hin.1 hin.2]
        have q1:i0*ti.size≤j*ti.size:=Nat.mul_le_mul_right _ hin.1
        have q2:(j+1)*ti.size≤(i0+k)*ti.size:=Nat.mul_le_mul_right _ hin.2
        rw [Nat.succ_mul,Nat.add_mul] at q2
        have q3:(j - i0)*ti.size=j*ti.size - i0*ti.size:=Nat.sub_mul _ _ _
        rw [if_pos (by simp; omega)]
        have e3:bo+(j*ti.size+q) - (bo+i0*ti.size)=(j - i0)*ti.size+q:=by omega
        rw [e3]
        have hh:=(hcells.2 (j - i0) om).2 q hq
        have e4:cells.toList.getD ((j - i0)*ti.size+q) Go.undef=cells.getD ((j - i0)*ti.size+q) Go.undef:=by
         have hlt:(j - i0)*ti.size+q<cells.size:=by omega
         simp [hlt]
        rw [e4]
        exact ⟨pkeep _ _ hh.1,hh.2⟩
       ·rw [KL hin]
        rw [if_neg ?_]
        ·exact ⟨pkeep _ _ (hcs j q hj hq).1,(hcs j q hj hq).2⟩
        ·intro ⟨r1,r2⟩
         have r2:bo+(j*ti.size+q)<bo+i0*ti.size+cells.size:=by simpa using r2
         apply hin
         constructor
         ·rcases Nat.lt_or_ge j i0 with h | h
          ·have:(j+1)*ti.size≤i0*ti.size:=Nat.mul_le_mul_right _ h
           rw [Nat.succ_mul] at this
           omega
          ·exact h
         ·rcases Nat.lt_or_ge j (i0+k) with h | h
          ·exact h
          ·have:(i0+k)*ti.size≤j*ti.size:=Nat.mul_le_mul_right _ h
           rw [Nat.add_mul] at this
           omega)
     intro next Q hnx
     exact oC hrun (hnx _ _ I O (hRel.rP nid) (fun u z hu=>(keep u z hu).rP hRel nid) (.pure (.int _ _)))
  ·exact (dQ.aR h6).elim
 ·exact (dQ.aR h).elim
end
end Go.Ab



namespace Go.Ab
section
variable {P:Program} {cfg:rU} {cx:Ctx} {H:Nat→Option cB} {D:Nat→Prop} {w:World} {I:Nat→Prop} {O:OM} {Sp:kY}
variable {nid:Nat} {o:Oper} {a:Act} {ρ:Operand→AV} {v:AV} {ups:jh} {r:List Nat}
theorem U0 (g:Nat→AV) (ns:List Int):∀(k i:Nat) (s:ByteArray),k+i=ns.length→(∀j,i≤j→j<ns.length→g j=.int .u8 (ns.getD j 0))→Cz k i g s=(ns.drop i).foldl (fun r n=>r.push (UInt8.ofNat n.toNat)) s:=by
 intro k;induction k with
 | zero=>intro i s h _; rw [List.drop_eq_nil_of_le om]; rfl
 | succ k ih=>
  intro i s h hg;rw [show ns.drop i=ns.getD i 0::ns.drop (i+1) by rw [List.drop_eq_getElem_cons om,List.getD_eq_getElem?_getD,List.getElem?_eq_getElem om]; rfl];simp only [Cz,List.foldl_cons];rw [hg i (Nat.le_refl _) om];exact ih (i+1) _ om (fun j hj hj'=>hg j om hj')
theorem aaC (hc:fq P cfg) (hR:Rel cfg cx H D w I O) {src dst:TypeId} {x:Operand} (ho:o.op=.convert src dst x) (hx:Rep w I O D (ρ x) (a.eval x)) {td:Jf} (hd:look cfg.ty dst=some td) (hs:adI td.desc=true)
  (h:dQ Sp H (Tx cfg src (ρ x)) v ups r):dR P cfg cx H D w I O nid o a v ups:=by
 unfold Tx at h;obtain ⟨tt,e,ei,p1,p2,p3,h1⟩:=h.mQ;obtain ⟨hu8,h2⟩:=h1.bM;obtain ⟨hu,i,z,hi,hiz,hsz,_⟩:=hc.slice p1 p2 p3;obtain ⟨es,n,g,base,c,r1,hxv,h3,hreads⟩:=TK (P:=P) hR hx h2;obtain ⟨hes,h4⟩:=h3.bM;obtain ⟨hall,h5⟩:=h4.x9;obtain ⟨rfl,rfl⟩:=h5.dN;obtain ⟨cells,hcells,hrd⟩:=hreads 1 hes om;have hue:P.underlying e=some (.int .u8):=by
  obtain ⟨_,d,_,_,hud,_,_,_,_,_,_,_,hm⟩:=(hc.ty e ei p3).ex;unfold u8D at hu8;split at hu8
  ·rename_i hdd;rw [hdd] at hm;have hm:d=.int .u8:=hm;rw [hud,hm]
  ·cases hu8
 have hdd:P.underlying dst=some .string:=by
  obtain ⟨_,d,_,_,hud,_,_,_,_,_,_,_,hm⟩:=(hc.ty dst td hd).ex;unfold adI at hs;split at hs
  ·rename_i hq;rw [hq] at hm;have hm:d=.string:=hm;rw [hud,hm]
  ·cases hs
 have hus:∃ds,P.underlying src=some ds:=⟨_,hu⟩;let num:AV→Int:=fun u=>match u with | .int _ m=>m | _=>0
 have hg8:∀j,j<n→g j=.int .u8 (num (g j)):=fun j hj=>by
  have:=hall j hj;cases hgj:g j with
  | int k m=>rw [hgj] at this; cases k<;>first | rfl | cases this
  | _=>rw [hgj] at this; cases this
 obtain ⟨ns,hns⟩:∃ns:List Int,ns=(List.range n).map fun j=>num (g j):=⟨_,rfl⟩;have hnl:ns.length=n:=by rw [hns]; simp
 have hng:∀j,j<n→ns.getD j 0=num (g j):=fun j hj=>by
  rw [hns,List.getD_eq_getElem?_getD,List.getElem?_map,List.getElem?_range hj];rfl
 have hce:cells=(ns.map (Value.int .u8)).toArray:=by
  apply Array.ext
  ·rw [hcells.1]; simp [hnl]
  ·intro j h1 h2;have hj:j<n:=by have:=hcells.1; omega
   have h3:=((hcells.2 j hj).2 0 om).1;rw [hg8 j hj] at h3;have h4:PRep w I (.int .u8 (num (g j))) (cells.getD (j*1+0) Go.undef):=h3;have h5:cells.getD (j*1+0) Go.undef=.int .u8 (num (g j)):=(Rep.pure (O:=fun _=>none) (D:=fun _=>False) h4).fP;rw [Nat.mul_one,Nat.add_zero] at h5;have h6:cells.getD j Go.undef=cells[j]:=by simp [h1]
   rw [h6] at h5;rw [h5];have:=hng j hj;rw [List.getD_eq_getElem?_getD,List.getElem?_eq_getElem om] at this;simp at this;simp [this]
 have hval:Cz n 0 g ByteArray.empty=ns.foldl (fun r n=>r.push (UInt8.ofNat n.toNat)) ByteArray.empty:=by
  have:=U0 g ns n 0 ByteArray.empty om (fun j _ hj=>by rw [hng j om]; exact hg8 j om);rw [this,List.drop_zero]
 refine dR.dD (x:=.string (Cz n 0 g ByteArray.empty)) hR ?_ (.pure (.str _));rw [hval];simp only [execOp,ho,hxv,Sem.run_bind,run_convert_bytes_string w src dst e base n c hu hue hdd];cases base with
 | none=>
  have hn0:n=0:=by
   have h7:=hrd w rfl;rw [hxv] at h7;have h8:(#[]:Array Value)=cells:=by simpa [Builtin.firstCells] using h7
   have h9:=hcells.1;rw [← h8] at h9;simpa using h9.symm
  have:ns=[]:=List.eq_nil_of_length_eq_zero om;subst this;simp [Conv.bytesToString]
 | some ad=>
  have hload:(loadCells ad n).run P w=.ok (ns.map (Value.int .u8)).toArray w:=by
   have:=hrd w rfl;rw [hxv,hce] at this;have e1:Builtin.firstCells 1 n (.slice (some ad) n c)=loadCells ad (n*1):=rfl;rw [e1,Nat.mul_one] at this;exact this
  rw [run_bytesToString w ad n c ns hload];rfl
theorem WQ (hc:fq P cfg) (hR:Rel cfg cx H D w I O) {s d:TypeId} {x:Operand} (ho:o.op=.convert s d x) (hx:Rep w I O D (ρ x) (a.eval x))
  (h:dQ Sp H (eP cfg nid (.convert s d x) ρ) v ups r):dR P cfg cx H D w I O nid o a v ups:=by
 simp only [eP] at h;obtain ⟨ts,hs,h1⟩:=h.jR;obtain ⟨td,hd,h2⟩:=h1.jR;obtain ⟨_,ds,_,_,hus,_⟩:=(hc.ty s ts hs).ex;obtain ⟨_,dd,_,_,hud,_,_,_,_,_,_,_,hm⟩:=(hc.ty d td hd).ex;split at h2
 ·exact aaC hc hR ho hx hd (by assumption) h2
 split at h2
 ·rename_i k k' n e1 e2;rw [e2] at hx;rw [e1] at hm;have hm:dd=.int k:=hm;subst hm;obtain ⟨rfl,rfl⟩:=h2.dN;refine dR.dD (x:=.int k _) hR ?_ (.pure (.int _ _));simp [execOp,ho,hx.fP,convert,bO hus,bO hud,Conv.intToInt]
 ·exact (dQ.aR h2).elim
theorem aaD (hc:fq P cfg) (hR:Rel cfg cx H D w I O) {c:Call} (ho:o.op=.call c) (hcl:c.callee=.builtin .clear) (hx:∀x∈c.args.toList,Rep w I O D (ρ x) (a.eval x))
  (h:dQ Sp H (eP cfg nid (.call c) ρ) v ups r):dR P cfg cx H D w I O nid o a v ups:=by
 simp only [eP,hcl] at h;split at h
 ·rename_i ob i0 n full t e1 e2;obtain ⟨x,hargs,hd⟩:∃x,c.args=#[x]∧ρ x=.dh ob i0 n full:=by
   have hl:c.args.toList.length=1:=by
    have:=congrArg List.length e1;simpa using this
   match hh:c.args.toList,hl with
   | [x],_=>
    refine ⟨x,by rw [← Array.toList_inj]; simpa using hh,?_⟩
    rw [hh] at e1
    simpa using e1
  have hty:c.argTypes=#[t]:=by rw [← Array.toList_inj]; simpa using e2
  have hdr:Rep w I O D (.dh ob i0 n full) (a.eval x):=hd ▸ hx x (by simp [hargs]);obtain ⟨tt,e,ti,p1,p2,p3,h1⟩:=h.mQ;obtain ⟨hz,h2⟩:=h1.bM;obtain ⟨hpos,_⟩:=FH hz;obtain ⟨hu,i,z,hi,hiz,hsz,hby,hzs⟩:=hc.slice p1 p2 p3;obtain ⟨i',_,z',hi',_,hiz',_,_,_,_,hzl,hzm,_⟩:=(hc.ty e ti p3).ex;rw [hi] at hi'; cases hi';rw [hiz] at hiz'; cases hiz';obtain ⟨obj,_,hob,h3⟩:=h2.kK;obtain ⟨p,hp,hO⟩:=hR.live hob;have run:∀ {x' w'},(Builtin.clear_ #[t] o.type #[a.eval x]).run P w=.ok x' w'→(execOp a.eval o).run P w=.ok (.value x') w':=by
   intro x' w' hr;simp only [execOp,ho,hcl,resolve,invoke,builtin,Sem.run_bind,Sem.run_pure,Result.andThen_ok,hargs,hty,List.map_toArray,List.map_cons,List.map_nil,hr]
  cases obj with
  | map=>exact (dQ.aR h3).elim
  | box cs=>exact (dQ.aR h3).elim
  | row es N g=>
   obtain ⟨hes,h4⟩:=h3.bM;have hes:es=ti.size:=Nat.eq_of_beq_eq_true hes;obtain ⟨rfl,rfl⟩:=h4.jy;subst hes;have hpes:p.es=ti.size:=hO.2.1;have hpn:p.n=N:=hO.1;obtain ⟨aa,cap,hdv,a1,a2,a3,a4⟩:=hdr.kG hp;by_cases hn0:n=0
   ·subst hn0;have hr:(Builtin.clear_ #[t] o.type #[a.eval x]).run P w=.ok (.tuple #[]) w:=by
     rw [hdv];cases aa<;>simp [Builtin.clear_,bO hu]
    intro next Q hnx
    refine oC (run hr) (hnx _ w I O (by rw [P5,Ms hob]; exact hR.rP nid) (fun u y hu=>hu.rP hR nid) (.pure (.undef _)))
   ·obtain ⟨b,bo,sz,hpl,haa,hcapz⟩:=a4 om;have hcells:FI w I ti.size n (fun _=>zeroOf ti) ((Array.range (n*ti.size)).map (fun k=>z.cells[k % z.cells.size]!)):=by
     refine ⟨by simp,fun j hj=>?_⟩;rw [CJ hz hzl];refine ⟨by rw [gq]; exact hzl,fun q hq=>?_⟩;rw [Ak z.cells n j q ti.size hzs hj hq];exact ⟨yg _ _ ti.size hzl hzm q hq,KI _ _ ti.size hzm q hq⟩
    obtain ⟨hst,hRel,keep⟩:=hR.aaB (P:=P) (i0:=i0) (k:=n) hp hO hpl hpos hcells om;have hzc:Builtin.zeroCells z.cells n=(Array.range (n*ti.size)).map (fun k=>z.cells[k % z.cells.size]!):=by
     unfold Builtin.zeroCells;rw [hzs]
    have hr:(Builtin.clear_ #[t] o.type #[a.eval x]).run P w=.ok (.tuple #[]) (w.setCells b (bo+i0*ti.size) ((Array.range (n*ti.size)).map (fun k=>z.cells[k % z.cells.size]!)).toList):=by
     rw [hdv,haa,hpes];rw [← hzc] at hst ⊢;cases n with
     | zero=>exact absurd rfl hn0
     | succ n=>
      simp only [Builtin.clear_,List.getElem?_toArray,List.getElem?_cons_zero,Sem.run_bind,Sem.run_pure,bO hu,zeroValue,typeInfo,program,Sem.run,hi,hiz,Result.andThen] at hst ⊢;rw [hst]
    intro next Q hnx
    exact oC (run hr) (hnx _ _ I O (hRel.rP nid) (fun u y hu=>(keep u y hu).rP hRel nid) (.pure (.undef _)))
 ·exact (dQ.aR h).elim
end
end Go.Ab

namespace Go.Ab
section
variable {P:Program} {cfg:rU} {cx:Ctx} {H:Nat→Option cB} {D:Nat→Prop} {w:World} {I:Nat→Prop} {O:OM} {Sp:kY}
variable {nid:Nat} {o:Oper} {a:Act} {ρ:Operand→AV} {v:AV} {ups:jh} {r:List Nat}
theorem Rep.uG {u:AV} {x:Value} (h:Rep w I O D u x) (hp:lY u=true):PRep w I u x:=by
 cases h with
 | pure h=>exact h
 | _=>cases hp
theorem Rs {l:List AV} (h:sM l=true):∀j,j<l.length→lY (nth l j)=true:=by
 induction l with
 | nil=>intro j hj; cases hj
 | cons u l ih=>
  intro j hj;unfold sM at h;cases hv:lY u with
  | false=>simp [hv] at h
  | true=>
   simp only [hv] at h;cases j with
   | zero=>exact hv
   | succ j=>exact ih h j (by simpa using hj)
theorem Bb:∀(l:List Nat) (x k j:Nat),vE l x k=some j→k≤j∧j - k<l.length∧nthN l (j - k)=x:=by
 intro l;induction l with
 | nil=>intro x k j h; cases h
 | cons y l ih=>
  intro x k j h;unfold vE at h;cases hb:Nat.beq y x with
  | true=>
   simp only [hb] at h;cases h;exact ⟨Nat.le_refl _,by simp,by simp [nthN,Nat.eq_of_beq_eq_true hb]⟩
  | false=>
   simp only [hb] at h;obtain ⟨h1,h2,h3⟩:=ih x (k+1) j h;refine ⟨by omega,by simp; omega,?_⟩;have:j - k=(j - (k+1))+1:=by omega
   rw [this];exact h3
theorem U1:∀(sg:List Nat) (k:List cB→Pg) (r:List Nat),dQ Sp H (XV sg k) v ups r→∃obs r',dQ Sp H (k obs) v ups r'∧obs.length=sg.length∧∀j,j<sg.length→∃x,hof obs j=some x∧H (nthN sg j)=some x:=by
 intro sg;induction sg with
 | nil=>intro k r h; exact ⟨[],r,h,rfl,fun j hj=>by cases hj⟩
 | cons x sg ih=>
  intro k r h;simp only [XV] at h;obtain ⟨ob,r1,hob,h1⟩:=h.kK;obtain ⟨obs,r2,h2,h3,h4⟩:=ih _ _ h1;refine ⟨ob::obs,r2,h2,by simp [h3],fun j hj=>?_⟩;cases j with
  | zero=>exact ⟨ob,rfl,hob⟩
  | succ j=>exact h4 j (by simpa using hj)
def subO (O:OM) (sg:List Nat):OM:=fun j=>if j<sg.length then O (nthN sg j) else none
theorem Ie (hR:Rel cfg cx H D w I O) {sg:List Nat} (hlive:∀j,j<sg.length→∃x,H (nthN sg j)=some x) {o j:Nat} (h:vE sg o 0=some j):j<sg.length∧∃p,O o=some p∧subO O sg j=some p:=by
 obtain ⟨_,h2,h3⟩:=Bb sg o 0 j h;simp only [Nat.sub_zero] at h2 h3;obtain ⟨y,hy⟩:=hlive j h2;rw [h3] at hy;obtain ⟨p,hp,_⟩:=hR.live hy;exact ⟨h2,p,hp,by unfold subO; rw [if_pos h2,h3]; exact hp⟩
theorem U2 (hR:Rel cfg cx H D w I O) {sg:List Nat} (hlive:∀j,j<sg.length→∃x,H (nthN sg j)=some x) {u:AV} {k:AV→Pg} {r:List Nat} (h:dQ Sp H (Z0 sg u k) v ups r):
  ∃u',dQ Sp H (k u') v ups r∧∀(I':Nat→Prop) (_:∀b,I b→I' b) x,Rep w I O D u x→Rep w I' (subO O sg) (fun o=>o<sg.length) u' x:=by
 have pureCase:lY u=true→∀(I':Nat→Prop) (_:∀b,I b→I' b) x,Rep w I O D u x→Rep w I' (subO O sg) (fun o=>o<sg.length) u x:=fun hp I' hI x hx=>.pure ((hx.uG hp).mono hI (fun _ _=>rfl));unfold Z0 at h;split at h
 ·rename_i ob i off;cases hi:vE sg ob 0 with
  | none=>rw [hi] at h; exact (dQ.aR h).elim
  | some j=>
   rw [hi] at h;obtain ⟨h1,p,h2,h3⟩:=Ie hR hlive hi;refine ⟨_,h,fun I' hI x hx=>?_⟩;obtain ⟨b,bo,sz,q1,q2,rfl⟩:=hx.lF h2;exact .ptr h3 q1 q2
 ·rename_i ob i n f;cases hi:vE sg ob 0 with
  | none=>rw [hi] at h; exact (dQ.aR h).elim
  | some j=>
   rw [hi] at h;obtain ⟨h1,p,h2,h3⟩:=Ie hR hlive hi;refine ⟨_,h,fun I' hI x hx=>?_⟩;obtain ⟨aa,cap,rfl,q1,q2,q3,q4⟩:=hx.kG h2;exact .dh h3 q1 q2 q3 q4 (hx.zA h2)
 ·obtain ⟨hp,h⟩:=h.bM;exact ⟨_,h,pureCase hp⟩
theorem WR (hR:Rel cfg cx H D w I O) {sg:List Nat} (hlive:∀j,j<sg.length→∃x,H (nthN sg j)=some x):∀(l:List AV) (k:List AV→Pg) (r:List Nat),dQ Sp H (YA sg l k) v ups r→
  ∃l',dQ Sp H (k l') v ups r∧l'.length=l.length∧∀j,j<l.length→∀(I':Nat→Prop) (_:∀b,I b→I' b) x,Rep w I O D (nth l j) x→Rep w I' (subO O sg) (fun o=>o<sg.length) (nth l' j) x:=by
 intro l;induction l with
 | nil=>intro k r h; exact ⟨[],h,rfl,fun j hj=>by cases hj⟩
 | cons u l ih=>
  intro k r h;simp only [YA] at h;obtain ⟨u',h1,h2⟩:=U2 hR hlive h;obtain ⟨l',h3,h4,h5⟩:=ih _ _ h1;refine ⟨u'::l',h3,by simp [h4],fun j hj I' hI x hx=>?_⟩;cases j with
  | zero=>exact h2 I' hI x hx
  | succ j=>exact h5 j (by simpa using hj) I' hI x hx
theorem P8 (hR:Rel cfg cx H D w I O) {sg:List Nat} (hlive:∀j,j<sg.length→∃x,H (nthN sg j)=some x) {f:FuncId} {cs:List AV} {k:List AV→Pg} {r:List Nat} (h:dQ Sp H (YA sg cs k) v ups r):
  ∃cs',dQ Sp H (k cs') v ups r∧∀(I':Nat→Prop) (_:∀b,I b→I' b) x,Rep w I O D (.fn f cs) x→Rep w I' (subO O sg) (fun o=>o<sg.length) (.fn f cs') x:=by
 obtain ⟨cs',h1,h2,h3⟩:=WR hR hlive cs _ _ h;refine ⟨cs',h1,fun I' hI x hx=>?_⟩;obtain ⟨xs,rfl,hl,hr⟩:=hx.FC;exact .fn (by rw [h2]; exact hl) fun j hj=>h3 j om I' hI _ (hr j om)
theorem Ji (hR:Rel cfg cx H D w I O) {sg:List Nat} (hlive:∀j,j<sg.length→∃x,H (nthN sg j)=some x) {u:AV} {k:AV→List Nat→Pg} (h:dQ Sp H (H9 sg u k) v ups r):
  ∃u' ids r',dQ Sp H (k u' ids) v ups r'∧∀x,Rep w I O D u x→Rep w (fun b=>I b∨zl O ids b) (subO O sg) (fun o=>o<sg.length) u' x:=by
 have dflt:∀ {u:AV} {r:List Nat},dQ Sp H (Sl fuel u k) v ups r→∃u' ids r',dQ Sp H (k u' ids) v ups r'∧∀x,Rep w I O D u x→Rep w (fun b=>I b∨zl O ids b) (subO O sg) (fun o=>o<sg.length) u' x:=by
  intro u r h;obtain ⟨u',ids,r',h1,h2⟩:=(Ba hR fuel).1 _ _ _ _ _ h;exact ⟨u',ids,r',h1,fun x hx=>.pure (h2 x hx)⟩
 unfold H9 at h;split at h
 ·rename_i ob i off;cases hi:vE sg ob 0 with
  | none=>rw [hi] at h; exact dflt h
  | some j=>
   rw [hi] at h;obtain ⟨_,h2,h3⟩:=Bb sg ob 0 j hi;simp only [Nat.sub_zero] at h2 h3;refine ⟨_,_,r,h,fun x hx=>?_⟩;obtain ⟨y,hy⟩:=hlive j h2;rw [h3] at hy;obtain ⟨p,hp,_⟩:=hR.live hy;obtain ⟨b,bo,sz,q1,q2,rfl⟩:=hx.lF hp;exact .ptr (by unfold subO; rw [if_pos h2,h3]; exact hp) q1 q2
 ·rename_i ob i n f;cases hi:vE sg ob 0 with
  | none=>rw [hi] at h; exact dflt h
  | some j=>
   rw [hi] at h;obtain ⟨_,h2,h3⟩:=Bb sg ob 0 j hi;simp only [Nat.sub_zero] at h2 h3;refine ⟨_,_,r,h,fun x hx=>?_⟩;obtain ⟨y,hy⟩:=hlive j h2;rw [h3] at hy;obtain ⟨p,hp,_⟩:=hR.live hy;obtain ⟨aa,cap,rfl,q1,q2,q3,q4⟩:=hx.kG hp;exact .dh (by unfold subO; rw [if_pos h2,h3]; exact hp) q1 q2 q3 q4 (hx.zA hp)
 ·rename_i f cs;cases hi:ado sg (UF cs) with
  | false=>rw [hi] at h; exact dflt h
  | true=>
   rw [hi] at h;obtain ⟨cs',h1,h2⟩:=P8 (f:=f) hR hlive h;exact ⟨_,_,r,h1,fun x hx=>h2 _ (fun b hb=>.inl hb) x hx⟩
 ·exact dflt h
theorem FJ (hR:Rel cfg cx H D w I O) {sg:List Nat} (hlive:∀j,j<sg.length→∃x,H (nthN sg j)=some x):∀(l:List AV) (k:List AV→List Nat→Pg) (r:List Nat),dQ Sp H (AZ sg l k) v ups r→
  ∃l' ids r',dQ Sp H (k l' ids) v ups r'∧l'.length=l.length∧∀j,j<l.length→∀x,Rep w I O D (nth l j) x→Rep w (fun b=>I b∨zl O ids b) (subO O sg) (fun o=>o<sg.length) (nth l' j) x:=by
 intro l;induction l with
 | nil=>intro k r h; exact ⟨[],[],r,h,rfl,fun j hj=>by cases hj⟩
 | cons u l ih=>
  intro k r h;simp only [AZ] at h;obtain ⟨u',i1,r1,h1,h2⟩:=Ji hR hlive h;obtain ⟨l',i2,r2,h3,h4,h5⟩:=ih _ _ h1;have hused:∀o p,subO O sg o=some p→o<sg.length:=fun o p h=>by
   unfold subO at h;split at h
   ·assumption
   ·cases h
  refine ⟨u'::l',i1++i2,r2,h3,by simp [h4],fun j hj x hx=>?_⟩;cases j with
  | zero=>exact (h2 x hx).mono (fun b h=>h.elim .inl fun h=>.inr h.WJ) (fun _ _=>rfl) (fun _ _=>.inl rfl) (fun _ h=>h) hused
  | succ j=>exact (h5 j (by simpa using hj) x hx).mono (fun b h=>h.elim .inl fun h=>.inr h.WK) (fun _ _=>rfl) (fun _ _=>.inl rfl) (fun _ h=>h) hused
theorem CO:∀(l:List Nat),lD l=true→∀i j,i<l.length→j<l.length→nthN l i=nthN l j→i=j:=by
 have mem:∀(l:List Nat) (j:Nat),j<l.length→nthN l j∈l:=by
  intro l;induction l with
  | nil=>intro j hj; cases hj
  | cons x l ih=>intro j hj; cases j with
   | zero=>simp [nthN]
   | succ j=>exact List.mem_cons_of_mem _ (ih j (by simpa using hj))
 intro l;induction l with
 | nil=>intro _ i j hi; cases hi
 | cons x l ih=>
  intro h i j hi hj he;unfold lD at h;cases hm:wK x l with
  | true=>simp [hm] at h
  | false=>
   simp only [hm] at h;have hx:=sO hm;cases i with
   | zero=>cases j with
    | zero=>rfl
    | succ j=>simp only [nthN] at he; exact absurd (he ▸ mem l j (by simpa using hj)) hx
   | succ i=>cases j with
    | zero=>simp only [nthN] at he; exact absurd (he ▸ mem l i (by simpa using hi)) hx
    | succ j=>simp only [nthN] at he; rw [ih h i j (by simpa using hi) (by simpa using hj) he]
theorem mU:∀(l:List Nat) (j:Nat),j<l.length→nthN l j∈l:=by
 intro l;induction l with
 | nil=>intro j hj; cases hj
 | cons x l ih=>intro j hj; cases j with
  | zero=>simp [nthN]
  | succ j=>exact List.mem_cons_of_mem _ (ih j (by simpa using hj))
theorem P9:∀(l:List Nat) (x:Nat),x∈l→∃j,j<l.length∧nthN l j=x:=by
 intro l;induction l with
 | nil=>intro x h; cases h
 | cons y l ih=>
  intro x h;rcases List.mem_cons.1 h with h | h
  ·exact ⟨0,by simp,h.symm⟩
  ·obtain ⟨j,h1,h2⟩:=ih x h;exact ⟨j+1,by simp; omega,h2⟩
theorem JW:∀(l m:List Nat),Fq l m=true→∀x∈l,x ∉ m:=by
 intro l;induction l with
 | nil=>intro m _ x hx; cases hx
 | cons y l ih=>
  intro m h x hx;unfold Fq at h;cases hm:wK y m with
  | true=>simp [hm] at h
  | false=>
   simp only [hm] at h;rcases List.mem_cons.1 hx with hx | hx
   ·subst hx; exact sO hm
   ·exact ih m h x hx
theorem WS (hR:Rel cfg cx H D w I O) {sg:List Nat} (hlive:∀j,j<sg.length→∃x,H (nthN sg j)=some x) {u:AV} {k:AV→Pg} {r:List Nat} (h:dQ Sp H (inv1 sg u k) v ups r):
  ∃u',dQ Sp H (k u') v ups r∧∀(I':Nat→Prop) (_:∀b,I b→I' b) x,Rep w I O D u x→Rep w I' (subO O sg) (fun o=>o<sg.length) u' x:=by
 have pureCase:lY u=true→∀(I':Nat→Prop) (_:∀b,I b→I' b) x,Rep w I O D u x→Rep w I' (subO O sg) (fun o=>o<sg.length) u x:=fun hp I' hI x hx=>.pure ((hx.uG hp).mono hI (fun _ _=>rfl));unfold inv1 at h;split at h
 ·rename_i ob i off;cases hi:vE sg ob 0 with
  | none=>rw [hi] at h; exact (dQ.aR h).elim
  | some j=>
   rw [hi] at h;obtain ⟨h1,p,h2,h3⟩:=Ie hR hlive hi;refine ⟨_,h,fun I' hI x hx=>?_⟩;obtain ⟨b,bo,sz,q1,q2,rfl⟩:=hx.lF h2;exact .ptr h3 q1 q2
 ·rename_i ob i n f;cases hi:vE sg ob 0 with
  | none=>rw [hi] at h; exact (dQ.aR h).elim
  | some j=>
   rw [hi] at h;obtain ⟨h1,p,h2,h3⟩:=Ie hR hlive hi;refine ⟨_,h,fun I' hI x hx=>?_⟩;obtain ⟨aa,cap,rfl,q1,q2,q3,q4⟩:=hx.kG h2;exact .dh h3 q1 q2 q3 q4 (hx.zA h2)
 ·rename_i f cs;obtain ⟨cs',h1,h2⟩:=P8 (f:=f) hR hlive h;exact ⟨_,h1,h2⟩
 ·obtain ⟨hp,h⟩:=h.bM;exact ⟨_,h,pureCase hp⟩
theorem WT (hR:Rel cfg cx H D w I O) {sg:List Nat} (hlive:∀j,j<sg.length→∃x,H (nthN sg j)=some x):∀(l:List AV) (k:List AV→Pg) (r:List Nat),dQ Sp H (ab2 sg l k) v ups r→
  ∃l',dQ Sp H (k l') v ups r∧l'.length=l.length∧∀j,j<l.length→∀(I':Nat→Prop) (_:∀b,I b→I' b) x,Rep w I O D (nth l j) x→Rep w I' (subO O sg) (fun o=>o<sg.length) (nth l' j) x:=by
 intro l;induction l with
 | nil=>intro k r h; exact ⟨[],h,rfl,fun j hj=>by cases hj⟩
 | cons u l ih=>
  intro k r h;simp only [ab2] at h;obtain ⟨u',h1,h2⟩:=WS hR hlive h;obtain ⟨l',h3,h4,h5⟩:=ih _ _ h1;refine ⟨u'::l',h3,by simp [h4],fun j hj I' hI x hx=>?_⟩;cases j with
  | zero=>exact h2 I' hI x hx
  | succ j=>exact h5 j (by simpa using hj) I' hI x hx
theorem WU (hR:Rel cfg cx H D w I O) {sg:List Nat} (hlive:∀j,j<sg.length→∃x,H (nthN sg j)=some x) {ob:cB} {k:cB→Pg} {r:List Nat} (h:dQ Sp H (aeB sg ob k) v ups r):
  ∃ob',dQ Sp H (k ob') v ups r∧(∀kd z f,ob'≠.map kd z f)∧∀(I':Nat→Prop) (_:∀b,I b→I' b) p,fM w I O D p ob→fM w I' (subO O sg) (fun o=>o<sg.length) p ob':=by
 cases ob with
 | map=>exact (dQ.aR h).elim
 | box cs=>
  obtain ⟨cs',h1,h2,h3⟩:=WT hR hlive cs _ _ h;refine ⟨_,h1,(fun _ _ _ h=>by cases h),fun I' hI p hp=>?_⟩;obtain ⟨q1,b,bo,sz,q2,q3,q4,q5⟩:=hp;exact ⟨q1,b,bo,sz,q2,q3,by rw [h2]; exact q4,fun j hj=>h3 j om I' hI _ (q5 j om)⟩
 | row es n g=>
  refine ⟨_,h,(fun _ _ _ h=>by cases h),fun I' hI p hp=>?_⟩;obtain ⟨q1,q2,q3,q4⟩:=hp;refine ⟨q1,q2,q3,?_⟩;rcases q4 with q4 | ⟨b,bo,sz,e1,e2,e3,e4⟩
  ·exact .inl q4
  ·exact .inr ⟨b,bo,sz,e1,e2,e3,fun i j hi hj=>⟨(e4 i j hi hj).1.mono hI (fun _ _=>rfl),(e4 i j hi hj).2⟩⟩
theorem U3 (hR:Rel cfg cx H D w I O) {sg:List Nat} (hlive:∀j,j<sg.length→∃x,H (nthN sg j)=some x):∀(l:List cB) (k:List cB→Pg) (r:List Nat),dQ Sp H (XW sg l k) v ups r→
  ∃l',dQ Sp H (k l') v ups r∧l'.length=l.length∧∀j x,hof l j=some x→∃y,hof l' j=some y∧(∀kd z f,y≠.map kd z f)∧∀(I':Nat→Prop) (_:∀b,I b→I' b) p,fM w I O D p x→fM w I' (subO O sg) (fun o=>o<sg.length) p y:=by
 intro l;induction l with
 | nil=>intro k r h; exact ⟨[],h,rfl,fun j x hx=>by cases hx⟩
 | cons ob l ih=>
  intro k r h;simp only [XW] at h;obtain ⟨y,h1,h2⟩:=WU hR hlive h;obtain ⟨l',h3,h4,h5⟩:=ih _ _ h1;refine ⟨y::l',h3,by simp [h4],fun j x hx=>?_⟩;cases j with
  | zero=>cases hx; exact ⟨y,rfl,h2⟩
  | succ j=>exact h5 j x hx
theorem TL:∀(f:Nat) (todo sg:List Nat) (k:List Nat→Pg) (r:List Nat),dQ Sp H (Pw f todo sg k) v ups r→∃sg' r',dQ Sp H (k sg') v ups r':=by
 intro f;induction f with
 | zero=>intro todo sg k r h; exact (dQ.aR h).elim
 | succ f ih=>
  intro todo sg k r h;cases todo with
  | nil=>exact ⟨sg,r,h⟩
  | cons o todo=>
   simp only [Pw] at h;cases hm:wK o sg with
   | true=>rw [hm] at h; exact ih _ _ _ _ h
   | false=>
    rw [hm] at h;cases h with
    | rd ho h=>exact ih _ _ _ _ h
theorem Rel.sub (hR:Rel cfg cx H D w I O) {sg ids:List Nat} {obs:List cB} (hnd:lD sg=true) (hdj:Fq ids sg=true) (hl:obs.length=sg.length) (hobs:∀j,j<sg.length→∃x y,hof obs j=some y∧H (nthN sg j)=some x∧(∀kd z f,y≠.map kd z f)∧∀p,fM w I O D p x→fM w (fun b=>I b∨zl O ids b) (subO O sg) (fun o=>o<sg.length) p y):
  Rel cfg (EO w (fun b=>I b∨zl O ids b) (subO O sg) obs.length) (hof obs) (fun o=>o<obs.length) w (fun b=>I b∨zl O ids b) (subO O sg):=by
 have hsub:∀ {j p},subO O sg j=some p→j<sg.length∧O (nthN sg j)=some p:=fun h=>by
  unfold subO at h;split at h
  ·exact ⟨by assumption,h⟩
  ·cases h
 have hof_none:∀(l:List cB) (j:Nat),l.length≤j→hof l j=none:=by
  intro l;induction l with
  | nil=>intro j _; rfl
  | cons x l ih=>intro j hj; cases j with
   | zero=>simp at hj
   | succ j=>exact ih j (by simpa using hj)
 exact {
  maps:=fun j kd z f p b bo sz h h' _=>by
   obtain ⟨h1,_⟩:=hsub h'
   obtain ⟨x,y,h3,_,h5,_⟩:=hobs j h1
   rw [h] at h3
   exact absurd (Option.some.inj h3).symm (h5 kd z f)
  dom:=fun j=>by
   unfold subO
   by_cases hj:j<sg.length
   ·obtain ⟨x,y,h1,h2,_,_⟩:=hobs j hj
    obtain ⟨p,hp,_⟩:=hR.live h2
    simp [hj,h1,hp]
   ·rw [if_neg hj,hof_none obs j om]
    simp
  used:=fun j p h=>by have:=(hsub h).1; omega
  objs:=fun j ob p h h'=>by
   obtain ⟨h1,h2⟩:=hsub h'
   obtain ⟨x,y,h3,h4,_,h5⟩:=hobs j h1
   rw [h] at h3
   cases h3
   rw [hl]
   exact h5 p (hR.objs _ _ p h4 h2)
  inj:=fun j j' p p' b bo sz b' bo' sz' h1 h2 h3 h4 h5=>by
   obtain ⟨q1,q2⟩:=hsub h1
   obtain ⟨q3,q4⟩:=hsub h2
   exact hR.inj _ _ p p' b bo sz b' bo' sz' q2 q4 h3 h4 (fun e=>h5 (CO sg hnd j j' q1 q3 e))
  lZ:=fun j p b bo sz h1 h2 h3=>by
   obtain ⟨q1,q2⟩:=hsub h1
   rcases h3 with h3 | ⟨o',p',bo',sz',q3,q4,q5⟩
   ·exact hR.lZ _ p b bo sz q2 h2 h3
   ·exact hR.inj _ o' p p' b bo sz b bo' sz' q2 q4 h2 q5 (fun e=>JW ids sg hdj o' q3 (e ▸ mU sg j q1)) rfl
  lt:=fun j p b bo sz h1 h2=>hR.lt _ p b bo sz (hsub h1).2 h2
  vF:=(hR.freeze ids).vF
  size:=Nat.le_refl _
  frame:=fun _ _ _=>rfl
  env:=⟨eZ.refl _,fun _ _ h=>h.elim⟩
  new:=fun j p b bo sz h1 h2=>.inr ⟨j,p,bo,sz,h1,h2⟩
  glob:=(hR.freeze ids).glob
  KE:=fun _ h=>h
  NC:=fun _ h=>.inl h
  PN:=fun _ _=>.inl rfl
  Dm:=fun _ h=>h }
end
end Go.Ab

namespace Go.Ab
section
variable {P:Program} {cfg:rU} {cx:Ctx} {H:Nat→Option cB} {D:Nat→Prop} {w:World} {I:Nat→Prop} {O:OM}
variable {nid:Nat} {o:Oper} {a:Act} {ρ:Operand→AV} {v:AV} {ups:jh} {r:List Nat}
theorem U4 {f:FuncId} {vals:Array Value} {next:Act→World→Prop} {Q:Exit→Act→World→Prop} (h:(execOp a.eval o).run P w=.ok (.enter f vals) w)
  (hc:Calls P f vals w fun e w'=>∃x,e=.returned x∧next (a.put o.dst x) w'):o.wp P a w next Q:=by
 unfold Oper.wp;rw [h];exact hc.mono fun e w' ⟨x,he,hn⟩=>by subst he; exact hn
theorem NI {w':World} {I':Nat→Prop} {u:AV} {x:Value} (h:Rep w I O D u x) (hm:Pt u=true):PRep w' I' u x:=by
 cases u<;>first | cases hm | skip
 ·rw [h.jw]; exact .bool _
 ·rw [h.fP]; exact .int _ _
 ·rw [h.wM]; exact .str _
theorem WV {l:List AV} (h:Tt l=true):∀j,j<l.length→Pt (nth l j)=true:=by
 induction l with
 | nil=>intro j hj; cases hj
 | cons u l ih=>
  intro j hj;unfold Tt at h;cases hv:Pt u with
  | false=>simp [hv] at h
  | true=>
   simp only [hv] at h;cases j with
   | zero=>exact hv
   | succ j=>exact ih h j (by simpa using hj)
theorem NJ {w':World} {I':Nat→Prop} {u:AV} {x:Value} (h:Rep w I O D u x) (hm:Pv u=true):PRep w' I' u x:=by
 cases u with
 | agg cs=>
  obtain ⟨vs,rfl,hl,hr⟩:=h.qH;exact .agg hl fun j hj=>NI (hr j hj) (WV hm j hj)
 | _=>exact NI h hm
theorem WW {l:List AV} (h:Tv l=true):∀j,j<l.length→Pv (nth l j)=true:=by
 induction l with
 | nil=>intro j hj; cases hj
 | cons u l ih=>
  intro j hj;unfold Tv at h;cases hv:Pv u with
  | false=>simp [hv] at h
  | true=>
   simp only [hv] at h;cases j with
   | zero=>exact hv
   | succ j=>exact ih h j (by simpa using hj)
theorem WX {w':World} {I':Nat→Prop} {u:AV} {x:Value} (h:Rep w I O D u x) (hm:Z4 u=true):PRep w' I' u x:=by
 cases u with
 | jX cs=>
  obtain ⟨vs,rfl,hl,hr⟩:=h.CG;exact .jX hl fun j hj=>NJ (hr j hj) (WW hm j hj)
 | _=>exact NJ h hm
theorem aaE:∀(l:List cB) (j:Nat),j<l.length→∃x,hof l j=some x:=by
 intro l;induction l with
 | nil=>intro j hj; cases hj
 | cons x l ih=>intro j hj; cases j with
  | zero=>exact ⟨x,rfl⟩
  | succ j=>exact ih j (by simpa using hj)
theorem hof_none:∀(l:List cB) (j:Nat),l.length≤j→hof l j=none:=by
 intro l;induction l with
 | nil=>intro j _; rfl
 | cons x l ih=>intro j hj; cases j with
  | zero=>simp at hj
  | succ j=>exact ih j (by simpa using hj)
theorem FK {α:Type}:∀(l m:List (Nat×α)) (k:Nat),look (l++m) k=match look l k with | some x=>some x | none=>look m k:=by
 intro l;induction l with
 | nil=>intro m k; rfl
 | cons p l ih=>
  intro m k;obtain ⟨q,x⟩:=p;simp only [List.cons_append,look];cases Nat.beq q k<;>simp [ih]
theorem TM:∀(l:List Nat) (obs:List cB) (j:Nat) (x:cB),lD l=true→j<l.length→hof obs j=some x→look (xW l obs) (nthN l j)=some (gz x):=by
 intro l;induction l with
 | nil=>intro obs j x _ hj; cases hj
 | cons y l ih=>
  intro obs j x hnd hj hx;cases obs with
  | nil=>cases hx
  | cons ob obs=>
   have hnd':lD l=true∧y ∉ l:=by
    unfold lD at hnd;cases hm:wK y l with
    | true=>simp [hm] at hnd
    | false=>simp only [hm] at hnd; exact ⟨hnd,sO hm⟩
   cases j with
   | zero=>simp [hof] at hx; subst hx; simp [xW,look,nthN]
   | succ j=>
    simp only [xW,look,nthN];have hne:Nat.beq y (nthN l j)=false:=by
     cases hb:Nat.beq y (nthN l j) with
     | false=>rfl
     | true=>exact absurd (Nat.eq_of_beq_eq_true hb ▸ mU l j (by simpa using hj)) hnd'.2
    rw [hne];exact ih obs j x hnd'.1 (by simpa using hj) hx
theorem Rt:∀(l:List Nat) (obs:List cB) (k:Nat),(∀j,j<l.length→j<obs.length→nthN l j≠k)→look (xW l obs) k=none:=by
 intro l;induction l with
 | nil=>intro obs k _; cases obs<;>rfl
 | cons y l ih=>
  intro obs k h;cases obs with
  | nil=>rfl
  | cons ob obs=>
   simp only [xW,look];have hne:Nat.beq y k=false:=by
    cases hb:Nat.beq y k with
    | false=>rfl
    | true=>exact absurd (Nat.eq_of_beq_eq_true hb) (h 0 (by simp) (by simp))
   rw [hne];exact ih obs k (fun j h1 h2=>h (j+1) (by simp; omega) (by simp; omega))
theorem WY:∀(n i:Nat),(iT n i).length=n:=by
 intro n;induction n with
 | zero=>intro i; rfl
 | succ n ih=>intro i; simp [iT,ih]
theorem WZ:∀(n i j:Nat),j<n→nthN (iT n i) j=i+j:=by
 intro n;induction n with
 | zero=>intro i j h; omega
 | succ n ih=>
  intro i j h;cases j with
  | zero=>rfl
  | succ j=>
   show nthN (iT n (i+1)) j=_;rw [ih (i+1) j om];omega
theorem W9 (l m:List Nat) (j:Nat) (h:j<l.length):nthN (l++m) j=nthN l j:=by
 induction l generalizing j with
 | nil=>cases h
 | cons x l ih=>cases j with
  | zero=>rfl
  | succ j=>exact ih j (by simpa using h)
theorem Xa (l m:List Nat) (j:Nat) (h:l.length≤j):nthN (l++m) j=nthN m (j - l.length):=by
 induction l generalizing j with
 | nil=>rfl
 | cons x l ih=>cases j with
  | zero=>simp at h
  | succ j=>
   show nthN (l++m) j=_
   rw [ih j (by simpa using h)]
   simp
theorem Ru:∀(l:List Nat),(∀i j,i<l.length→j<l.length→nthN l i=nthN l j→i=j)→lD l=true:=by
 intro l;induction l with
 | nil=>intro _; rfl
 | cons x l ih=>
  intro h;unfold lD;have hm:wK x l=false:=by
   cases hb:wK x l with
   | false=>rfl
   | true=>
    have key:∀m:List Nat,wK x m=true→∃j,j<m.length∧nthN m j=x:=by
     intro m;induction m with
     | nil=>intro h; cases h
     | cons y m ihm=>
      intro h;unfold wK at h;cases hxy:Nat.beq x y with
      | true=>exact ⟨0,by simp,(Nat.eq_of_beq_eq_true hxy).symm⟩
      | false=>
       rw [hxy] at h;obtain ⟨j,h1,h2⟩:=ihm h;exact ⟨j+1,by simpa using h1,h2⟩
    obtain ⟨j,h1,h2⟩:=key l hb;have:=h 0 (j+1) (by simp) (by simpa using h1) h2.symm;omega
  rw [hm];refine ih fun i j hi hj e=>?_;have:=h (i+1) (j+1) (by simpa using hi) (by simpa using hj) e;omega
theorem KM (sg:List Nat) (l:List AV):(YB sg l).length=l.length:=by
 induction l with
 | nil=>rfl
 | cons v l ih=>simp [YB,ih]
theorem U5 (sg:List Nat):∀(l:List AV) (j:Nat),nth (YB sg l) j=Fu sg (nth l j):=by
 intro l;induction l with
 | nil=>intro j; rfl
 | cons v l ih=>intro j; cases j with
  | zero=>rfl
  | succ j=>exact ih j
theorem SB (sg:List Nat) (l:List AV):(UH sg l).length=l.length:=by
 induction l with
 | nil=>rfl
 | cons v l ih=>simp [UH,ih]
theorem YK (sg:List Nat):∀(l:List AV) (j:Nat),nth (UH sg l) j=Fv sg (nth l j):=by
 intro l;induction l with
 | nil=>intro j; rfl
 | cons v l ih=>intro j; cases j with
  | zero=>rfl
  | succ j=>exact ih j
theorem YL (sg:List Nat):∀(l:List cB) (j:Nat),hof (Px sg l) j=(hof l j).map (Rm sg):=by
 intro l;induction l with
 | nil=>intro j; rfl
 | cons v l ih=>intro j; cases j with
  | zero=>rfl
  | succ j=>exact ih j
theorem U6 {l:List AV} (h:Z7 l=true):∀j,j<l.length→Z6 (nth l j)=true:=by
 induction l with
 | nil=>intro j hj; cases hj
 | cons v l ih=>
  intro j hj;unfold Z7 at h;cases hv:Z6 v with
  | false=>simp [hv] at h
  | true=>
   simp only [hv] at h;cases j with
   | zero=>exact hv
   | succ j=>exact ih h j (by simpa using hj)
theorem YM {l:List AV} (h:XY l=true):∀j,j<l.length→Z8 (nth l j)=true:=by
 induction l with
 | nil=>intro j hj; cases hj
 | cons v l ih=>
  intro j hj;unfold XY at h;cases hv:Z8 v with
  | false=>simp [hv] at h
  | true=>
   simp only [hv] at h;cases j with
   | zero=>exact hv
   | succ j=>exact ih h j (by simpa using hj)
theorem YN:∀(l:List Nat) (x k:Nat),vE l x k=none→x ∉ l:=by
 intro l;induction l with
 | nil=>intro x k _ h; cases h
 | cons y l ih=>
  intro x k h hm;unfold vE at h;cases hb:Nat.beq y x with
  | true=>simp [hb] at h
  | false=>
   simp only [hb] at h;rcases List.mem_cons.1 hm with e | e
   ·subst e; simp at hb
   ·exact ih x (k+1) h e
theorem acr:∀(l:List cB) (j:Nat) (x:cB),hof l j=some x→zn l j=gz x:=by
 intro l;induction l with
 | nil=>intro j x h; cases h
 | cons y l ih=>
  intro j x h;cases j with
  | zero=>cases h; rfl
  | succ j=>exact ih j x h
theorem SC {l:List cB} (h:XZ l=true):∀j x,hof l j=some x→okCO x=true:=by
 induction l with
 | nil=>intro j x hx; cases hx
 | cons v l ih=>
  intro j x hx;unfold XZ at h;cases hv:okCO v with
  | false=>simp [hv] at h
  | true=>
   simp only [hv] at h;cases j with
   | zero=>cases hx; exact hv
   | succ j=>exact ih h j x hx
theorem U7 (sg:List Nat):∀(l:List AV),(Ab.Z5 sg l).length=l.length:=by
 intro l;induction l with
 | nil=>rfl
 | cons v l ih=>simp [Ab.Z5,ih]
theorem aaF (sg:List Nat):∀(l:List AV) (j:Nat),nth (Ab.Z5 sg l) j=Ab.UG sg (nth l j):=by
 intro l;induction l with
 | nil=>intro j; rfl
 | cons v l ih=>intro j; cases j with
  | zero=>rfl
  | succ j=>exact ih j
theorem acs {l:List AV} (h:okA l=true):∀j,j<l.length→ab4 (nth l j)=true:=by
 induction l with
 | nil=>intro j hj; cases hj
 | cons v l ih=>
  unfold okA at h;cases hv:ab4 v with
  | false=>rw [hv] at h; cases h
  | true=>
   rw [hv] at h;intro j hj;cases j with
   | zero=>exact hv
   | succ j=>exact ih h j (by simpa using hj)
section back
variable {w':World} {I':Nat→Prop} {O' On:OM} {n:Nat} {D2:Nat→Prop} {full:List Nat}
theorem Rep.UG (hlive:∀j,j<n→D2 (nthN full j)) (hused:∀j p,O' j=some p→j<n) (hon:∀j,j<n→On (nthN full j)=O' j) {u:AV} {x:Value} (hu:ab4 u=true) (h:Rep w' I' O' (fun k=>k<n) u x):Rep w' I' On D2 (Ab.UG full u) x:=by
 cases u with
 | ptr j i off=>
  cases hj:O' j with
  | none=>
   have hlt:j<n:=by
    cases h with
    | pure h=>cases h
    | ptr ho=>rw [hj] at ho; cases ho
    | xX _ hd=>exact hd
   have h1:x.oneCell'=true:=by
    cases h with
    | pure h=>cases h
    | ptr ho=>rw [hj] at ho; cases ho
    | xX _ _ h1=>exact h1
   exact .xX (by rw [hon j hlt]; exact hj) (hlive j hlt) h1
  | some p=>
   obtain ⟨b,bo,sz,q1,q2,rfl⟩:=h.lF hj;exact .ptr (by rw [hon j (hused j p hj)]; exact hj) q1 q2
 | dh j i m f=>
  cases hj:O' j with
  | none=>
   have hlt:j<n:=by
    cases h with
    | pure h=>cases h
    | dh ho=>rw [hj] at ho; cases ho
    | wB _ hd=>exact hd
   have h1:x.oneCell'=true:=by
    cases h with
    | pure h=>cases h
    | dh ho=>rw [hj] at ho; cases ho
    | wB _ _ h1=>exact h1
   exact .wB (by rw [hon j hlt]; exact hj) (hlive j hlt) h1
  | some p=>
   obtain ⟨aa,cap,rfl,q1,q2,q3,q4⟩:=h.kG hj;exact .dh (by rw [hon j (hused j p hj)]; exact hj) q1 q2 q3 q4 (h.zA hj)
 | fn f cs=>cases hu
 | agg cs=>cases hu
 | jX cs=>cases hu
 | mref=>cases hu
 | _=>exact .pure (h.uG rfl)
theorem Rep.Fu (hlive:∀j,j<n→D2 (nthN full j)) (hused:∀j p,O' j=some p→j<n) (hon:∀j,j<n→On (nthN full j)=O' j) {u:AV} {x:Value} (hu:Z6 u=true) (h:Rep w' I' O' (fun k=>k<n) u x):Rep w' I' On D2 (Ab.Fu full u) x:=by
 cases u with
 | ptr j i off=>
  cases hj:O' j with
  | none=>
   have hlt:j<n:=by
    cases h with
    | pure h=>cases h
    | ptr ho=>rw [hj] at ho; cases ho
    | xX _ hd=>exact hd
   have h1:x.oneCell'=true:=by
    cases h with
    | pure h=>cases h
    | ptr ho=>rw [hj] at ho; cases ho
    | xX _ _ h1=>exact h1
   exact .xX (by rw [hon j hlt]; exact hj) (hlive j hlt) h1
  | some p=>
   obtain ⟨b,bo,sz,q1,q2,rfl⟩:=h.lF hj;exact .ptr (by rw [hon j (hused j p hj)]; exact hj) q1 q2
 | dh j i m f=>
  cases hj:O' j with
  | none=>
   have hlt:j<n:=by
    cases h with
    | pure h=>cases h
    | dh ho=>rw [hj] at ho; cases ho
    | wB _ hd=>exact hd
   have h1:x.oneCell'=true:=by
    cases h with
    | pure h=>cases h
    | dh ho=>rw [hj] at ho; cases ho
    | wB _ _ h1=>exact h1
   exact .wB (by rw [hon j hlt]; exact hj) (hlive j hlt) h1
  | some p=>
   obtain ⟨aa,cap,rfl,q1,q2,q3,q4⟩:=h.kG hj;exact .dh (by rw [hon j (hused j p hj)]; exact hj) q1 q2 q3 q4 (h.zA hj)
 | fn f cs=>
  obtain ⟨xs,rfl,hl,hr⟩:=h.FC;refine .fn (by rw [U7]; exact hl) fun j hj=>?_;rw [U7] at hj;rw [aaF];exact (hr j hj).UG hlive hused hon (acs hu j hj)
 | agg cs=>cases hu
 | jX cs=>cases hu
 | mref=>cases hu
 | _=>exact .pure (h.uG rfl)
theorem Rep.Fv (hlive:∀j,j<n→D2 (nthN full j)) (hused:∀j p,O' j=some p→j<n) (hon:∀j,j<n→On (nthN full j)=O' j) {u:AV} {x:Value} (hu:Z8 u=true) (h:Rep w' I' O' (fun k=>k<n) u x):Rep w' I' On D2 (Ab.Fv full u) x:=by
 cases u with
 | agg cs=>
  obtain ⟨xs,rfl,hl,hr⟩:=h.qH;refine .agg (by rw [KM]; exact hl) fun j hj=>?_;rw [KM] at hj;rw [U5];exact (hr j hj).Fu hlive hused hon (U6 hu j hj)
 | jX cs=>cases hu
 | undef=>exact Rep.Fu (u:=.undef) hlive hused hon hu h
 | bool b=>exact Rep.Fu (u:=.bool b) hlive hused hon hu h
 | int k n'=>exact Rep.Fu (u:=.int k n') hlive hused hon hu h
 | str s=>exact Rep.Fu (u:=.str s) hlive hused hon hu h
 | sl es m f g=>exact Rep.Fu (u:=.sl es m f g) hlive hused hon hu h
 | ro cs=>exact Rep.Fu (u:=.ro cs) hlive hused hon hu h
 | ptr o' i off=>exact Rep.Fu (u:=.ptr o' i off) hlive hused hon hu h
 | dh o' i m f=>exact Rep.Fu (u:=.dh o' i m f) hlive hused hon hu h
 | fn f cs=>exact Rep.Fu (u:=.fn f cs) hlive hused hon hu h
 | zm=>exact Rep.Fu (u:=.zm) hlive hused hon hu h
 | mref=>cases hu
theorem Rep.ab3 (hlive:∀j,j<n→D2 (nthN full j)) (hused:∀j p,O' j=some p→j<n) (hon:∀j,j<n→On (nthN full j)=O' j) {u:AV} {x:Value} (hu:aeC u=true) (h:Rep w' I' O' (fun k=>k<n) u x):Rep w' I' On D2 (Ab.ab3 full u) x:=by
 cases u with
 | jX cs=>
  obtain ⟨xs,rfl,hl,hr⟩:=h.CG;refine .jX (by rw [SB]; exact hl) fun j hj=>?_;rw [SB] at hj;rw [YK];exact (hr j hj).Fv hlive hused hon (YM hu j hj)
 | agg cs=>exact Rep.Fv (u:=.agg cs) hlive hused hon hu h
 | undef=>exact Rep.Fv (u:=.undef) hlive hused hon hu h
 | bool b=>exact Rep.Fv (u:=.bool b) hlive hused hon hu h
 | int k n'=>exact Rep.Fv (u:=.int k n') hlive hused hon hu h
 | str s=>exact Rep.Fv (u:=.str s) hlive hused hon hu h
 | sl es m f g=>exact Rep.Fv (u:=.sl es m f g) hlive hused hon hu h
 | ro cs=>exact Rep.Fv (u:=.ro cs) hlive hused hon hu h
 | ptr o' i off=>exact Rep.Fv (u:=.ptr o' i off) hlive hused hon hu h
 | dh o' i m f=>exact Rep.Fv (u:=.dh o' i m f) hlive hused hon hu h
 | fn f cs=>exact Rep.Fv (u:=.fn f cs) hlive hused hon hu h
 | zm=>exact Rep.Fv (u:=.zm) hlive hused hon hu h
 | mref=>cases hu
theorem fM.Rm (hlive:∀j,j<n→D2 (nthN full j)) (hused:∀j p,O' j=some p→j<n) (hon:∀j,j<n→On (nthN full j)=O' j) {ob:cB} {p:Own} (hu:okCO ob=true) (hg:Fp ob=false) (h:fM w' I' O' (fun k=>k<n) p ob):fM w' I' On D2 p (Ab.Rm full ob):=by
 cases ob with
 | box cs=>
  obtain ⟨q1,b,bo,sz,q2,q3,q4,q5⟩:=h;refine ⟨q1,b,bo,sz,q2,q3,by rw [KM]; exact q4,fun j hj=>?_⟩;rw [KM] at hj;rw [U5];exact (q5 j hj).Fu hlive hused hon (U6 hu j hj)
 | row es m g=>exact h
 | map kd z f=>
  have hu:Fp (.map kd z f)=true:=hu;rw [hg] at hu;cases hu
theorem acu (full:List Nat) (x:cB):gz (Rm full x)=(gz x).map (Rm full):=by
 cases x with
 | box=>rfl
 | row=>rfl
 | map kd z f=>
  simp only [Rm,gz];cases Fp (.map kd z f)<;>rfl
end back
set_option maxHeartbeats 1000000 in
theorem U8 (hR:Rel cfg cx H D w I O) (hn:PO D nid) {f:FuncId} {args:List AV} {vals:Array Value} {sg0:List Nat} (hrun:∀fn,P.funcs[f]? = some fn→fn.body.isNone=false→(fn.name == "runtime.NumGoroutine")=false→(execOp a.eval o).run P w=.ok (.enter f vals) w)
  (hvl:vals.size=args.length) (hva:∀j,j<args.length→Rep w I O D (nth args j) (vals.getD j Go.undef)) (h:dQ (Spec P cfg) H (OX nid f args sg0) v ups r):dR P cfg cx H D w I O nid o a v ups:=by
 unfold OX at h;obtain ⟨sg,r0,h0⟩:=TL _ _ _ _ _ h;obtain ⟨hnd,h1⟩:=h0.bM;obtain ⟨obs,r1,h2,hol,hobs⟩:=U1 _ _ _ h1;have hlive:∀j,j<sg.length→∃x,H (nthN sg j)=some x:=fun j hj=>let ⟨x,_,hx⟩:=hobs j hj; ⟨x,hx⟩
 obtain ⟨obsV,h3,hvl2,hinv⟩:=U3 hR hlive obs _ _ h2;obtain ⟨args',ids,r2,h4,hal,hview⟩:=FJ hR hlive args _ _ h3;obtain ⟨hdj,h5⟩:=h4.bM;cases h5 with
 | @call _ _ _ _ res obs' _ _ _ hspec h6=>
 obtain ⟨hpo',h7⟩:=h6.bM;obtain ⟨hlen',h8⟩:=h7.bM;obtain ⟨hpr,h9⟩:=h8.bM;obtain ⟨rfl,rfl⟩:=h9.jy;have hlen':obs'.length≤sg.length+stride:=Nat.le_of_ble_eq_true hlen';clear h h0 h1 h2 h3 h4 h6 h7 h8 h9;obtain ⟨⟨fn,hf1,hf2,hf3⟩,hle,hcall⟩:=hspec;have hvl3:obsV.length=sg.length:=hvl2.trans hol;have hRs:=hR.sub (ids:=ids) (obs:=obsV) hnd hdj hvl3 (fun j hj=>by
  obtain ⟨x,q1,q2⟩:=hobs j hj;obtain ⟨y,q3,q4⟩:=hinv j x q1;exact ⟨x,y,q3,q2,q4.1,q4.2 _ (fun _ h=>.inl h)⟩)
 have hsgD:∀j,j<sg.length→D (nthN sg j):=fun j hj=>by
  obtain ⟨x,hx⟩:=hlive j hj;obtain ⟨p,hp,_⟩:=hR.live hx;exact hR.used _ p hp
 generalize hnw:obs'.length - sg.length=nw;have hnw2:sg.length+nw=obs'.length:=by omega
 have hnws:nw≤stride:=by omega
 have hnsg:∀k,nid≤k→k<nid+nw→k ∉ sg:=fun k hk1 hk2 hm=>by
  obtain ⟨j,h1,h2⟩:=P9 sg k hm;exact hn k hk1 om (h2 ▸ hsgD j h1)
 have hOn0:∀k,nid≤k→k<nid+nw→O k=none:=fun k hk1 hk2=>by
  cases h:O k with
  | none=>rfl
  | some p=>exact absurd (hR.used k p h) (hn k hk1 om)
 have hfl:(sg++iT nw nid).length=obs'.length:=by rw [List.length_append,WY]; exact hnw2
 have hf1':∀j,j<sg.length→nthN (sg++iT nw nid) j=nthN sg j:=fun j hj=>W9 _ _ _ hj;have hf2':∀j,sg.length≤j→j<obs'.length→nthN (sg++iT nw nid) j=nid+(j - sg.length):=fun j h1 h2=>by
  rw [Xa _ _ _ h1,WZ _ _ _ om]
 have hnd2:lD (sg++iT nw nid)=true:=Ru _ fun i j hi hj e=>by
  rw [hfl] at hi hj;by_cases h1:i<sg.length
  ·by_cases h2:j<sg.length
   ·rw [hf1' i h1,hf1' j h2] at e;exact CO sg hnd i j h1 h2 e
   ·rw [hf1' i h1,hf2' j om hj] at e;exact absurd (mU sg i h1) (by rw [e]; exact hnsg _ om om)
  ·by_cases h2:j<sg.length
   ·rw [hf2' i om hi,hf1' j h2] at e;exact absurd (mU sg j h2) (by rw [← e]; exact hnsg _ om om)
   ·rw [hf2' i om hi,hf2' j om hj] at e;omega
 intro next Q hnx
 refine U4 (hrun fn hf1 hf2 hf3) ((hcall w _ _ vals hRs om (fun j hj=>by rw [hvl3]; exact hview j om _ (hva j om))).mono ?_);rintro e w' ⟨x,I',O',rfl,hR',hres⟩;refine ⟨x,rfl,?_⟩;let On:OM:=fun k=>if nid≤k∧k<nid+nw then O' (sg.length+(k - nid)) else match vE sg k 0 with
  | some j=>O' j
  | none=>if k∈ids then none else O k
 have hMc:∀b,(EO w (fun b=>I b∨zl O ids b) (subO O sg) obsV.length).M b→∃j p bo sz,j<sg.length∧O (nthN sg j)=some p∧p.pl=some (b,bo,sz):=by
  rintro b ⟨j,p,bo,sz,h1,h2⟩;unfold subO at h1;split at h1
  ·exact ⟨j,p,bo,sz,by assumption,h1,h2⟩
  ·cases h1
 have hOsg:∀j,j<sg.length→O' j=O (nthN sg j)∨O' j=none:=fun j hj=>by
  rcases hR'.PN j (show j<obsV.length by omega) with h | h
  ·left;rw [h];show subO O sg j=_;unfold subO;rw [if_pos hj]
  ·exact .inr h
 have hidx:∀k,k∈sg→∃j,vE sg k 0=some j∧j<sg.length∧nthN sg j=k:=fun k hk=>by
  cases h:vE sg k 0 with
  | none=>exact absurd hk (YN sg k 0 h)
  | some j=>
   obtain ⟨_,h1,h2⟩:=Bb sg k 0 j h;exact ⟨j,rfl,by simpa using h1,by simpa using h2⟩
 have hidxn:∀k,k ∉ sg→vE sg k 0=none:=fun k hk=>by
  cases h:vE sg k 0 with
  | none=>rfl
  | some j=>
   obtain ⟨_,h1,h2⟩:=Bb sg k 0 j h;exact absurd (h2 ▸ mU sg _ h1) hk
 have hOnsg:∀j,j<sg.length→On (nthN sg j)=O' j:=fun j hj=>by
  have h1:¬ (nid≤nthN sg j∧nthN sg j<nid+nw):=fun h=>hnsg _ h.1 h.2 (mU sg j hj);obtain ⟨j2,h2,h3,h4⟩:=hidx _ (mU sg j hj);have:j2=j:=CO sg hnd j2 j h3 hj h4;subst this;show (if _ then _ else _)=_;rw [if_neg h1,h2]
 have hOnD:∀k,D k→On k=O k∨On k=none:=fun k hk=>by
  have h1:¬ (nid≤k∧k<nid+nw):=fun h=>hn k h.1 om hk;by_cases hs:k∈sg
  ·obtain ⟨j,_,h3,h4⟩:=hidx k hs;have:=hOnsg j h3;rw [h4] at this;rw [this];rcases hOsg j h3 with h | h
   ·rw [h,h4]; exact .inl rfl
   ·exact .inr h
  ·show (if _ then _ else _)=_∨(if _ then _ else _)=_;rw [if_neg h1,hidxn k hs];by_cases h2:k∈ids<;>simp [h2]
 have hOnold:∀ {k p},¬ (nid≤k∧k<nid+nw)→On k=some p→O k=some p∧k ∉ ids:=fun {k p} h1 h=>by
  by_cases hs:k∈sg
  ·obtain ⟨j,_,h3,h4⟩:=hidx k hs;have h5:=hOnsg j h3;rw [h4,h] at h5;rcases hOsg j h3 with h6 | h6
   ·rw [h6,h4] at h5;exact ⟨h5.symm,fun hm=>JW ids sg hdj _ hm hs⟩
   ·rw [h6] at h5; cases h5
  ·have h':(if nid≤k∧k<nid+nw then O' (sg.length+(k - nid)) else match vE sg k 0 with
    | some j=>O' j
    | none=>if k∈ids then none else O k)=some p:=h
   rw [if_neg h1,hidxn k hs] at h';simp only at h';by_cases h2:k∈ids
   ·simp [h2] at h'
   ·rw [if_neg h2] at h';exact ⟨h',h2⟩
 have hOnnew:∀ {k},(nid≤k∧k<nid+nw)→On k=O' (sg.length+(k - nid)):=fun {k} h=>by
  show (if _ then _ else _)=_;rw [if_pos h]
 have hon:∀j,j<obs'.length→On (nthN (sg++iT nw nid) j)=O' j:=fun j hj=>by
  by_cases h1:j<sg.length
  ·rw [hf1' j h1,hOnsg j h1]
  ·rw [hf2' j om hj,hOnnew ⟨by omega,by omega⟩];congr 1;omega
 have hD2:∀j,j<obs'.length→xY D nid (nthN (sg++iT nw nid) j):=fun j hj=>by
  by_cases h1:j<sg.length
  ·rw [hf1' j h1]; exact .inl (hsgD j h1)
  ·rw [hf2' j om hj]; exact .inr ⟨by omega,by omega⟩
 have hus':∀j p,O' j=some p→j<obs'.length:=fun j p h=>hR'.used j p h;have hII':∀b,I b→I' b:=fun b h=>hR'.KE b (.inl h);have hI':∀b,I' b→(I b∨zl O ids b)∨w.heap.size≤b∨∃j p bo sz,j<sg.length∧O (nthN sg j)=some p∧p.pl=some (b,bo,sz):=fun b h=>by
  rcases hR'.NC b h with h | h | h
  ·exact .inl h
  ·exact .inr (.inl h)
  ·exact .inr (.inr (hMc b h))
 have hfr:∀b,b<w.heap.size→(∀j p bo sz,j<sg.length→O (nthN sg j)=some p→p.pl≠some (b,bo,sz))→w'.heap[b]? = w.heap[b]? := fun b hb hno=>
  hR'.frame b hb (fun hm=>by obtain ⟨j,p,bo,sz,h1,h2,h3⟩:=hMc b hm; exact hno j p bo sz h1 h2 h3)
 have hIfr:∀b,I b→w'.heap[b]? = w.heap[b]? := fun b hb=>hfr b (hR.vF b hb) (fun j p bo sz h1 h2 h3=>hR.lZ _ p b bo sz h2 h3 hb);have hownfr:∀k p b bo sz,O k=some p→p.pl=some (b,bo,sz)→k ∉ sg→w'.heap[b]? = w.heap[b]? := fun k p b bo sz h1 h2 h3=>
  hfr b (hR.lt k p b bo sz h1 h2) (fun j p' bo' sz' q1 q2 q3=>hR.inj k (nthN sg j) p p' b bo sz b bo' sz' h1 q2 h2 q3 (fun e=>h3 (e ▸ mU sg j q1)) rfl)
 have hexp:∀j p b bo sz,sg.length≤j→O' j=some p→p.pl=some (b,bo,sz)→w.heap.size≤b∨∃j' p' bo' sz',j'<sg.length∧O' j'=none∧O (nthN sg j')=some p'∧p'.pl=some (b,bo',sz'):=fun j p b bo sz h1 h2 h3=>by
  rcases hR'.new _ p b bo sz h2 h3 with h | h
  ·exact .inl h
  ·obtain ⟨j',p',bo',sz',q1,q2,q3⟩:=hMc b h;rcases hOsg j' q1 with e | e
   ·exact absurd rfl (hR'.inj _ j' p p' b bo sz b bo' sz' h2 (by rw [e]; exact q2) h3 q3 om)
   ·exact .inr ⟨j',p',bo',sz',q1,e,q2,q3⟩
 have hsep:∀j p b bo sz k p' b' bo' sz',sg.length≤j→O' j=some p→p.pl=some (b,bo,sz)→¬ (nid≤k∧k<nid+nw)→On k=some p'→p'.pl=some (b',bo',sz')→b≠b':=fun j p b bo sz k p' b' bo' sz' h1 h2 h3 h4 h5 h6 e=>by
  subst e;obtain ⟨q1,q2⟩:=hOnold h4 h5;rcases hexp j p b bo sz h1 h2 h3 with h | ⟨j',p2,bo2,sz2,e1,e2,e3,e4⟩
  ·have:=hR.lt k p' b bo' sz' q1 h6;omega
  ·by_cases hk:k=nthN sg j'
   ·rw [hk,hOnsg j' e1,e2] at h5; cases h5
   ·exact hR.inj k (nthN sg j') p' p2 b bo' sz' b bo2 sz2 q1 e3 h6 e4 hk rfl
 have hHat:∀j,j<obs'.length→jQ H (xW (sg++iT nw nid) (Px (sg++iT nw nid) obs')++dead ids) (nthN (sg++iT nw nid) j)=(zn obs' j).map (Rm (sg++iT nw nid)):=fun j hj=>by
  obtain ⟨x,hx⟩:=aaE obs' j hj;unfold jQ;rw [FK,TM _ _ j (Rm (sg++iT nw nid) x) hnd2 (by rw [hfl]; exact hj) (by rw [YL,hx]; rfl)];simp only;rw [acu,acr obs' j x hx]
 have hHelse:∀k,k ∉ sg→¬ (nid≤k∧k<nid+nw)→jQ H (xW (sg++iT nw nid) (Px (sg++iT nw nid) obs')++dead ids) k=if k∈ids then none else H k:=fun k h1 h2=>by
  have hmiss:look (xW (sg++iT nw nid) (Px (sg++iT nw nid) obs')) k=none:=Rt _ _ _ (fun j q1 q2 e=>by
   rw [hfl] at q1;by_cases hj:j<sg.length
   ·rw [hf1' j hj] at e;exact h1 (e ▸ mU sg j hj)
   ·rw [hf2' j om q1] at e;exact h2 ⟨by omega,by omega⟩)
  unfold jQ;rw [FK,hmiss,Sz];by_cases h3:k∈ids<;>simp [h3]
 have hwhere:∀k,k∈sg∨(nid≤k∧k<nid+nw)→∃j,j<obs'.length∧nthN (sg++iT nw nid) j=k:=fun k h=>by
  rcases h with h | h
  ·obtain ⟨j,h1,h2⟩:=P9 sg k h;exact ⟨j,by omega,by rw [hf1' j h1]; exact h2⟩
  ·exact ⟨sg.length+(k - nid),by omega,by rw [hf2' _ om om]; omega⟩
 have hRn:Rel cfg cx (jQ H (xW (sg++iT nw nid) (Px (sg++iT nw nid) obs')++dead ids)) (xY D nid) w' I' On:={
  dom:=fun k=>by
   by_cases hk:k∈sg∨(nid≤k∧k<nid+nw)
   ·obtain ⟨j,h1,rfl⟩:=hwhere k hk
    rw [hHat j h1,hon j h1,hR'.dom j]
    cases zn obs' j<;>simp
   ·have h1:k ∉ sg:=fun h=>hk (.inl h)
    have h2:¬ (nid≤k∧k<nid+nw):=fun h=>hk (.inr h)
    rw [hHelse k h1 h2]
    have:On k=if k∈ids then none else O k:=by show (if _ then _ else _)=_; rw [if_neg h2,hidxn k h1]
    rw [this]
    by_cases h3:k∈ids<;>simp [h3,hR.dom k]
  maps:=fun k kd z f p b bo sz h h' hp=>by
   by_cases hk:k∈sg∨(nid≤k∧k<nid+nw)
   ·obtain ⟨j,h1,rfl⟩:=hwhere k hk
    rw [hHat j h1] at h
    cases hx:zn obs' j with
    | none=>rw [hx] at h; cases h
    | some x=>
     rw [hx] at h
     obtain ⟨hx1,hx2⟩:=Sr hx
     have:=SC hpo' j x hx1
     cases x with
     | map=>rw [show okCO _=Fp _ from rfl,hx2] at this; cases this
     | box=>cases h
     | row=>cases h
   ·have h1:k ∉ sg:=fun h=>hk (.inl h)
    have h2:¬ (nid≤k∧k<nid+nw):=fun h=>hk (.inr h)
    obtain ⟨q1,q2⟩:=hOnold h2 h'
    rw [hHelse k h1 h2,if_neg q2] at h
    exact hR.maps k kd z f p b bo sz h q1 hp
  used:=fun k p h=>by
   by_cases hk:nid≤k∧k<nid+nw
   ·exact .inr ⟨hk.1,by omega⟩
   ·exact .inl (hR.used k p (hOnold hk h).1)
  objs:=fun k ob p h h'=>by
   by_cases hk:k∈sg∨(nid≤k∧k<nid+nw)
   ·obtain ⟨j,h1,rfl⟩:=hwhere k hk
    rw [hHat j h1] at h
    cases hx:zn obs' j with
    | none=>rw [hx] at h; cases h
    | some x=>
     rw [hx] at h
     cases h
     rw [hon j h1] at h'
     obtain ⟨hx1,hx2⟩:=Sr hx
     exact (hR'.objs j x p hx h').Rm hD2 hus' hon (SC hpo' j x hx1) hx2
   ·have h1:k ∉ sg:=fun h=>hk (.inl h)
    have h2:¬ (nid≤k∧k<nid+nw):=fun h=>hk (.inr h)
    obtain ⟨q1,q2⟩:=hOnold h2 h'
    rw [hHelse k h1 h2,if_neg q2] at h
    exact (hR.objs k ob p h q1).mono hII' hIfr hOnD (fun _ h=>.inl h) hR.used (fun b bo sz hpl=>hownfr k p b bo sz q1 hpl h1)
  inj:=fun k k' p p' b bo sz b' bo' sz' h1 h2 h3 h4 h5=>by
   by_cases hk:nid≤k∧k<nid+nw
   ·rw [hOnnew hk] at h1
    by_cases hk':nid≤k'∧k'<nid+nw
    ·rw [hOnnew hk'] at h2
     exact hR'.inj _ _ p p' b bo sz b' bo' sz' h1 h2 h3 h4 om
    ·exact hsep _ p b bo sz k' p' b' bo' sz' om h1 h3 hk' h2 h4
   ·by_cases hk':nid≤k'∧k'<nid+nw
    ·rw [hOnnew hk'] at h2
     exact (hsep _ p' b' bo' sz' k p b bo sz om h2 h4 hk h1 h3).symm
    ·exact hR.inj k k' p p' b bo sz b' bo' sz' (hOnold hk h1).1 (hOnold hk' h2).1 h3 h4 h5
  lZ:=fun k p b bo sz h1 h2 h3=>by
   by_cases hk:nid≤k∧k<nid+nw
   ·rw [hOnnew hk] at h1
    exact hR'.lZ _ p b bo sz h1 h2 h3
   ·obtain ⟨q1,q2⟩:=hOnold hk h1
    by_cases hs:k∈sg
    ·obtain ⟨j,h4,rfl⟩:=P9 sg k hs
     exact hR'.lZ j p b bo sz (by rw [← hOnsg j h4]; exact h1) h2 h3
    ·rcases hI' b h3 with (h | ⟨k',p',bo',sz',e1,e2,e3⟩) | h | ⟨j,p',bo',sz',e1,e2,e3⟩
     ·exact hR.lZ k p b bo sz q1 h2 h
     ·exact hR.inj k k' p p' b bo sz b bo' sz' q1 e2 h2 e3 (fun e=>q2 (e ▸ e1)) rfl
     ·have:=hR.lt k p b bo sz q1 h2; omega
     ·exact hR.inj k _ p p' b bo sz b bo' sz' q1 e2 h2 e3 (fun e=>hs (e ▸ mU sg j e1)) rfl
  lt:=fun k p b bo sz h1 h2=>by
   by_cases hk:nid≤k∧k<nid+nw
   ·rw [hOnnew hk] at h1
    exact hR'.lt _ p b bo sz h1 h2
   ·exact Nat.lt_of_lt_of_le (hR.lt k p b bo sz (hOnold hk h1).1 h2) hR'.size
  vF:=hR'.vF
  size:=Nat.le_trans hR.size hR'.size
  env:=hR.env.step hR'.env.same
  frame:=fun b h1 h2=>by
   rw [hfr b (Nat.lt_of_lt_of_le h1 hR.size) (fun j p bo sz q1 q2 q3=>by
    rcases hR.new _ p b bo sz q2 q3 with h | h
    ·omega
    ·exact h2 h)]
   exact hR.frame b h1 h2
  new:=fun k p b bo sz h1 h2=>by
   by_cases hk:nid≤k∧k<nid+nw
   ·rw [hOnnew hk] at h1
    rcases hexp _ p b bo sz om h1 h2 with h | ⟨j',p2,bo2,sz2,e1,e2,e3,e4⟩
    ·exact .inl (Nat.le_trans hR.size h)
    ·exact hR.new _ p2 b bo2 sz2 e3 e4
   ·exact hR.new k p b bo sz (hOnold hk h1).1 h2
  glob:=hR'.glob
  KE:=fun b h=>hII' b (hR.KE b h)
  NC:=fun b h=>by
   rcases hI' b h with (h | ⟨k',p',bo',sz',e1,e2,e3⟩) | h | ⟨j,p',bo',sz',e1,e2,e3⟩
   ·exact hR.NC b h
   ·exact .inr (hR.new k' p' b bo' sz' e2 e3)
   ·exact .inr (.inl (Nat.le_trans hR.size h))
   ·exact .inr (hR.new _ p' b bo' sz' e2 e3)
  PN:=fun k h=>by
   rcases hOnD k (hR.Dm k h) with h1 | h1
   ·rw [h1]; exact hR.PN k h
   ·exact .inr h1
  Dm:=fun k h=>.inl (hR.Dm k h) }
 exact hnx x w' I' On hRn (fun u y hu=>hu.mono hII' hIfr hOnD (fun _ h=>.inl h) hR.used) (hres.ab3 hD2 hus' hon hpr)
end
end Go.Ab

namespace Go.Ab
section
variable {w:World} {I:Nat→Prop} {O:OM} {D:Nat→Prop}
theorem yh:∀(l m:List AV),Mh l m→l.length=m.length∧∀j,j<l.length→Le (nth l j) (nth m j):=by
 intro l;induction l with
 | nil=>intro m h; cases m with
  | nil=>exact ⟨rfl,fun j hj=>by cases hj⟩
  | cons=>exact h.elim
 | cons u l ih=>intro m h; cases m with
  | nil=>exact h.elim
  | cons v m=>
   obtain ⟨h1,h2⟩:=ih m h.2
   refine ⟨by simp [h1],fun j hj=>?_⟩
   cases j with
   | zero=>exact h.1
   | succ j=>exact h2 j (by simpa using hj)
theorem Mh.refl:∀(l:List AV),Mh l l
 | []=>trivial
 | v::l=>⟨.refl v,Mh.refl l⟩
theorem Le.vG {cs cs':List AV} (h:Mh cs cs'):Le (.agg cs) (.agg cs'):=.agg (yh _ _ h).1 (yh _ _ h).2
theorem Le.roL {cs cs':List AV} (h:Mh cs cs'):Le (.ro cs) (.ro cs'):=.ro (yh _ _ h).1 (yh _ _ h).2
theorem Xb {u v:AV} (h:Le u v):(∀x,PRep w I u x→PRep w I v x)∧u.cells.length=v.cells.length∧∀j,j<u.cells.length→∀x,PRep w I (nth u.cells j) x→PRep w I (nth v.cells j) x:=by
 have one:∀ {u v:AV},u.cells=[u]→v.cells=[v]→(∀x,PRep w I u x→PRep w I v x)→(∀x,PRep w I u x→PRep w I v x)∧u.cells.length=v.cells.length∧∀j,j<u.cells.length→∀x,PRep w I (nth u.cells j) x→PRep w I (nth v.cells j) x:=by
  intro u v h1 h2 h3;rw [h1,h2];refine ⟨h3,rfl,fun j hj x hx=>?_⟩;have:j=0:=by simpa using hj
  subst this;exact h3 x hx
 induction h with
 | refl v=>exact ⟨fun _ h=>h,rfl,fun _ _ _ h=>h⟩
 | @sl es es' n n' f f' g g' hn he hf h ih=>
  subst hn;refine one rfl rfl fun x hx=>?_;cases hx with
  | sl b off vs hcap hfull ha hes hm h1 hr=>
   refine .sl b off vs hcap (fun e=>hfull (hf e)) ha (fun i hi=>?_) (fun i j hi hj=>?_) (fun i j hi hj=>?_) (fun i j hi hj=>?_)
   ·rw [← (ih i hi).2.1,← he om]; exact hes i hi
   ·rw [← he om] at hj ⊢; exact hm i j hi hj
   ·rw [← he om] at hj; exact h1 i j hi hj
   ·rw [← he om] at hj; exact (ih i hi).2.2 j (by rw [hes i hi]; exact hj) _ (hr i j hi hj)
 | @ro cs cs' hl h ih=>
  refine one rfl rfl fun x hx=>?_;cases hx with
  | ro b off vs hI hm hr=>exact .ro b off vs hI (fun j hj=>hm j om) fun j hj=>(ih j om).1 _ (hr j om)
 | @agg cs cs' hl h ih=>
  refine ⟨fun x hx=>?_,hl,fun j hj x hx=>(ih j hj).1 x hx⟩;cases hx with
  | agg h1 hr=>exact .agg om fun j hj=>(ih j om).1 _ (hr j om)
 | @jX cs cs' hl h ih=>
  refine one rfl rfl fun x hx=>?_;cases hx with
  | jX h1 hr=>exact .jX om fun j hj=>(ih j om).1 _ (hr j om)
 | @fn f cs cs' hl h ih=>
  refine one rfl rfl fun x hx=>?_;cases hx with
  | fn h1 hr=>exact .fn om fun j hj=>(ih j om).1 _ (hr j om)
theorem Le.aeN {u v:AV} (h:Le u v) {x:Value} (hx:PRep w I u x):PRep w I v x:=(Xb h).1 x hx
theorem Le.rep {u v:AV} (h:Le u v):∀ {x:Value},Rep w I O D u x→Rep w I O D v x:=by
 induction h with
 | refl v=>exact fun h=>h
 | sl hn he hf h ih=>intro x hx; exact .pure ((Le.sl hn he hf h).aeN hx.Aj)
 | ro hl h ih=>intro x hx; exact .pure ((Le.ro hl h).aeN hx.PS)
 | agg hl h ih=>
  intro x hx;obtain ⟨vs,rfl,h1,h2⟩:=hx.qH;exact .agg om fun j hj=>ih j om (h2 j om)
 | jX hl h ih=>
  intro x hx;obtain ⟨vs,rfl,h1,h2⟩:=hx.CG;exact .jX om fun j hj=>ih j om (h2 j om)
 | fn hl h ih=>
  intro x hx;obtain ⟨vs,rfl,h1,h2⟩:=hx.FC;exact .fn om fun j hj=>ih j om (h2 j om)
theorem LeO.rep {p:Own} {x y:cB} (h:LeO x y) (hx:fM w I O D p x):fM w I O D p y:=by
 cases x with
 | map=>cases y<;>exact h.elim
 | box cs=>cases y with
  | row=>exact h.elim
  | map=>exact h.elim
  | box cs'=>
   obtain ⟨h1,b,bo,sz,hp,ha,hl,hr⟩:=hx
   obtain ⟨h2,h3⟩:=yh _ _ h
   exact ⟨h1,b,bo,sz,hp,ha,by omega,fun j hj=>(h3 j om).rep (hr j om)⟩
 | row es n g=>cases y with
  | box=>exact h.elim
  | map=>exact h.elim
  | row es' n' g'=>
   obtain ⟨rfl,rfl,h⟩:=h
   obtain ⟨h1,h2,h3,h4⟩:=hx
   refine ⟨h1,h2,fun i hi=>by rw [← (Xb (w:=w) (I:=I) (h i hi)).2.1]; exact h3 i hi,?_⟩
   rcases h4 with h4 | ⟨b,bo,sz,hp,ha,hl,hr⟩
   ·exact .inl h4
   ·exact .inr ⟨b,bo,sz,hp,ha,hl,fun i j hi hj=>⟨(Xb (h i hi)).2.2 j (by rw [h3 i hi]; exact hj) _ (hr i j hi hj).1,(hr i j hi hj).2⟩⟩
theorem YO:∀(l m:List cB),adL l m→l.length=m.length∧∀j x y,hof l j=some x→hof m j=some y→LeO x y:=by
 intro l;induction l with
 | nil=>intro m h; cases m with
  | nil=>exact ⟨rfl,fun j x y h=>by cases h⟩
  | cons=>exact h.elim
 | cons u l ih=>intro m h; cases m with
  | nil=>exact h.elim
  | cons v m=>
   obtain ⟨h1,h2⟩:=ih m h.2
   refine ⟨by simp [h1],fun j x y hx hy=>?_⟩
   cases j with
   | zero=>cases hx; cases hy; exact h.1
   | succ j=>exact h2 j x y hx hy
theorem X9:∀(l:List cB) (j:Nat),hof l j=none↔l.length≤j:=by
 intro l;induction l with
 | nil=>intro j; simp [hof]
 | cons x l ih=>intro j; cases j with
  | zero=>simp [hof]
  | succ j=>simp [hof,ih]
theorem Spec.le {P:Program} {cfg:rU} {f:FuncId} {args args':List AV} {obs obs':List cB} {r:AV} {ob2:List cB} (h:Ab.Spec P cfg f args' obs' r ob2) (ha:Mh args args') (ho:adL obs obs'):Ab.Spec P cfg f args obs r ob2:=by
 obtain ⟨h1,h2,h3⟩:=h;obtain ⟨a1,a2⟩:=yh _ _ ha;obtain ⟨o1,o2⟩:=YO _ _ ho;refine ⟨h1,by omega,fun w I O vals hR hv hrep=>?_⟩;have hR':Rel cfg (EO w I O obs'.length) (hof obs') (fun o=>o<obs'.length) w I O:=by
  rw [← o1];exact { hR with
   dom:=fun o=>by rw [hR.dom o,X9,X9,o1]
   objs:=fun o y p hy hp=>by
    cases hx:hof obs o with
    | none=>rw [(hR.dom o).2 hx] at hp; cases hp
    | some x=>exact (o2 o x y hx hy).rep (hR.objs o x p hx hp)
   maps:=fun o kd z f p b bo sz hy hp hpl=>by
    cases hx:hof obs o with
    | none=>rw [(hR.dom o).2 hx] at hp; cases hp
    | some x=>
     have:=o2 o x _ hx hy
     cases x<;>exact this.elim }
 have:=h3 w I O vals hR' om (fun j hj=>by rw [← o1]; exact (a2 j om).rep (hrep j om));rw [← o1] at this;exact this
end
end Go.Ab

/- An abstract machine over the model's code, that it is sound; models of the functions and their proofs. -/
import Derived.Test.YtfblhejmclcdmaaGreatDoorA0
import Derived.Laws.Append
import Derived.Deep.Upon
import GoSem.Builtin.Clear
import Derived.Laws.BytesString
import Derived.MapKept
set_option linter.unusedVariables false
set_option linter.unusedSimpArgs false

namespace Go.Ab
section
variable {P:Program} {cfg:qm} {cx:Ctx} {H:Nat→Option bJ} {D:Nat→Prop} {w:World} {I:Nat→Prop} {O:OM} {Sp:j3}
variable {nid:Nat} {o:Oper} {a:Act} {ρ:Operand→AV} {v:AV} {ups:iI} {r:List Nat}
theorem run_places (l:List Field) (h:∀f∈l,(P.info? f.type).isSome=true):∃ps:List (Nat×Nat),ps.length=l.length∧(∀(k:Nat) (f:Field) (i:TypeInfo),l[k]? = some f→P.info? f.type=some i→ps[k]? = some (f.offset,i.size))∧
  (l.mapM (fun f:Field=>do pure (f.offset,← sizeOf f.type))).run P w=.ok ps w:=by
 induction l with
 | nil=>exact ⟨[],rfl,fun k f i h=>by simp at h,by simp⟩
 | cons f l ih=>
  obtain ⟨ps,h1,h2,h3⟩:=ih (fun f hf=>h f (List.mem_cons_of_mem _ hf));obtain ⟨i,hi⟩:=Option.isSome_iff_exists.1 (h f (by simp));refine ⟨(f.offset,i.size)::ps,by simp [h1],fun k f' i' hk hi'=>?_,?_⟩
  ·cases k with
   | zero=>simp at hk; subst hk; rw [hi] at hi'; cases hi'; simp
   | succ k=>simpa using h2 k f' i' (by simpa using hk) hi'
  ·rw [List.mapM_cons];simp only [bind_assoc,pure_bind,Sem.run_bind,eH hi,Result.andThen_ok,h3,Sem.run_pure]
def setAt (cells:Array Value) (off:Nat) (vs:Array Value):Array Value:=vs.zipIdx.foldl (fun cs (p:Value×Nat)=>cs.setIfInBounds (off+p.2) p.1) cells
theorem Si (off:Nat):∀(l:List Value) (n:Nat) (cells:Array Value),off+n+l.length≤cells.size→
  ((l.zipIdx n).foldl (fun (cs:Array Value) (p:Value×Nat)=>cs.setIfInBounds (off+p.2) p.1) cells).size=cells.size∧
  ∀k,((l.zipIdx n).foldl (fun (cs:Array Value) (p:Value×Nat)=>cs.setIfInBounds (off+p.2) p.1) cells).getD k Go.undef=
   if off+n≤k∧k<off+n+l.length then l.getD (k - (off+n)) Go.undef else cells.getD k Go.undef:=by
 intro l;induction l with
 | nil=>intro n cells _; exact ⟨rfl,fun k=>by simp [show ¬ (off+n≤k∧k<off+n) by omega]⟩
 | cons x l ih=>
  intro n cells hle;simp only [List.zipIdx_cons,List.foldl_cons];obtain ⟨h1,h2⟩:=ih (n+1) (cells.setIfInBounds (off+n) x) (by simp at hle ⊢; omega);refine ⟨by rw [h1]; simp,fun k=>?_⟩;rw [h2 k];by_cases hk:k=off+n
  ·subst hk;have hlt:off+n<cells.size:=by simp at hle; omega
   have e1:¬ (off+(n+1)≤off+n∧off+n<off+(n+1)+l.length):=by omega
   have e2:off+n≤off+n∧off+n<off+n+(x::l).length:=by simp
   rw [if_neg e1,if_pos e2];simp [hlt]
  ·by_cases hin:off+(n+1)≤k∧k<off+(n+1)+l.length
   ·have e2:off+n≤k∧k<off+n+(x::l).length:=by simp; omega
    rw [if_pos hin,if_pos e2];have:k - (off+n)=(k - (off+(n+1)))+1:=by omega
    rw [this];simp
   ·have e2:¬ (off+n≤k∧k<off+n+(x::l).length):=by simp; omega
    rw [if_neg hin,if_neg e2];have hne:off+n≠k:=fun e=>hk e.symm;simp [Array.getElem?_setIfInBounds_ne hne]
theorem Lu (cells:Array Value) (off:Nat) (vs:Array Value) (h:off+vs.size≤cells.size):(setAt cells off vs).size=cells.size∧
  ∀k,(setAt cells off vs).getD k Go.undef=if off≤k∧k<off+vs.size then vs.getD (k - off) Go.undef else cells.getD k Go.undef:=by
 have e:setAt cells off vs=(vs.toList.zipIdx 0).foldl (fun (cs:Array Value) (p:Value×Nat)=>cs.setIfInBounds (off+p.2) p.1) cells:=by
  unfold setAt;rw [← Array.foldl_toList];simp
 rw [e];obtain ⟨h1,h2⟩:=Si off vs.toList 0 cells (by simpa using h);refine ⟨h1,fun k=>?_⟩;rw [h2 k];simp
theorem rY:∀(new l:List AV) (off:Nat),(yC off new l).length=l.length:=by
 intro new l;induction l generalizing new with
 | nil=>intro off; cases new<;>cases off<;>simp [yC]
 | cons x l ih=>
  intro off;cases new with
  | nil=>cases off<;>simp [yC]
  | cons v new=>cases off<;>simp [yC,ih]
theorem Lv:∀(l new:List AV) (off:Nat),off+new.length≤l.length→∀j,nth (yC off new l) j=if off≤j∧j<off+new.length then nth new (j - off) else nth l j:=by
 intro l;induction l with
 | nil=>
  intro new off h j;have:new=[]:=by cases new<;>simp_all
  subst this;rw [if_neg (by simp)];cases off<;>rfl
 | cons x l ih=>
  intro new off h j;cases new with
  | nil=>cases off<;>simp [yC,show ∀n:Nat,¬ (n≤j∧j<n) by omega]
  | cons v new=>
   cases off with
   | zero=>
    simp only [yC];cases j with
    | zero=>simp [nth]
    | succ j=>
     simp only [nth];rw [ih new 0 (by simp at h ⊢; omega) j];by_cases hj:j<new.length
     ·rw [if_pos (by omega),if_pos (by simp; omega)]; simp [nth]
     ·rw [if_neg (by omega),if_neg (by simp; omega)]
   | succ off=>
    simp only [yC];cases j with
    | zero=>simp [nth]
    | succ j=>
     simp only [nth];rw [ih (v::new) off (by simp at h ⊢; omega) j];by_cases hj:off≤j∧j<off+(v::new).length
     ·rw [if_pos hj,if_pos (by omega)]; congr 1; omega
     ·rw [if_neg hj,if_neg (by omega)]
def Sj (w:World) (I:Nat→Prop) (O:OM) (D:Nat→Prop) (cs:List AV) (cells:Array Value):Prop:=cells.size=cs.length∧∀j,j<cs.length→Rep w I O D (nth cs j) (cells.getD j Go.undef)
theorem Sj.put {cs new:List AV} {cells vs:Array Value} {off:Nat} (h:Sj w I O D cs cells) (h':Sj w I O D new vs) (hle:off+new.length≤cs.length):Sj w I O D (yC off new cs) (setAt cells off vs):=by
 obtain ⟨h1,h2⟩:=h;obtain ⟨h3,h4⟩:=h';obtain ⟨s1,s2⟩:=Lu cells off vs (by omega);refine ⟨by rw [s1,rY,h1],fun j hj=>?_⟩;rw [rY] at hj;rw [Lv _ _ _ hle,s2];by_cases hin:off≤j∧j<off+new.length
 ·rw [if_pos hin,if_pos (by omega)]; exact h4 _ (by omega)
 ·rw [if_neg hin,if_neg (by omega)]; exact h2 j hj
theorem NY (place:Nat→Option (Nat×Nat)) (cells:Array Value) (i:Nat) (v:Value) (rest:List (Nat×Value)) (off size:Nat) (hp:place i=some (off,size)) (hs:v.cells.size=size) (hle:off+v.cells.size≤cells.size):
  Instr.fill place cells ((i,v)::rest)=Instr.fill place (setAt cells off v.cells) rest:=by
 have hs':¬ v.cells.size≠size:=by omega
 have hle':¬ off+v.cells.size > cells.size:=by omega
 simp only [Instr.fill,hp];rw [if_neg (by simp; omega)];rfl
theorem Qi {fs:List (Nat×Nat)} {place:Nat→Option (Nat×Nat)} (hpl:∀k off t ti,M4 fs k=some (off,t)→look cfg.ty t=some ti→place k=some (off,ti.size)):
  ∀(parts:List (Nat×Operand)) (cs:List AV) (cells:Array Value) (k:List AV→Pg) (r:List Nat),(∀p∈parts,Rep w I O D (ρ p.2) (a.eval p.2))→Sj w I O D cs cells→dx Sp H (TS cfg fs (parts.map fun p=>(p.1,ρ p.2)) cs k) v ups r→
   ∃cs' cells' r',dx Sp H (k cs') v ups r'∧Instr.fill place cells (parts.map fun p=>(p.1,a.eval p.2))=some cells'∧Sj w I O D cs' cells':=by
 intro parts;induction parts with
 | nil=>intro cs cells k r _ hrep h; exact ⟨cs,cells,r,h,rfl,hrep⟩
 | cons p parts ih=>
  intro cs cells k r hx hrep h;simp only [List.map_cons,TS] at h;cases hf:M4 fs p.1 with
  | none=>simp only [hf] at h; exact (dx.aH h).elim
  | some q=>
   obtain ⟨off,t⟩:=q;simp only [hf] at h;obtain ⟨ti,ht,h1⟩:=h.jN;obtain ⟨hk,h2⟩:=h1.vD;obtain ⟨hsz,h3⟩:=h2.bg;obtain ⟨hle,h4⟩:=h3.bg;have hsz:(ρ p.2).cells.length=ti.size:=Nat.eq_of_beq_eq_true hsz;have hle:off+(ρ p.2).cells.length≤cs.length:=Nat.le_of_ble_eq_true hle;obtain ⟨hl,hcs⟩:=(hx p (by simp)).cells hk;have hrep':=hrep.put (off:=off) (new:=(ρ p.2).cells) (vs:=(a.eval p.2).cells) ⟨hl,fun j hj=>(hcs j hj).1⟩ hle;obtain ⟨cs',cells',r',q1,q2,q3⟩:=ih _ _ k r (fun p hp=>hx p (List.mem_cons_of_mem _ hp)) hrep' h4;refine ⟨cs',cells',r',q1,?_,q3⟩;simp only [List.map_cons];rw [NY place cells p.1 (a.eval p.2) _ off ti.size (hpl _ _ _ _ hf ht) (by omega) (by have:=hrep.1; omega)];exact q2
theorem Wu (hc:dY P cfg) (hR:Rel cfg cx H D w I O) {t:TypeId} {parts:Array (Nat×Operand)} (ho:o.op=.build t parts) (hx:∀p∈parts.toList,Rep w I O D (ρ p.2) (a.eval p.2))
  (h:dx Sp H (dO cfg nid (.build t parts) ρ) v ups r):dn P cfg cx H D w I O nid o a v ups:=by
 simp only [dO] at h;obtain ⟨ti,ht,h1⟩:=h.jN;obtain ⟨i,d,z,hi,hu,hz,hs,_,_,hzs,hzl,hzm,hd⟩:=(hc.ty t ti ht).ex;split at h1
 ·rename_i fs e;rw [e] at hd;obtain ⟨fields,rfl,hfs⟩:=hd;have hth:=hc.fields t ti _ ht hu;obtain ⟨ps,p1,p2,p3⟩:=run_places (P:=P) (w:=w) fields.toList hth;have hpl:∀k off t ti,M4 fs k=some (off,t)→look cfg.ty t=some ti→(ps.toArray[·]?) k=some (off,ti.size):=by
   intro k off t' ti' hk ht';have hf:Ec ti k=some (off,t'):=by unfold Ec; rw [e]; exact hk
   obtain ⟨fields',fd,q1,q2,q3,q4⟩:=hc.field ht hf;rw [hu] at q1;cases q1;obtain ⟨i',_,_,q5,_,_,q6,_⟩:=(hc.ty t' ti' ht').ex;have:=p2 k fd i' (by simpa using q2) (by rw [q4]; exact q5);simpa [q3,q6] using this
  have hrep:Sj w I O D (uJ ti.zero) z.cells:=⟨by rw [gK]; omega,fun j hj=>.pure (yJ _ _ ti.size hzl hzm j (by rw [gK] at hj; omega))⟩;obtain ⟨cs',cells',r',q1,q2,q3⟩:=Qi hpl parts.toList _ _ _ _ hx hrep h1;obtain ⟨rfl,rfl⟩:=q1.cZ;refine dn.bW (x:=.agg cells') hR ?_ (.agg q3.1 q3.2);have hm:(fields.mapM (fun f:Field=>do pure (f.offset,← sizeOf f.type))).run P w=.ok ps.toArray w:=by
   have e0:fields=fields.toList.toArray:=by simp
   rw [e0,List.mapM_toArray,map_eq_pure_bind,Sem.run_bind,p3];rfl
  have e1:(parts.map fun (p:Nat×Operand)=>(p.1,a.eval p.2)).toList=parts.toList.map fun p=>(p.1,a.eval p.2):=by simp
  simp only [execOp,ho,Instr.build,Sem.run_bind,zeroValue,typeInfo,program,Sem.run,hi,hz,Sem.run_pure,Result.andThen_ok,bA hu,hm,e1,q2]
 ·exact (dx.aH h1).elim
end
end Go.Ab

namespace Go.Ab
section
variable {P:Program} {cfg:qm} {cx:Ctx} {H:Nat→Option bJ} {D:Nat→Prop} {w:World} {I:Nat→Prop} {O:OM} {Sp:j3}
variable {nid:Nat} {o:Oper} {a:Act} {ρ:Operand→AV} {v:AV} {ups:iI} {r:List Nat}
theorem GA {ti:FM} (h:X8 ti=true):0<ti.size∧(ti.agg=false→ti.size=1):=by
 unfold X8 at h;cases h0:Nat.blt 0 ti.size with
 | false=>simp [h0] at h
 | true=>
  simp only [h0] at h;refine ⟨by simpa using h0,fun ha=>?_⟩;simp only [ha] at h;exact Nat.eq_of_beq_eq_true h
theorem UO (z:ZK):(Zw z).cells=[Zw z]:=by cases z<;>rfl
theorem zS {ti:FM} (hz:X8 ti=true) (hl:ti.zero.length=ti.size):(zeroOf ti).cells=uJ ti.zero:=by
 obtain ⟨h0,h1⟩:=GA hz;unfold zeroOf;cases ha:ti.agg with
 | true=>rfl
 | false=>
  have:=h1 ha;match hzz:ti.zero,hl with
  | [z],_=>simp only [uJ,nth]; exact UO z
  | [],hl=>simp at hl; omega
  | _::_::_,hl=>simp at hl; omega
theorem xS (z:Array Value) (len i j size:Nat) (hs:z.size=size) (hi:i<len) (hj:j<size):((Array.range (len*size)).map (fun k=>z[k % z.size]!)).getD (i*size+j) Go.undef=z.getD j Go.undef:=by
 have hlt:i*size+j<len*size:=by
  have:(i+1)*size≤len*size:=Nat.mul_le_mul_right _ hi;rw [Nat.succ_mul] at this;omega
 have hm:(i*size+j) % size=j:=by
  rw [Nat.mul_comm,Nat.mul_add_mod];exact Nat.mod_eq_of_lt hj
 have hjz:j<z.size:=by omega
 simp [hlt,hs,hm,getElem!_pos z j hjz,Array.getElem?_eq_getElem hjz]
def Cx (w:World) (I:Nat→Prop) (size len:Nat) (g:Nat→AV) (cells:Array Value):Prop:=cells.size=len*size∧∀i,i<len→(g i).cells.length=size∧∀j,j<size→PRep w I (nth (g i).cells j) (cells.getD (i*size+j) Go.undef)∧(cells.getD (i*size+j) Go.undef).oneCell'=true
theorem Cx.obj {size len:Nat} {g:Nat→AV} {cells:Array Value} {e:TypeId} {O':OM} {D':Nat→Prop} {p:Own} (hI:∀b,I b→b<w.heap.size) (h:Cx w I size len g cells) (hp:p=⟨size,len,some (w.heap.size,0,cells.size)⟩):
  eT (w.alloc (.cells cells e)) I O' D' p (.row size len g):=by
 subst hp;obtain ⟨h1,h2⟩:=h;refine ⟨rfl,rfl,fun i hi=>(h2 i hi).1,.inr ⟨_,_,_,rfl,kH _ _,by omega,fun i j hi hj=>?_⟩⟩;rw [Nat.zero_add,jO];exact ⟨((h2 i hi).2 j hj).1.mono (fun _ h=>h) (fun b hb=>fZ _ (hI b hb)),((h2 i hi).2 j hj).2⟩
theorem Wv (n i:Nat) (z:AV) (h:i<n):nth (UD n z) i=z:=by
 induction n generalizing i with
 | zero=>cases h
 | succ n ih=>cases i with
  | zero=>rfl
  | succ i=>exact ih i (by omega)
theorem Qj (n:Nat) (z:AV):(UD n z).length=n:=by
 induction n with
 | zero=>rfl
 | succ n ih=>simp [UD,ih]
theorem M8 (l:List AV) (i:Nat) (v:AV):(xQ i v l).length=l.length:=by
 induction l generalizing i with
 | nil=>simp [xQ]
 | cons x l ih=>cases i<;>simp [xQ,ih]
theorem Sk (l:List AV) (i:Nat) (v:AV) (h:i<l.length) (k:Nat):nth (xQ i v l) k=if k=i then v else nth l k:=by
 induction l generalizing i k with
 | nil=>cases h
 | cons x l ih=>
  cases i with
  | zero=>cases k<;>simp [xQ,nth]
  | succ i=>cases k with
   | zero=>simp [xQ,nth]
   | succ k=>simp [xQ,nth,ih i (by simpa using h) k]
theorem wU {u:AV} {x:Value} (h:Rep w I (fun _=>none) (fun _=>False) u x):PRep w I u x:=by
 induction h with
 | pure h=>exact h
 | ptr ho=>cases ho
 | cu ho=>cases ho
 | mref ho=>cases ho
 | Gu _ hd=>exact hd.elim
 | AO _ hd=>exact hd.elim
 | yF _ hd=>exact hd.elim
 | agg hl _ ih=>exact .agg hl ih
 | fn hl _ ih=>exact .fn hl ih
 | jJ hl _ ih=>exact .jJ hl ih
theorem Qk {size len:Nat} {agg:Bool}:∀(ps:List (Nat×AV)) (vals:List (Nat×Value)) (es:List AV) (cells:Array Value) (k:List AV→Pg) (r:List Nat),vals.map (·.1)=ps.map (·.1)→
  (∀(j:Nat) (u:Nat×AV) (x:Nat×Value),ps[j]? = some u→vals[j]? = some x→PRep w I u.2 x.2)→es.length=len→Cx w I size len (nth es) cells→dx Sp H (TT size agg ps es k) v ups r→
   ∃es' cells' r',dx Sp H (k es') v ups r'∧Instr.fill (fun i=>some (i*size,size)) cells vals=some cells'∧Cx w I size len (nth es') cells':=by
 intro ps;induction ps with
 | nil=>
  intro vals es cells k r hv _ _ hrep h;have:vals=[]:=by simpa using hv
  subst this;exact ⟨es,cells,r,h,rfl,hrep⟩
 | cons p ps ih=>
  intro vals es cells k r hv hx hl hrep h;cases vals with
  | nil=>simp at hv
  | cons x vals=>
   simp only [List.map_cons,List.cons.injEq] at hv;obtain ⟨i,u⟩:=p;obtain ⟨i',xv⟩:=x;simp only at hv;obtain ⟨rfl,hv⟩:=hv;simp only [TT] at h;obtain ⟨_,h1⟩:=h.bg;obtain ⟨hk,h2⟩:=h1.vD;obtain ⟨hsz,h3⟩:=h2.bg;obtain ⟨hlt,h4⟩:=h3.bg;have hsz:u.cells.length=size:=Nat.eq_of_beq_eq_true hsz;have hlt:i'<es.length:=by simpa using hlt
   have hu:PRep w I u xv:=hx 0 (i',u) (i',xv) rfl rfl;have hur:Rep w I (fun _=>none) (fun _=>False) u xv:=.pure hu;obtain ⟨hcl,hcs⟩:=hur.cells hk;obtain ⟨r1,r2⟩:=hrep;have hmul:(i'+1)*size≤len*size:=Nat.mul_le_mul_right _ (by omega);rw [Nat.succ_mul] at hmul;obtain ⟨s1,s2⟩:=Lu cells (i'*size) xv.cells (by omega);have hrep':Cx w I size len (nth (xQ i' u es)) (setAt cells (i'*size) xv.cells):=by
    refine ⟨by omega,fun j hj=>?_⟩;rw [Sk es i' u hlt];by_cases hji:j=i'
    ·subst hji;rw [if_pos rfl];refine ⟨hsz,fun q hq=>?_⟩;rw [s2,if_pos (by omega),Nat.add_sub_cancel_left];exact ⟨wU (hcs q (by omega)).1,(hcs q (by omega)).2⟩
    ·rw [if_neg hji];refine ⟨(r2 j hj).1,fun q hq=>?_⟩;have hne:¬ (i'*size≤j*size+q∧j*size+q<i'*size+xv.cells.size):=by
      rcases Nat.lt_or_gt_of_ne hji with hlt' | hgt
      ·have:(j+1)*size≤i'*size:=Nat.mul_le_mul_right _ (by omega);rw [Nat.succ_mul] at this;omega
      ·have:(i'+1)*size≤j*size:=Nat.mul_le_mul_right _ (by omega);rw [Nat.succ_mul] at this;omega
     rw [s2,if_neg hne];exact (r2 j hj).2 q hq
   obtain ⟨es',cells',r',q1,q2,q3⟩:=ih vals _ _ k r hv (fun j u x hj hj'=>hx (j+1) u x (by simpa using hj) (by simpa using hj')) (by rw [M8]; exact hl) hrep' h4;refine ⟨es',cells',r',q1,?_,q3⟩;rw [NY _ cells i' xv vals (i'*size) size rfl (by omega) (by omega)];exact q2
theorem Lx (hR:Rel cfg cx H D w I O):∀(parts:List (Nat×Operand)) (k:List (Nat×AV)→List Nat→Pg) (r:List Nat),(∀p∈parts,Rep w I O D (ρ p.2) (a.eval p.2))→dx Sp H (Gt (parts.map fun p=>(p.1,ρ p.2)) k) v ups r→
  ∃ps ids r',dx Sp H (k ps ids) v ups r'∧(parts.map fun p=>(p.1,a.eval p.2)).map (·.1)=ps.map (·.1)∧
   ∀(j:Nat) (u:Nat×AV) (x:Nat×Value),ps[j]? = some u→(parts.map fun p=>(p.1,a.eval p.2))[j]? = some x→PRep w (fun b=>I b∨wM O ids b) u.2 x.2:=by
 intro parts;induction parts with
 | nil=>intro k r _ h; exact ⟨[],[],r,h,rfl,fun j u x hu=>by simp at hu⟩
 | cons p parts ih=>
  intro k r hx h;simp only [List.map_cons,Gt] at h;obtain ⟨u,i1,r1,h1,h2⟩:=(yI hR fuel).1 _ _ _ _ _ h;obtain ⟨ps,i2,r2,h3,h4,h5⟩:=ih _ _ (fun p hp=>hx p (List.mem_cons_of_mem _ hp)) h1;refine ⟨(p.1,u)::ps,i1++i2,r2,h3,by simpa using h4,fun j u' x' hu' hx'=>?_⟩;cases j with
  | zero=>
   simp at hu' hx';subst hu'; subst hx';exact (h2 _ (hx p (by simp))).mono (fun b h=>h.elim .inl fun h=>.inr h.Sd) (fun _ _=>rfl)
  | succ j=>
   exact (h5 j u' x' (by simpa using hu') (by simpa using hx')).mono (fun b h=>h.elim .inl fun h=>.inr h.Sg) (fun _ _=>rfl)
theorem M9 (hc:dY P cfg) (hR:Rel cfg cx H D w I O) (hn:¬ D nid) {t:TypeId} {len:Nat} {parts:Array (Nat×Operand)} (ho:o.op=.buildSlice t len parts) (hx:∀p∈parts.toList,Rep w I O D (ρ p.2) (a.eval p.2))
  (h:dx Sp H (dO cfg nid (.buildSlice t len parts) ρ) v ups r):dn P cfg cx H D w I O nid o a v ups:=by
 simp only [dO] at h;obtain ⟨tt,e,ti,h1,h2,h3,h4⟩:=h.lu;obtain ⟨hz,h5⟩:=h4.bg;obtain ⟨hle,h6⟩:=h5.bg;have hle:len*ti.size≤4096:=Nat.le_of_ble_eq_true hle;obtain ⟨z0,z1⟩:=GA hz;obtain ⟨hu,i,z,hi,hiz,hs,hby,hzs⟩:=hc.slice h1 h2 h3;obtain ⟨i',_,z',hi',_,hiz',_,_,_,_,hzl,hzm,_⟩:=(hc.ty e ti h3).ex;rw [hi] at hi'; cases hi';rw [hiz] at hiz'; cases hiz';obtain ⟨ps,ids,r1,h7,h8,h9⟩:=Lx hR parts.toList _ _ hx h6;have hzero:Cx w (fun b=>I b∨wM O ids b) ti.size len (nth (UD len (zeroOf ti))) ((Array.range (len*ti.size)).map (fun k=>z.cells[k % z.cells.size]!)):=by
  refine ⟨by simp,fun j hj=>?_⟩;rw [Wv _ _ _ hj,zS hz hzl];refine ⟨by rw [gK]; exact hzl,fun q hq=>?_⟩;rw [xS z.cells len j q ti.size hzs hj hq];exact ⟨yJ _ _ ti.size hzl hzm q hq,Gz _ _ ti.size hzm q hq⟩
 obtain ⟨es',cells',r2,q1,q2,q3⟩:=Qk ps _ _ _ _ _ h8 h9 (Qj _ _) hzero h7;obtain ⟨rfl,rfl⟩:=q1.iQ;refine dn.Ls (p:=⟨ti.size,len,some (w.heap.size,0,cells'.size)⟩) (c:=cells') (e:=e) (x:=.slice (some ⟨w.heap.size,0,none⟩) len len) hR hn ids ?_ rfl (Cx.obj (hR.freeze ids).tu q3 rfl) ?_
 ·have e1:(parts.map fun (p:Nat×Operand)=>(p.1,a.eval p.2)).toList=parts.toList.map fun p=>(p.1,a.eval p.2):=by simp
  have hno:¬ len*ti.size > 2 ^ 24:=by omega
  by_cases h0:len*ti.size=0
  ·have hcell:cells'=#[]:=by
    have:=q3.1;rw [h0] at this;exact Array.eq_empty_of_size_eq_zero this
   have hf:Instr.fill (fun i=>some (i*ti.size,ti.size)) ((Array.range (len*ti.size)).map (fun k=>(#[]:Array Value)[k % (#[]:Array Value).size]!)) (parts.toList.map fun p=>(p.1,a.eval p.2))=some cells':=by
    have e0:∀f:Nat→Value,(Array.range (len*ti.size)).map f=#[]:=fun f=>Array.eq_empty_of_size_eq_zero (by simp [h0]);rw [e0] at q2 ⊢;exact q2
   simp only [execOp,ho,Instr.buildSlice,Sem.run_bind,bA hu,eH hi,hs,if_neg hno,if_pos h0,Sem.run_pure,e1,hf,newRow,newObj,Sem.run,Result.andThen];rfl
  ·simp only [execOp,ho,Instr.buildSlice,Sem.run_bind,bA hu,eH hi,hs,if_neg hno,if_neg h0,zeroValue,typeInfo,program,Sem.run,hi,hiz,Sem.run_pure,e1,q2,newRow,newObj,Result.andThen];rfl
 ·intro I' O' D' hO;refine .cu hO (by simp) (Nat.le_refl _) (fun _=>rfl) (fun _=>⟨_,_,_,rfl,by simp,?_⟩) (by simp);have:=q3.1;simp [this]
theorem Yn {m b:Nat} (h:m*b≤140737488355328):¬ ((b:Int)*(m:Int) > 2 ^ 48):=by
 have e:(2:Int) ^ 48=((281474976710656:Nat):Int):=by decide
 rw [e,← Int.natCast_mul,Nat.mul_comm];omega
theorem O6 (hc:dY P cfg) (hR:Rel cfg cx H D w I O) (hn:¬ D nid) {t:TypeId} {l c:Operand} (ho:o.op=.makeSlice t l c) (hx:Rep w I O D (ρ l) (a.eval l))
  (h:dx Sp H (dO cfg nid (.makeSlice t l c) ρ) v ups r):dn P cfg cx H D w I O nid o a v ups:=by
 simp only [dO] at h;obtain ⟨tt,e,ti,h1,h2,h3,h4⟩:=h.lu;split at h4
 ·rename_i k n en;rw [en] at hx;have hlv:=hx.fD;obtain ⟨hsame,h5⟩:=h4.bg;obtain ⟨hb0,h6⟩:=h5.bg;obtain ⟨hz,h7⟩:=h6.bg;obtain ⟨⟨hn0,hbig⟩,h8⟩:=h7.vO;obtain ⟨rfl,rfl⟩:=h8.iQ;have hcl:c=l:=by have:=Iz hsame; simpa using this.symm
  subst hcl;have hb0:0<ti.bytes:=by simpa using hb0
  obtain ⟨z0,z1⟩:=GA hz;obtain ⟨hu,i,z,hi,hiz,hs,hby,hzs⟩:=hc.slice h1 h2 h3;obtain ⟨i',_,z',hi',_,hiz',_,_,_,_,hzl,hzm,_⟩:=(hc.ty e ti h3).ex;rw [hi] at hi'; cases hi';rw [hiz] at hiz'; cases hiz';obtain ⟨m,rfl⟩:=Int.eq_ofNat_of_zero_le hn0;have hbig':m*ti.bytes≤140737488355328:=by
   have:((m*ti.bytes:Nat):Int)≤((140737488355328:Nat):Int):=by simpa [big] using hbig
   exact_mod_cast this
  have hm47:m≤140737488355328:=Nat.le_trans (Nat.le_mul_of_pos_right _ hb0) hbig';have hw:IntKind.i64.wrap (m:Int)=m:=wrap_i64 ⟨by omega,by omega⟩;have hcells:Cx w (fun b=>I b∨wM O [] b) ti.size m (fun _=>zeroOf ti) ((Array.range (m*ti.size)).map (fun k=>z.cells[k % z.cells.size]!)):=by
   refine ⟨by simp,fun j hj=>?_⟩;rw [zS hz hzl];refine ⟨by rw [gK]; exact hzl,fun q hq=>?_⟩;rw [xS z.cells m j q ti.size hzs hj hq];exact ⟨yJ _ _ ti.size hzl hzm q hq,Gz _ _ ti.size hzm q hq⟩
  have e2:((m:Int)).toNat=m:=by simp
  rw [e2];have hlen:=hcells.1;refine dn.Ls (p:=⟨ti.size,m,some (w.heap.size,0,((Array.range (m*ti.size)).map (fun k=>z.cells[k % z.cells.size]!)).size)⟩) (c:=(Array.range (m*ti.size)).map (fun k=>z.cells[k % z.cells.size]!)) (e:=e) (x:=.slice (some ⟨w.heap.size,0,none⟩) m m) hR hn [] ?_ rfl (Cx.obj (hR.freeze []).tu hcells rfl) ?_
  ·have hge:¬ ((m:Int)<0):=by omega
   have hb2:¬ ((ti.bytes:Int)*(m:Int) > 2 ^ 48):=Yn hbig';have hroom:(askRoom (m*ti.bytes)).run P w=.ok () w:=by
    unfold askRoom;by_cases h:m*ti.bytes > roomBytes
    ·rw [if_pos h]; rfl
    ·rw [if_neg h]; rfl
   have hcond:(decide ((m:Int)<0)||decide ((ti.bytes:Int)*(m:Int) > 2 ^ 48)||decide ((m:Int)<0)||decide ((m:Int) > (m:Int)))=false:=by
    rw [decide_eq_false hge,decide_eq_false hb2,decide_eq_false (Int.lt_irrefl _)]; rfl
   clear h1 h2 h3 h4 h5 h6 h7 h8 hzm hR hc hcells hlen hbig;by_cases h0:m*ti.size=0
   ·have e0:∀f:Nat→Value,(Array.range (m*ti.size)).map f=#[]:=fun f=>Array.eq_empty_of_size_eq_zero (by simp [h0]);simp only [execOp,ho,hlv,Instr.makeSlice,Sem.run_bind,bA hu,Result.andThen,asInt,asIntOf,Sem.run_pure,typeInfo,program,Sem.run,hi,hw,hby,Int.toNat_natCast,hcond,Bool.false_eq_true,if_false,hroom,eH hi,hs,if_pos h0,e0,newRow,newObj];rfl
   ·simp only [execOp,ho,hlv,Instr.makeSlice,Sem.run_bind,bA hu,Result.andThen,asInt,asIntOf,Sem.run_pure,typeInfo,program,Sem.run,hi,hw,hby,Int.toNat_natCast,hcond,Bool.false_eq_true,if_false,hroom,eH hi,hs,if_neg h0,zeroValue,hiz,newRow,newObj];rfl
  ·intro I' O' D' hO;refine .cu hO (by simp) (Nat.le_refl _) (fun _=>rfl) (fun _=>⟨_,_,_,rfl,by simp,?_⟩) (by simp);simp
 ·exact (dx.aH h4).elim
end
end Go.Ab



namespace Go.Ab
section
variable {P:Program} {cfg:qm} {cx:Ctx} {H:Nat→Option bJ} {D:Nat→Prop} {w:World} {I:Nat→Prop} {O:OM} {Sp:j3}
variable {nid:Nat} {o:Oper} {a:Act} {ρ:Operand→AV} {v:AV} {ups:iI} {r:List Nat}
theorem Rel.zT {w':World} (h:w'.heap=w.heap) (he:dX w' w) (hR:Rel cfg cx H D w I O):Rel cfg cx H D w' I O:=
 { hR with
  objs:=fun o ob p h1 h2=>(hR.objs o ob p h1 h2).mono (fun _ h=>h) (fun _ _=>by rw [h]) (fun _ _=>.inl rfl) (fun _ h=>h) hR.used (fun _ _ _ _=>by rw [h])
  lt:=fun o p b bo sz h1 h2=>by rw [h]; exact hR.lt o p b bo sz h1 h2
  tu:=fun b hb=>by rw [h]; exact hR.tu b hb
  size:=by rw [h]; exact hR.size
  frame:=fun b h1 h2=>by rw [h]; exact hR.frame b h1 h2
  env:=hR.env.step he
  glob:=fun g cs hg=>(hR.glob g cs hg).mono (fun _ h=>h) (fun _ _=>by rw [h]) }
theorem Rep.zT {w':World} (h:w'.heap=w.heap) (hR:Rel cfg cx H D w I O) {v:AV} {x:Value} (hx:Rep w I O D v x):Rep w' I O D v x:=
 hx.mono (fun _ h=>h) (fun _ _=>by rw [h]) (fun _ _=>.inl rfl) (fun _ h=>h) hR.used
theorem Rel.drop (hR:Rel cfg cx H D w I O) (ids:List Nat):Rel cfg cx (jk H (dead ids)) D w I (kill O ids):=by
 have hF:=hR.freeze ids;exact { hF with
  objs:=fun o ob p h h'=>by
   rw [yH] at h; unfold kill at h'
   by_cases h0:o∈ids<;>simp [h0] at h h'
   exact (hR.objs o ob p h h').mono (fun _ h=>h) (fun _ _=>rfl) (fun o _=>by unfold kill; by_cases h0:o∈ids<;>simp [h0]) (fun _ h=>h) hR.used (fun _ _ _ _=>rfl)
  kG:=fun o p b bo sz h1 h2 h3=>hF.kG o p b bo sz h1 h2 (.inl h3)
  tu:=hR.tu
  glob:=hR.glob
  Gv:=hR.Gv
  JL:=hR.JL }
theorem Rep.drop (hR:Rel cfg cx H D w I O) (ids:List Nat) {v:AV} {x:Value} (h:Rep w I O D v x):Rep w I (Ab.kill O ids) D v x:=
 h.mono (fun _ h=>h) (fun _ _=>rfl) (fun o _=>by unfold Ab.kill; by_cases h0:o∈ids<;>simp [h0]) (fun _ h=>h) hR.used
theorem Rel.place (hR:Rel cfg cx H D w I O) (hn:¬ D nid) {w':World} (he:dX w' w) {b bo sz:Nat} (ob:bJ) (p:Own) (hp:p.pl=some (b,bo,sz)) (hb:∀b',b'≠b→w'.heap[b']? = w.heap[b']?) (hs:w'.heap.size=w.heap.size)
  (hlt:b<w.heap.size) (hnew:cx.w0.heap.size≤b∨cx.M b) (hnI:¬ I b) (hfree:∀o p b' bo' sz',O o=some p→p.pl=some (b',bo',sz')→b'≠b)
  (hob:eT w' I (setO O nid p) (vM D nid) p ob) (hnm:∀kd z f,ob≠.map kd z f:=by intro _ _ _ h; cases h):Rel cfg cx (jk H [(nid,some ob)]) (vM D nid) w' I (setO O nid p):=by
 have hH:∀o,jk H [(nid,some ob)] o=if o=nid then some ob else H o:=by
  intro o;simp only [jk,look];cases hb:Nat.beq nid o with
  | true=>have:=Nat.eq_of_beq_eq_true hb; subst this; simp
  | false=>
   have:o≠nid:=fun e=>by subst e; simp at hb
   simp [this]
 have old:∀ {o p'},o≠nid→setO O nid p o=some p'→O o=some p':=fun hne h=>by unfold setO at h; rwa [if_neg hne] at h
 have hIb:∀b',I b'→w'.heap[b']? = w.heap[b']? := fun b' h=>hb b' (fun e=>hnI (e ▸ h));exact {
  maps:=fun o kd z f p1 b1 bo1 sz1 h h1 h2=>by
   by_cases e1:o=nid
   ·rw [hH,if_pos e1] at h
    exact absurd (Option.some.inj h) (hnm kd z f)
   ·rw [hH,if_neg e1] at h
    exact hR.maps o kd z f p1 b1 bo1 sz1 h (old e1 h1) h2
  dom:=fun o=>by
   rw [hH]; unfold setO
   by_cases h:o=nid
   ·simp [h]
   ·simp [h,hR.dom o]
  used:=fun o p' h=>by
   by_cases hne:o=nid
   ·exact Iy hne
   ·exact .inl (hR.used o p' (old hne h))
  objs:=fun o ob' p' h h'=>by
   by_cases hne:o=nid
   ·subst hne
    rw [hH,if_pos rfl] at h
    unfold setO at h'
    rw [if_pos rfl] at h'
    cases h; cases h'
    exact hob
   ·rw [hH,if_neg hne] at h
    have h'':=old hne h'
    exact (hR.objs o ob' p' h h'').mono (fun _ h=>h) hIb (fun _ ho=>.inl (Cw hn ho)) (fun _ h=>.inl h) hR.used (fun b' bo' sz' hpl=>hb b' (hfree o p' b' bo' sz' h'' hpl))
  inj:=fun o o' p1 p2 b1 bo1 sz1 b2 bo2 sz2 h1 h2 h3 h4 h5=>by
   by_cases e1:o=nid
   ·by_cases e2:o'=nid
    ·exact absurd (e1.trans e2.symm) h5
    ·unfold setO at h1
     rw [if_pos e1] at h1
     cases h1
     rw [hp] at h3
     cases h3
     exact fun e=>hfree o' p2 b2 bo2 sz2 (old e2 h2) h4 e.symm
   ·by_cases e2:o'=nid
    ·unfold setO at h2
     rw [if_pos e2] at h2
     cases h2
     rw [hp] at h4
     cases h4
     exact hfree o p1 b1 bo1 sz1 (old e1 h1) h3
    ·exact hR.inj o o' p1 p2 b1 bo1 sz1 b2 bo2 sz2 (old e1 h1) (old e2 h2) h3 h4 h5
  kG:=fun o p1 b1 bo1 sz1 h1 h2 h3=>by
   by_cases e1:o=nid
   ·unfold setO at h1
    rw [if_pos e1] at h1
    cases h1
    rw [hp] at h2
    cases h2
    exact hnI h3
   ·exact hR.kG o p1 b1 bo1 sz1 (old e1 h1) h2 h3
  lt:=fun o p1 b1 bo1 sz1 h1 h2=>by
   by_cases e1:o=nid
   ·unfold setO at h1
    rw [if_pos e1] at h1
    cases h1
    rw [hp] at h2
    cases h2
    omega
   ·have:=hR.lt o p1 b1 bo1 sz1 (old e1 h1) h2
    omega
  tu:=fun b' h=>by rw [hs]; exact hR.tu b' h
  size:=by rw [hs]; exact hR.size
  env:=hR.env.step he
  frame:=fun b' h1 h2=>by
   rw [hb b' (fun e=>by subst e; rcases hnew with h | h; omega; exact h2 h)]
   exact hR.frame b' h1 h2
  new:=fun o p1 b1 bo1 sz1 h1 h2=>by
   by_cases e1:o=nid
   ·unfold setO at h1
    rw [if_pos e1] at h1
    cases h1
    rw [hp] at h2
    cases h2
    exact hnew
   ·exact hR.new o p1 b1 bo1 sz1 (old e1 h1) h2
  glob:=fun g cs h=>(hR.glob g cs h).mono (fun _ h=>h) hIb
  Gv:=hR.Gv
  JL:=hR.JL
  Lj:=fun o h=>by
   have hne:o≠nid:=fun e=>hn (e ▸ hR.Dm o h)
   unfold setO
   rw [if_neg hne]
   exact hR.Lj o h
  Dm:=fun o h=>.inl (hR.Dm o h) }
theorem Rep.place (hR:Rel cfg cx H D w I O) (hn:¬ D nid) {w':World} {p:Own} (hb:∀b',I b'→w'.heap[b']? = w.heap[b']?) {v:AV} {x:Value} (h:Rep w I O D v x):Rep w' I (setO O nid p) (vM D nid) v x:=
 h.mono (fun _ h=>h) hb (fun _ ho=>.inl (Cw hn ho)) (fun _ h=>.inl h) hR.used
theorem Rel.empty (hR:Rel cfg cx H D w I O) (hn:¬ D nid) (es:Nat) (g:Nat→AV):Rel cfg cx (jk H [(nid,some (.row es 0 g))]) (vM D nid) w I (setO O nid ⟨es,0,none⟩):=by
 have hH:∀o,jk H [(nid,some (.row es 0 g))] o=if o=nid then some (.row es 0 g) else H o:=by
  intro o;simp only [jk,look];cases hb:Nat.beq nid o with
  | true=>have:=Nat.eq_of_beq_eq_true hb; subst this; simp
  | false=>
   have:o≠nid:=fun e=>by subst e; simp at hb
   simp [this]
 have old:∀ {o p' b bo sz},setO O nid ⟨es,0,none⟩ o=some p'→p'.pl=some (b,bo,sz)→O o=some p':=fun h h'=>by
  unfold setO at h;split at h
  ·cases h; cases h'
  ·exact h
 exact {
  maps:=fun o kd z f p1 b1 bo1 sz1 h h1 h2=>by
   by_cases e1:o=nid
   ·rw [hH,if_pos e1] at h
    cases h
   ·rw [hH,if_neg e1] at h
    exact hR.maps o kd z f p1 b1 bo1 sz1 h (old h1 h2) h2
  dom:=fun o=>by
   rw [hH]; unfold setO
   by_cases h:o=nid
   ·simp [h]
   ·simp [h,hR.dom o]
  used:=fun o p' h=>by
   by_cases hne:o=nid
   ·exact Iy hne
   ·unfold setO at h
    rw [if_neg hne] at h
    exact .inl (hR.used o p' h)
  objs:=fun o ob' p' h h'=>by
   by_cases hne:o=nid
   ·subst hne
    rw [hH,if_pos rfl] at h
    unfold setO at h'
    rw [if_pos rfl] at h'
    cases h; cases h'
    exact ⟨rfl,rfl,fun i hi=>absurd hi (by omega),.inl ⟨rfl,rfl⟩⟩
   ·rw [hH,if_neg hne] at h
    unfold setO at h'
    rw [if_neg hne] at h'
    exact (hR.objs o ob' p' h h').mono (fun _ h=>h) (fun _ _=>rfl) (fun _ ho=>.inl (Cw hn ho)) (fun _ h=>.inl h) hR.used (fun _ _ _ _=>rfl)
  inj:=fun o o' p1 p2 b1 bo1 sz1 b2 bo2 sz2 h1 h2 h3 h4 h5=>hR.inj o o' p1 p2 b1 bo1 sz1 b2 bo2 sz2 (old h1 h3) (old h2 h4) h3 h4 h5
  kG:=fun o p1 b1 bo1 sz1 h1 h2 h3=>hR.kG o p1 b1 bo1 sz1 (old h1 h2) h2 h3
  lt:=fun o p1 b1 bo1 sz1 h1 h2=>hR.lt o p1 b1 bo1 sz1 (old h1 h2) h2
  tu:=hR.tu
  size:=hR.size
  frame:=hR.frame
  env:=hR.env
  new:=fun o p1 b1 bo1 sz1 h1 h2=>hR.new o p1 b1 bo1 sz1 (old h1 h2) h2
  glob:=hR.glob
  Gv:=hR.Gv
  JL:=hR.JL
  Lj:=fun o h=>by
   have hne:o≠nid:=fun e=>hn (e ▸ hR.Dm o h)
   unfold setO
   rw [if_neg hne]
   exact hR.Lj o h
  Dm:=fun o h=>.inl (hR.Dm o h) }
theorem Rel.Ww (hR:Rel cfg cx H D w I O) {w':World} (he:yG cx w') {ob b bo sz:Nat} {p:Own} (x:bJ) (ho:O ob=some p) (hp:p.pl=some (b,bo,sz)) (hb:∀b',b'≠b→w'.heap[b']? = w.heap[b']?) (hs:w'.heap.size=w.heap.size)
  (hob:eT w' I O D p x) (hnm:∀kd z f,x=.map kd z f→cx.w0.heap.size≤b∧∀o,¬ cx.K b o):Rel cfg cx (jk H [(ob,some x)]) D w' I O:=by
 have hnI:=hR.kG ob p b bo sz ho hp;have hIb:∀b',I b'→w'.heap[b']? = w.heap[b']? := fun b' h=>hb b' (fun e=>hnI (e ▸ h));have hH:∀o,jk H [(ob,some x)] o=if o=ob then some x else H o:=by
  intro o;simp only [jk,look];cases hb:Nat.beq ob o with
  | true=>have:=Nat.eq_of_beq_eq_true hb; subst this; simp
  | false=>
   have:o≠ob:=fun e=>by subst e; simp at hb
   simp [this]
 exact { hR with
  maps:=fun o kd z f p1 b1 bo1 sz1 h h1 h2=>by
   by_cases e1:o=ob
   ·rw [hH,if_pos e1] at h
    rw [e1,ho] at h1
    cases h1
    rw [hp] at h2
    cases h2
    exact hnm kd z f (Option.some.inj h)
   ·rw [hH,if_neg e1] at h
    exact hR.maps o kd z f p1 b1 bo1 sz1 h h1 h2
  dom:=fun o=>by
   rw [hH]
   by_cases h:o=ob
   ·subst h; simp [ho]
   ·simp [h,hR.dom o]
  objs:=fun o ob' p' h h'=>by
   by_cases hne:o=ob
   ·subst hne
    rw [hH,if_pos rfl] at h
    rw [ho] at h'
    cases h; cases h'
    exact hob
   ·rw [hH,if_neg hne] at h
    exact (hR.objs o ob' p' h h').mono (fun _ h=>h) hIb (fun _ _=>.inl rfl) (fun _ h=>h) hR.used (fun b' bo' sz' hpl=>hb b' (hR.inj o ob p' p b' bo' sz' b bo sz h' ho hpl hp hne))
  lt:=fun o p1 b1 bo1 sz1 h1 h2=>by rw [hs]; exact hR.lt o p1 b1 bo1 sz1 h1 h2
  tu:=fun b' h=>by rw [hs]; exact hR.tu b' h
  size:=by rw [hs]; exact hR.size
  env:=he
  frame:=fun b' h1 h2=>by
   rw [hb b' (fun e=>by subst e; rcases hR.new ob p b' bo sz ho hp with h | h; omega; exact h2 h)]
   exact hR.frame b' h1 h2
  glob:=fun g cs h=>(hR.glob g cs h).mono (fun _ h=>h) hIb }
theorem Rel.write (hR:Rel cfg cx H D w I O) {w':World} (he:dX w' w) {ob b bo sz:Nat} {p:Own} (x:bJ) (ho:O ob=some p) (hp:p.pl=some (b,bo,sz)) (hb:∀b',b'≠b→w'.heap[b']? = w.heap[b']?) (hs:w'.heap.size=w.heap.size)
  (hob:eT w' I O D p x) (hnm:∀kd z f,x≠.map kd z f:=by intro _ _ _ h; cases h):Rel cfg cx (jk H [(ob,some x)]) D w' I O:=
 hR.Ww (hR.env.step he) x ho hp hb hs hob fun kd z f h=>absurd h (hnm kd z f)
theorem dX.setCell (w:World) (a:Addr) (v:Value):dX (w.setCell a v) w:=⟨rfl,rfl,rfl,fun i o hi ho=>by
 unfold World.setCell;simp only [Array.getElem?_modify];split
 ·rw [hi];cases o with
  | cells c t f=>cases ho
  | _=>rfl
 ·exact hi⟩
theorem kg (b:Nat):∀(vs:List Value) (off:Nat) (w:World),dX (w.setCells b off vs) w
 | [],_,w=>dX.refl w
 | v::r,off,w=>(kg b r (off+1) (w.setCell ⟨b,off,none⟩ v)).trans (dX.setCell w _ v)
theorem jF (b:Nat):∀(vs:List Value) (off:Nat) (w:World),(w.setCells b off vs).heap.size=w.heap.size∧∀b',b'≠b→(w.setCells b off vs).heap[b']? = w.heap[b']?
 | [],_,_=>⟨rfl,fun _ _=>rfl⟩
 | v::r,off,w=>by
  obtain ⟨h1,h2⟩:=jF b r (off+1) (w.setCell ⟨b,off,none⟩ v);have e1:(w.setCell ⟨b,off,none⟩ v).heap.size=w.heap.size:=by simp [World.setCell]
  refine ⟨by rw [World.setCells,h1,e1],fun b' hb=>?_⟩;rw [World.setCells,h2 b' hb];simp [World.setCell,Array.getElem?_modify,Ne.symm hb]
theorem AU (b:Nat):∀(vs:List Value) (off:Nat) (w:World) (j:Nat),(w.setCells b off vs).frozen? ⟨b,j,none⟩=w.frozen? ⟨b,j,none⟩
 | [],_,_,_=>rfl
 | v::r,off,w,j=>by
  rw [World.setCells,AU b r (off+1) _ j];unfold World.frozen? World.setCell;simp only [Array.getElem?_modify];cases hb:w.heap[b]? with
  | none=>simp
  | some ob=>cases ob<;>simp
theorem jP {b sz:Nat} (h:Cq w b sz) (off:Nat) (vs:List Value) (hle:off+vs.length≤sz):Cq (w.setCells b off vs) b sz∧
  ∀j,j<sz→cellAt (w.setCells b off vs) b j=if off≤j∧j<off+vs.length then vs.getD (j - off) Go.undef else cellAt w b j:=by
 have hin:=World.cell?_setCells_in b vs off w (fun j hj=>(h (off+j) (by omega)).1);have key:∀j,j<sz→(w.setCells b off vs).cell? ⟨b,j,none⟩=some (if off≤j∧j<off+vs.length then vs.getD (j - off) Go.undef else cellAt w b j):=by
  intro j hj;by_cases hc:off≤j∧j<off+vs.length
  ·rw [if_pos hc];have:=hin (j - off) (by omega);rw [show off+(j - off)=j by omega] at this;rw [this];simp [show j - off<vs.length by omega]
  ·rw [if_neg hc,World.cell?_setCells_out b vs off w ⟨b,j,none⟩ (fun _ _=>by simp; omega)];exact oh h hj
 refine ⟨fun j hj=>⟨by rw [key j hj]; rfl,by rw [AU]; exact (h j hj).2⟩,fun j hj=>by rw [cellAt,key j hj]; rfl⟩
end
end Go.Ab

namespace Go.Ab
section
variable {P:Program} {cfg:qm} {cx:Ctx} {H:Nat→Option bJ} {D:Nat→Prop} {w:World} {I:Nat→Prop} {O:OM} {Sp:j3}
variable {nid:Nat} {o:Oper} {a:Act} {ρ:Operand→AV} {v:AV} {ups:iI} {r:List Nat}
theorem run_store {t:TypeId} {i:TypeInfo} (hi:P.info? t=some i) {b off sz:Nat} (hal:Cq w b sz) (x:Value) (hs:x.cells.size=i.size) (hle:off+x.cells.size≤sz) (h1:∀j,j<x.cells.size→(x.cells.getD j Go.undef).oneCell'=true):
  (Instr.storeAt t (.pointer (some ⟨b,off,none⟩)) x).run P w=.ok () (w.setCells b off x.cells.toList):=by
 have:=run_storeCells_cells (P:=P) b off x.cells.toList 0 w (fun j hj=>(hal (off+0+j) (by simp at hj; omega)).1) (fun j hj=>(hal (off+0+j) (by simp at hj; omega)).2)
  (fun u hu=>by
    obtain ⟨j,hj,rfl⟩:=List.mem_iff_getElem.1 hu
    have hj':j<x.cells.size:=by simpa using hj
    simpa [hj'] using h1 j hj')
 rw [Nat.add_zero] at this;have hne:¬ x.cells.size≠i.size:=by omega
 simp only [Instr.storeAt,Instr.sureAddr,Sem.run_bind,Sem.run_pure,Result.andThen,storeVar,eH hi,if_neg hne,this]
theorem GD {w':World} {next:Act→World→Prop} {Q:Exit→Act→World→Prop} (h:(execOp a.eval o).run P w=.ok .skip w') (hn:next (a.put o.dst Go.undef) w'):o.wp P a w next Q:=by
 unfold Oper.wp; rw [h]; exact hn
theorem qJ {x:Nat} {l:List Nat} (h:uK x l=false):x ∉ l:=by
 induction l with
 | nil=>simp
 | cons b l ih=>
  unfold uK at h;cases hb:Nat.beq x b with
  | true=>simp [hb] at h
  | false=>
   simp only [hb] at h;have hne:x≠b:=fun e=>by subst e; simp at hb
   simp [hne,ih h]
theorem Wx (hc:dY P cfg) (hR:Rel cfg cx H D w I O) {t:TypeId} {x y:Operand} (ho:o.op=.store t x y) (hx:Rep w I O D (ρ x) (a.eval x)) (hy:Rep w I O D (ρ y) (a.eval y))
  (h:dx Sp H (dO cfg nid (.store t x y) ρ) v ups r):dn P cfg cx H D w I O nid o a v ups:=by
 simp only [dO] at h;obtain ⟨ti,ht,h1⟩:=h.jN;obtain ⟨i,d,hi,hu,hd,hs⟩:=hc.agg ht;split at h1
 ·rename_i ob k off e;rw [e] at hx;obtain ⟨obj,_,hob,h2⟩:=h1.jM;obtain ⟨p,hp,hO⟩:=hR.live hob;obtain ⟨b,bo,sz,hpl,hk,hxv⟩:=hx.l6 hp;cases obj with
  | map=>exact (dx.aH h2).elim
  | box cs=>
   obtain ⟨hn,b',bo',sz',hpl',hal,hle,hcs⟩:=hO;rw [hpl] at hpl';cases hpl';have hk0:k=0:=by omega
   subst hk0;obtain ⟨hok,h3⟩:=h2.vD;obtain ⟨hsz,h4⟩:=h3.bg;obtain ⟨hin,h5⟩:=h4.bg;obtain ⟨rfl,rfl⟩:=h5.iQ;have hsz:(ρ y).cells.length=ti.size:=Nat.eq_of_beq_eq_true hsz;have hin:off+(ρ y).cells.length≤cs.length:=Nat.le_of_ble_eq_true hin;obtain ⟨hcl,hcc⟩:=hy.cells hok;have hrun:=run_store (P:=P) hi hal (a.eval y) (off:=bo+off) (by omega) (by omega) (fun j hj=>(hcc j (by omega)).2);obtain ⟨hal',hcell⟩:=jP hal (bo+off) (a.eval y).cells.toList (by simp; omega);obtain ⟨hh1,hh2⟩:=jF b (a.eval y).cells.toList (bo+off) w;have hIb:∀b',I b'→(w.setCells b (bo+off) (a.eval y).cells.toList).heap[b']? = w.heap[b']? := fun b' hb=>hh2 b' (fun e=>hR.kG ob p b bo sz hp hpl (e ▸ hb));have keep:∀u z,Rep w I O D u z→Rep (w.setCells b (bo+off) (a.eval y).cells.toList) I O D u z:=fun u z hu=>hu.mono (fun _ h=>h) hIb (fun _ _=>.inl rfl) (fun _ h=>h) hR.used;have hRel:=hR.write (kg _ _ _ _) (.box (yC off (ρ y).cells cs)) hp hpl hh2 hh1 (by
    refine ⟨hn,b,bo,sz,hpl,hal',by rw [rY]; exact hle,fun j hj=>?_⟩
    rw [rY] at hj
    rw [Lv _ _ _ hin,hcell (bo+j) (by omega)]
    by_cases hc1:off≤j∧j<off+(ρ y).cells.length
    ·rw [if_pos hc1,if_pos (by simp; omega)]
     have:=keep _ _ (hcc (j - off) (by omega)).1
     have e2:bo+j - (bo+off)=j - off:=by omega
     rw [e2]
     have hlt:j - off<(a.eval y).cells.size:=by omega
     simpa [hlt] using this
    ·rw [if_neg hc1,if_neg (by simp; omega)]
     exact keep _ _ (hcs j hj))
   intro next Q hnx
   refine GD (w':=w.setCells b (bo+off) (a.eval y).cells.toList) ?_ (hnx Go.undef _ I O (hRel.qc nid) (fun u z hu=>(keep u z hu).qc hRel nid) (.pure (.undef _)));simp only [Nat.zero_mul,Nat.zero_add] at hxv;simp only [execOp,ho,hxv,Sem.run_bind,hrun,Result.andThen,Sem.run_pure]
  | row es n g=>
   simp only at h2;split at h2
   ·obtain ⟨x',ids,_,h3,hpur⟩:=(yI hR fuel).1 _ _ _ _ _ h2;obtain ⟨hmem,h4⟩:=h3.bg;have hmem:ob ∉ ids:=qJ (by simpa using hmem);obtain ⟨hok,h5⟩:=h4.vD;obtain ⟨hsz,h6⟩:=h5.bg;obtain ⟨c1,h7⟩:=h6.bg;obtain ⟨c2,h8⟩:=h7.bg;obtain ⟨c3,h9⟩:=h8.bg;obtain ⟨rfl,rfl⟩:=h9.iQ;obtain ⟨rfl,rfl⟩:=KO c3;have hsz:x'.cells.length=ti.size:=Nat.eq_of_beq_eq_true hsz;have c1:es=1:=Nat.eq_of_beq_eq_true c1;have c2:n=ti.size:=Nat.eq_of_beq_eq_true c2;subst c1;have hyp:=hpur _ hy;have hR1:=hR.freeze ids;have hp1:kill O ids ob=some p:=by unfold kill; rw [if_neg hmem]; exact hp
    have hyr:Rep w (fun b=>I b∨wM O ids b) (kill O ids) D x' (a.eval y):=.pure hyp;obtain ⟨hcl,hcc⟩:=hyr.cells hok;have hcp:∀j,j<x'.cells.length→PRep w (fun b=>I b∨wM O ids b) (nth x'.cells j) ((a.eval y).cells.getD j Go.undef):=by
     have hyr':Rep w (fun b=>I b∨wM O ids b) (fun _=>none) (fun _=>False) x' (a.eval y):=.pure hyp;exact fun j hj=>wU ((hyr'.cells hok).2 j hj).1
    obtain ⟨hn,hes,hlen,hpl' | ⟨b',bo',sz',hpl',hal,hle,hcs⟩⟩:=hO
    ·rw [hpl] at hpl'; cases hpl'.2
    rw [hpl] at hpl';cases hpl';simp only [Nat.zero_mul,Nat.add_zero] at hxv;have hrun:=run_store (P:=P) hi hal (a.eval y) (off:=bo) (by omega) (by omega) (fun j hj=>(hcc j (by omega)).2);obtain ⟨hal',hcell⟩:=jP hal bo (a.eval y).cells.toList (by simp; omega);obtain ⟨hh1,hh2⟩:=jF b (a.eval y).cells.toList bo w;have hIb:∀b',(fun b=>I b∨wM O ids b) b'→(w.setCells b bo (a.eval y).cells.toList).heap[b']? = w.heap[b']? := fun b' hb=>hh2 b' (fun e=>hR1.kG ob p b bo sz hp1 hpl (e ▸ hb));have keep:∀u z,Rep w (fun b=>I b∨wM O ids b) (kill O ids) D u z→Rep (w.setCells b bo (a.eval y).cells.toList) (fun b=>I b∨wM O ids b) (kill O ids) D u z:=fun u z hu=>hu.mono (fun _ h=>h) hIb (fun _ _=>.inl rfl) (fun _ h=>h) hR1.used;have pkeep:∀u z,PRep w (fun b=>I b∨wM O ids b) u z→PRep (w.setCells b bo (a.eval y).cells.toList) (fun b=>I b∨wM O ids b) u z:=fun u z hu=>hu.mono (fun _ h=>h) hIb;have hone:∀q,q<n→(nth x'.cells q).cells=[nth x'.cells q]:=fun q hq=>by
     have:=JN hok q (by omega);cases hv:nth x'.cells q with
     | agg cs=>rw [hv] at this; cases this
     | _=>rfl
    have hRel:=hR1.write (kg _ _ _ _) (.row 1 n (JI x'.cells)) hp1 hpl hh2 hh1 (by
     refine ⟨hn,hes,fun q hq=>by show (nth x'.cells q).cells.length=1; rw [hone q hq]; rfl,.inr ⟨b,bo,sz,hpl,hal',hle,fun q j hq hj=>?_⟩⟩
     have hj0:j=0:=by omega
     subst hj0
     simp only [Nat.mul_one,Nat.add_zero]
     rw [hcell (bo+q) (by omega),if_pos (by simp; omega)]
     have e2:bo+q - bo=q:=by omega
     rw [e2]
     have hlt:q<(a.eval y).cells.size:=by omega
     show PRep _ _ (nth (nth x'.cells q).cells 0) _∧_
     rw [hone q hq]
     have:=pkeep _ _ (hcp q (by omega))
     exact ⟨by simpa [hlt,nth] using this,by simpa [hlt] using (hcc q (by omega)).2⟩)
    intro next Q hnx
    refine GD (w':=w.setCells b bo (a.eval y).cells.toList) ?_ (hnx Go.undef _ _ _ (by rw [vF]; exact hRel.qc nid) (fun u z hu=>(keep u z (hu.kill hR ids)).qc hRel nid) (.pure (.undef _)));simp only [execOp,ho,hxv,Sem.run_bind,hrun,Result.andThen,Sem.run_pure]
   obtain ⟨x',ids,_,h3,hpur⟩:=(yI hR fuel).1 _ _ _ _ _ h2;obtain ⟨hmem,h4⟩:=h3.bg;have hmem:ob ∉ ids:=qJ (by simpa using hmem);obtain ⟨hok,h5⟩:=h4.vD;obtain ⟨hsz,h6⟩:=h5.bg;obtain ⟨hpos,h7⟩:=h6.bg;obtain ⟨hin,h8⟩:=h7.bg;obtain ⟨rfl,rfl⟩:=h8.iQ;have hsz:x'.cells.length=ti.size:=Nat.eq_of_beq_eq_true hsz;have hpos:0<ti.size:=by simpa using hpos
   have hin:off+x'.cells.length≤es:=Nat.le_of_ble_eq_true hin;have hyp:=hpur _ hy;have hR1:=hR.freeze ids;have hp1:kill O ids ob=some p:=by unfold kill; rw [if_neg hmem]; exact hp
   have hyr:Rep w (fun b=>I b∨wM O ids b) (kill O ids) D x' (a.eval y):=.pure hyp;obtain ⟨hcl,hcc⟩:=hyr.cells hok;have hcp:∀j,j<x'.cells.length→PRep w (fun b=>I b∨wM O ids b) (nth x'.cells j) ((a.eval y).cells.getD j Go.undef):=by
    have hyr':Rep w (fun b=>I b∨wM O ids b) (fun _=>none) (fun _=>False) x' (a.eval y):=.pure hyp;exact fun j hj=>wU ((hyr'.cells hok).2 j hj).1
   obtain ⟨hn,hes,hlen,hpl' | ⟨b',bo',sz',hpl',hal,hle,hcs⟩⟩:=hO
   ·rw [hpl] at hpl'; cases hpl'.2
   rw [hpl] at hpl';cases hpl';rw [hes] at hxv;have hkn:k<n:=by omega
   have hmul:(k+1)*es≤n*es:=Nat.mul_le_mul_right _ hkn;rw [Nat.succ_mul] at hmul;have hrun:=run_store (P:=P) hi hal (a.eval y) (off:=bo+(k*es+off)) (by omega) (by omega) (fun j hj=>(hcc j (by omega)).2);obtain ⟨hal',hcell⟩:=jP hal (bo+(k*es+off)) (a.eval y).cells.toList (by simp; omega);obtain ⟨hh1,hh2⟩:=jF b (a.eval y).cells.toList (bo+(k*es+off)) w;have hIb:∀b',(fun b=>I b∨wM O ids b) b'→(w.setCells b (bo+(k*es+off)) (a.eval y).cells.toList).heap[b']? = w.heap[b']? := fun b' hb=>hh2 b' (fun e=>hR1.kG ob p b bo sz hp1 hpl (e ▸ hb));have keep:∀u z,Rep w (fun b=>I b∨wM O ids b) (kill O ids) D u z→Rep (w.setCells b (bo+(k*es+off)) (a.eval y).cells.toList) (fun b=>I b∨wM O ids b) (kill O ids) D u z:=fun u z hu=>hu.mono (fun _ h=>h) hIb (fun _ _=>.inl rfl) (fun _ h=>h) hR1.used;have pkeep:∀u z,PRep w (fun b=>I b∨wM O ids b) u z→PRep (w.setCells b (bo+(k*es+off)) (a.eval y).cells.toList) (fun b=>I b∨wM O ids b) u z:=fun u z hu=>hu.mono (fun _ h=>h) hIb;have hel:∀gk,gk=g k→(match gk with | .agg cs=>AV.agg (yC off x'.cells cs) | _=>x').cells.length=es∧
     ∀j,j<es→nth (match gk with | .agg cs=>AV.agg (yC off x'.cells cs) | _=>x').cells j=if off≤j∧j<off+x'.cells.length then nth x'.cells (j - off) else nth gk.cells j:=by
    intro gk hgk
    have hl:=hlen k hkn
    rw [← hgk] at hl
    have one:gk.cells=[gk]→x'.cells.length=es∧∀j,j<es→nth x'.cells j=if off≤j∧j<off+x'.cells.length then nth x'.cells (j - off) else nth gk.cells j:=by
     intro hc1
     rw [hc1] at hl
     simp at hl
     have:off=0:=by omega
     subst this
     exact ⟨by omega,fun j hj=>by rw [if_pos (by omega)]; rfl⟩
    cases gk with
    | agg cs=>
     simp only [AV.cells] at hl ⊢
     exact ⟨by rw [rY]; exact hl,fun j hj=>Lv cs x'.cells off (by omega) j⟩
    | _=>exact one rfl
   have hel':∀q:Bool,q=(OL off&&Nat.beq x'.cells.length es)→(match q with | true=>x' | false=>match g k with | .agg cs=>AV.agg (yC off x'.cells cs) | _=>x').cells.length=es∧
     ∀j,j<es→nth (match q with | true=>x' | false=>match g k with | .agg cs=>AV.agg (yC off x'.cells cs) | _=>x').cells j=if off≤j∧j<off+x'.cells.length then nth x'.cells (j - off) else nth (g k).cells j:=by
    intro q hq
    cases q with
    | false=>exact hel (g k) rfl
    | true=>
     simp only [eq_comm (a:=true),Bool.and_eq_true] at hq
     have h0:off=0:=by cases off with | zero=>rfl | succ n=>cases hq.1
     have hq1:=Nat.eq_of_beq_eq_true hq.2
     subst h0
     exact ⟨hq1,fun j hj=>by rw [if_pos (by omega)]; rfl⟩
   obtain ⟨hel1,hel2⟩:=hel' _ rfl;have hRel:=hR1.write (kg _ _ _ _) (.row es n (P8 g k (match OL off&&Nat.beq x'.cells.length es with | true=>x' | false=>match g k with | .agg cs=>.agg (yC off x'.cells cs) | _=>x'))) hp1 hpl hh2 hh1 (by
    refine ⟨hn,hes,fun j hj=>?_,.inr ⟨b,bo,sz,hpl,hal',hle,fun j q hj hq=>?_⟩⟩
    ·simp only [P8]
     cases hb:Nat.beq j k with
     | true=>simp only [cond_true]; exact hel1
     | false=>simp only [cond_false]; exact hlen j hj
    ·have hmj:(j+1)*es≤n*es:=Nat.mul_le_mul_right _ hj
     rw [Nat.succ_mul] at hmj
     rw [hcell (bo+(j*es+q)) (by omega)]
     simp only [P8]
     cases hb:Nat.beq j k with
     | true=>
      have hjk:=Nat.eq_of_beq_eq_true hb
      subst hjk
      simp only [cond_true]
      rw [hel2 q hq]
      by_cases hc1:off≤q∧q<off+x'.cells.length
      ·rw [if_pos hc1,if_pos (by simp; omega)]
       have e2:bo+(j*es+q) - (bo+(j*es+off))=q - off:=by omega
       rw [e2]
       have hlt:q - off<(a.eval y).cells.size:=by omega
       have:=pkeep _ _ (hcp (q - off) (by omega))
       exact ⟨by simpa [hlt] using this,by simpa [hlt] using (hcc (q - off) (by omega)).2⟩
      ·rw [if_neg hc1,if_neg (by simp; omega)]
       exact ⟨pkeep _ _ ((hcs j q hj hq).1.mono (fun _ h=>.inl h) (fun _ _=>rfl)),(hcs j q hj hq).2⟩
     | false=>
      have hjk:j≠k:=fun e=>by subst e; simp at hb
      simp only [cond_false]
      have hne:¬ (bo+(k*es+off)≤bo+(j*es+q)∧bo+(j*es+q)<bo+(k*es+off)+(a.eval y).cells.toList.length):=by
       simp only [Array.length_toList]
       rcases Nat.lt_or_gt_of_ne hjk with hlt' | hgt
       ·have:(j+1)*es≤k*es:=Nat.mul_le_mul_right _ (by omega)
        rw [Nat.succ_mul] at this
        omega
       ·have:(k+1)*es≤j*es:=Nat.mul_le_mul_right _ (by omega)
        rw [Nat.succ_mul] at this
        omega
      rw [if_neg hne]
      exact ⟨pkeep _ _ ((hcs j q hj hq).1.mono (fun _ h=>.inl h) (fun _ _=>rfl)),(hcs j q hj hq).2⟩)
   intro next Q hnx
   refine GD (w':=w.setCells b (bo+(k*es+off)) (a.eval y).cells.toList) ?_ (hnx Go.undef _ _ _ (by rw [vF]; exact hRel.qc nid) (fun u z hu=>(keep u z (hu.kill hR ids)).qc hRel nid) (.pure (.undef _)));simp only [execOp,ho,hxv,Sem.run_bind,hrun,Result.andThen,Sem.run_pure]
 ·exact (dx.aH h1).elim
end
end Go.Ab

namespace Go.Ab
section
variable {P:Program} {cfg:qm} {cx:Ctx} {H:Nat→Option bJ} {D:Nat→Prop} {w:World} {I:Nat→Prop} {O:OM} {Sp:j3}
variable {nid:Nat} {o:Oper} {a:Act} {ρ:Operand→AV} {v:AV} {ups:iI} {r:List Nat}
def Reads (P:Program) (w:World) (I:Nat→Prop) (size n:Nat) (g:Nat→AV) (x:Value):Prop:=
 ∃cells:Array Value,Cx w I size n g cells∧∀w':World,w'.heap=w.heap→(Builtin.firstCells size n x).run P w'=.ok cells w'
theorem iB {size n:Nat} {g:Nat→AV} {aa:Option Addr} {n' cap:Nat} (b off:Nat) (vs:Nat→Nat→Value) (ha:n≠0→aa=some ⟨b,off,none⟩) (hes:∀i,i<n→(g i).cells.length=size)
  (hm:∀i j,i<n→j<size→w.cell? ⟨b,off+(i*size+j),none⟩=some (vs i j)) (h1:∀i j,i<n→j<size→(vs i j).oneCell'=true) (hr:∀i j,i<n→j<size→PRep w I (nth (g i).cells j) (vs i j)) (hs:0<size):
  Reads P w I size n g (.slice aa n' cap):=by
 refine ⟨((List.range (n*size)).map (fun k=>vs (k / size) (k % size))).toArray,⟨by simp,fun i hi=>⟨hes i hi,fun j hj=>?_⟩⟩,fun w' hw=>?_⟩
 ·have hlt:i*size+j<n*size:=by
   have:(i+1)*size≤n*size:=Nat.mul_le_mul_right _ hi;rw [Nat.succ_mul] at this;omega
  have e1:(i*size+j) / size=i:=by
   rw [Nat.mul_comm,Nat.mul_add_div hs,Nat.div_eq_of_lt hj,Nat.add_zero]
  have e2:(i*size+j) % size=j:=by
   rw [Nat.mul_comm,Nat.mul_add_mod];exact Nat.mod_eq_of_lt hj
  exact ⟨by simpa [hlt,e1,e2] using hr i j hi hj,by simpa [hlt,e1,e2] using h1 i j hi hj⟩
 ·by_cases hn:n=0
  ·subst hn;cases aa with
   | none=>simp [Builtin.firstCells]
   | some aa=>simp [Builtin.firstCells,loadCells,loadCellsFrom]
  ·rw [ha hn];simp only [Builtin.firstCells];have:=run_loadCells_list (P:=P) w' ⟨b,off,none⟩ ((List.range (n*size)).map (fun k=>vs (k / size) (k % size))) (fun k u hk=>by
    have hlt:k<n*size:=by
     rcases Nat.lt_or_ge k (n*size) with h | h
     ·exact h
     ·simp [h] at hk
    simp [hlt] at hk;rw [← hk,Addr.add_mid,fV (w:=w) (w':=w') (by rw [hw])];have h1:k / size<n:=(Nat.div_lt_iff_lt_mul hs).2 hlt;have h2:k % size<size:=Nat.mod_lt _ hs;have:=hm _ _ h1 h2;rwa [Nat.div_add_mod'] at this)
   simpa using this
theorem Ql {size es n:Nat} {full:Bool} {g:Nat→AV} {x:Value} (h:PRep w I (.sl es n full g) x) (he:FN es n size=true) (hs:0<size):Reads P w I size n g x:=by
 cases h with
 | sl b off vs hcap hfull ha hes hm h11 hr=>
  by_cases hn:n=0
  ·subst hn;exact iB b off vs (fun h=>absurd rfl h) (fun i hi=>absurd hi (by omega)) (fun i j hi=>absurd hi (by omega)) (fun i j hi=>absurd hi (by omega)) (fun i j hi=>absurd hi (by omega)) hs
  ·have:=qI he hn;subst this;exact iB b off vs (fun h=>(ha h).1) hes hm h11 hr hs
theorem IC {size m i n cap:Nat} {g:Nat→AV} {aa:Option Addr} {p:Own} {O':OM} {D':Nat→Prop} (hO:eT w I O' D' p (.row size m g)) (hi:i+n≤p.n) (hcap:n≤cap) (hs:0<size)
  (hpl:cap≠0→∃b bo sz,p.pl=some (b,bo,sz)∧aa=some ⟨b,bo+i*p.es,none⟩∧bo+(i+cap)*p.es≤sz):Reads P w I size n (kP i g) (.slice aa n cap):=by
 obtain ⟨hn,hes,hlen,hpl'⟩:=hO;by_cases h0:n=0
 ·subst h0;exact iB 0 0 (fun _ _=>Go.undef) (fun h=>absurd rfl h) (fun i hi=>absurd hi (by omega)) (fun i j hi=>absurd hi (by omega)) (fun i j hi=>absurd hi (by omega)) (fun i j hi=>absurd hi (by omega)) hs
 ·obtain ⟨b,bo,sz,h1,h2,h3⟩:=hpl (by omega);rcases hpl' with ⟨_,h4⟩ | ⟨b',bo',sz',h4,hal,hle,hcs⟩
  ·rw [h1] at h4; cases h4
  ·rw [h1] at h4;cases h4;subst hn;refine iB b (bo+i*size) (fun k j=>cellAt w b (bo+((i+k)*size+j))) (fun _=>by rw [h2,hes]) (fun k hk=>by rw [vE]; exact hlen _ (by omega)) (fun k j hk hj=>?_) (fun k j hk hj=>(hcs (i+k) j (by omega) hj).2) (fun k j hk hj=>?_) hs
   ·have e:bo+i*size+(k*size+j)=bo+((i+k)*size+j):=by rw [Nat.add_mul]; omega
    rw [e];refine oh hal ?_;have:(i+k+1)*size≤p.n*size:=Nat.mul_le_mul_right _ (by omega);rw [Nat.succ_mul] at this;omega
   ·rw [vE];exact (hcs (i+k) j (by omega) hj).1
theorem run_append_grow {t t' e e' ty:TypeId} {i:TypeInfo} {z:Value} (hu:P.underlying t=some (.slice e)) (hu':P.underlying t'=some (.slice e')) (hi:P.info? e=some i) (hz:i.zero=some z)
  {base base':Option Addr} {cap n m c:Nat} {olds news:Array Value} (ho:∀w':World,w'.heap=w.heap→(Builtin.firstCells i.size n (.slice base n cap)).run P w'=.ok olds w')
  (hn:∀w':World,w'.heap=w.heap→(Builtin.firstCells i.size m (.slice base' m c)).run P w'=.ok news w') (hcap:cap<n+m) (hb:(n+m)*i.bytes≤140737488355328) (hb0:0<i.bytes):
  ∃c' rest,n+m≤c'∧rest.size=(c' - (n+m))*z.cells.size∧(Builtin.append_ #[t,t'] ty #[.slice base n cap,.slice base' m c]).run P w=
   .ok (.slice (some ⟨w.heap.size,0,none⟩) (n+m) c') (w.drew.alloc (.cells (olds++news++rest) e)):=by
 refine ⟨grownCap w (n+m) cap e,Builtin.zeroCells z.cells (grownCap w (n+m) cap e - (n+m)),grownCap_ge _ _ _ _,size_zeroCells _ _,?_⟩;have hnm:n+m≤140737488355328:=Nat.le_trans (Nat.le_mul_of_pos_right _ hb0) hb;have h1:¬ n+m≤cap:=by omega
 have h63':¬ (9223372036854775807<((n:Int)+(m:Int))):=by omega
 have h48':¬ (281474976710656<Builtin.nextslicecap (n+m) cap*i.bytes):=by have:=growslice_fits hcap hb; omega
 have ho':=ho w.drew rfl;have hn':=hn w.drew rfl;simp [Builtin.append_,run_underlying hu,run_underlying hu',sizeOf,typeInfo,zeroValue,hi,hz,Builtin.lenOf,h1,h63',h48',Question.forced,ho',hn',newRow,grownCap]
theorem ni {t t' e e' ty:TypeId} {i:TypeInfo} (hu:P.underlying t=some (.slice e)) (hu':P.underlying t'=some (.slice e')) (hi:P.info? e=some i)
  {base base':Option Addr} {cap n m c:Nat} {news:Array Value} (hn:(Builtin.firstCells i.size m (.slice base' m c)).run P w=.ok news w) (hcap:n+m≤cap) {w':World}
  (hst:∀ad,base=some ad→(storeCells (ad.add (n*i.size)) news.toList).run P w=.ok () w') (hno:base=none→w'=w):
  (Builtin.append_ #[t,t'] ty #[.slice base n cap,.slice base' m c]).run P w=.ok (.slice base (n+m) cap) w':=by
 cases base with
 | none=>
  have:=hno rfl;subst this;simp [Builtin.append_,run_underlying hu,run_underlying hu',sizeOf,typeInfo,hi,Builtin.lenOf,hcap,hn]
 | some ad=>
  have:=hst ad rfl;simp [Builtin.append_,run_underlying hu,run_underlying hu',sizeOf,typeInfo,hi,Builtin.lenOf,hcap,hn,this]
end
end Go.Ab

namespace Go.Ab
section
variable {P:Program} {cfg:qm} {cx:Ctx} {H:Nat→Option bJ} {D:Nat→Prop} {w:World} {I:Nat→Prop} {O:OM} {Sp:j3}
variable {nid:Nat} {o:Oper} {a:Act} {ρ:Operand→AV} {v:AV} {ups:iI} {r:List Nat}
theorem Ei {k n:Nat} (h:¬ k<n):Nat.blt k n=false:=by
 cases hb:Nat.blt k n with
 | false=>rfl
 | true=>exact absurd (by simpa using hb) h
theorem IE {size n m:Nat} {g h:Nat→AV} {olds news rest:Array Value} (ho:Cx w I size n g olds) (hn:Cx w I size m h news):∀k,k<n+m→((appG n g h) k).cells.length=size∧
  ∀j,j<size→PRep w I (nth ((appG n g h) k).cells j) ((olds++news++rest).getD (k*size+j) Go.undef)∧((olds++news++rest).getD (k*size+j) Go.undef).oneCell'=true:=by
 intro k hk;obtain ⟨h1,h2⟩:=ho;obtain ⟨h3,h4⟩:=hn;by_cases hkn:k<n
 ·have e:appG n g h k=g k:=by
   have:Nat.blt k n=true:=by simpa using hkn
   simp [appG,this]
  rw [e];refine ⟨(h2 k hkn).1,fun j hj=>?_⟩;have hm:(k+1)*size≤n*size:=Nat.mul_le_mul_right _ hkn;rw [Nat.succ_mul] at hm;have e2:(olds++news++rest).getD (k*size+j) Go.undef=olds.getD (k*size+j) Go.undef:=by
   have hlt:k*size+j<olds.size:=by omega
   simp [Array.getElem?_append_left hlt]
  rw [e2];exact (h2 k hkn).2 j hj
 ·have e:appG n g h k=h (k - n):=by
   have:Nat.blt k n=false:=Ei hkn;simp [appG,this]
  rw [e];have hkm:k - n<m:=by omega
  refine ⟨(h4 _ hkm).1,fun j hj=>?_⟩;have hm:(k - n+1)*size≤m*size:=Nat.mul_le_mul_right _ hkm;rw [Nat.succ_mul] at hm;have hkk:k*size=n*size+(k - n)*size:=by rw [← Nat.add_mul]; congr 1; omega
  have e2:(olds++news++rest).getD (k*size+j) Go.undef=news.getD ((k - n)*size+j) Go.undef:=by
   have hge:olds.size≤k*size+j:=by omega
   have hlt2:(k - n)*size+j<news.size:=by omega
   have e3:k*size+j - olds.size=(k - n)*size+j:=by omega
   simp [Array.getElem?_append_right hge,e3,Array.getElem?_append_left hlt2]
  rw [e2];exact (h4 _ hkm).2 j hj
theorem dn.Yo (hR:Rel cfg cx H D w I O) (hn:¬ D nid) {x:Value} {c:Array Value} {e:TypeId} {ob:bJ} {p:Own} (ids:List Nat) {w1:World} (hw1:w1.heap=w.heap) (he1:dX w1 w) (hrun:(execOp a.eval o).run P w=.ok (.value x) (w1.alloc (.cells c e)))
  (hp:p.pl=some (w1.heap.size,0,c.size)) (hob:eT (w1.alloc (.cells c e)) I (setO (kill O ids) nid p) (vM D nid) p ob)
  (hv:∀I' O' D',O' nid=some p→Rep (w1.alloc (.cells c e)) I' O' D' v x):dn P cfg cx H D w I O nid o a v ((nid,some ob)::dead ids):=by
 intro next Q hnx
 have hR0:=hR.zT hw1 he1;have hR1:=hR0.drop ids;refine mW hrun (hnx x _ _ _ ?_ ?_ (hv I (setO (kill O ids) nid p) _ (by simp [setO])))
 ·rw [vF];exact hR1.push hn c e ob p hp hob
 ·intro u y hu;exact ((hu.zT hw1 hR).drop hR0 ids).push hR1 _ p hn
theorem dn.grown (hR:Rel cfg cx H D w I O) (hn:¬ D nid) (ids:List Nat) {size n m c':Nat} {g h:Nat→AV} {olds news rest:Array Value} {e:TypeId} (ho:Cx w I size n g olds) (hnw:Cx w I size m h news)
  (hc':n+m≤c') (hrest:rest.size=(c' - (n+m))*size) (hrun:(execOp a.eval o).run P w=.ok (.value (.slice (some ⟨w.heap.size,0,none⟩) (n+m) c')) (w.drew.alloc (.cells (olds++news++rest) e))):
  dn P cfg cx H D w I O nid o a (.cu nid 0 (n+m) false) ((nid,some (.row size (n+m) (appG n g h)))::dead ids):=by
 have hcells:=IE (rest:=rest) ho hnw;have hsz:(olds++news++rest).size=c'*size:=by
  rw [Array.size_append,Array.size_append,ho.1,hnw.1,hrest,← Nat.add_mul,← Nat.add_mul];congr 1;omega
 have hle:(n+m)*size≤c'*size:=Nat.mul_le_mul_right _ hc';refine dn.Yo (p:=⟨size,n+m,some (w.drew.heap.size,0,(olds++news++rest).size)⟩) hR hn ids (w1:=w.drew) rfl (dX.heap rfl rfl rfl rfl) hrun rfl ?_ ?_
 ·refine ⟨rfl,rfl,fun k hk=>(hcells k hk).1,.inr ⟨_,_,_,rfl,kH _ _,by omega,fun k j hk hj=>?_⟩⟩;rw [Nat.zero_add,jO];exact ⟨PRep.mono (w:=w) (fun _ h=>h) (fun b hb=>fZ (w:=w.drew) _ (hR.tu b hb)) ((hcells k hk).2 j hj).1,((hcells k hk).2 j hj).2⟩
 ·intro I' O' D' hO;refine .cu hO (by simp) hc' (fun h=>by cases h) (fun _=>⟨_,_,_,rfl,?_,?_⟩) (by simp; omega)
  ·simp
  ·simp only [Nat.zero_add];omega
theorem O7 {u:AV} {k:Nat→Nat→(Nat→AV)→Pg} {x:Value} (hR:Rel cfg cx H D w I O) (hx:Rep w I O D u x) (h:dx Sp H (JJ u k) v ups r):
  ∃es m g base c r',x=.slice base m c∧dx Sp H (k es m g) v ups r'∧∀size,FN es m size=true→0<size→Reads P w I size m g x:=by
 unfold JJ at h;split at h
 ·rename_i es n f g;have hp:=hx.xR;cases hp with
  | sl b off vs hcap hfull ha hes hm h1 hr=>exact ⟨es,n,g,_,_,r,rfl,h,fun size he hs=>Ql (PRep.sl b off vs hcap hfull ha hes hm h1 hr) he hs⟩
 ·rename_i ob i n f;obtain ⟨obj,r',hob,h1⟩:=h.jM;obtain ⟨p,hp,hO⟩:=hR.live hob;cases obj with
  | map=>exact (dx.aH h1).elim
  | box cs=>exact (dx.aH h1).elim
  | row es m g=>
   obtain ⟨aa,cap,rfl,h2,h3,h4,h5⟩:=hx.kT hp;refine ⟨es,n,kP i g,aa,cap,r',rfl,h1,fun size he hs=>?_⟩;by_cases hn:n=0
   ·subst hn;exact iB 0 0 (fun _ _=>Go.undef) (fun h=>absurd rfl h) (fun i hi=>absurd hi (by omega)) (fun i j hi=>absurd hi (by omega)) (fun i j hi=>absurd hi (by omega)) (fun i j hi=>absurd hi (by omega)) hs
   ·have:=qI he hn;subst this;exact IC hO h2 h3 hs h5
 ·exact (dx.aH h).elim
theorem Wy {es size:Nat}:FN es 0 size=true:=by unfold FN; cases Nat.beq es size<;>rfl
theorem IG {ob:Nat} {x:bJ} (h:H ob=some x):jk H [(ob,some x)]=H:=by
 funext k;simp only [jk,look];cases hb:Nat.beq ob k with
 | true=>have:=Nat.eq_of_beq_eq_true hb; subst this; simp [h]
 | false=>rfl
theorem LA (i:Nat) (g h:Nat→AV):UF i 0 g h=g:=by
 funext j;unfold UF;cases h1:Nat.ble i j with
 | false=>rfl
 | true=>
  have h1:=Nat.le_of_ble_eq_true h1;rw [Ei (by omega)];rfl
theorem LB {i k j:Nat} {g h:Nat→AV} (h1:i≤j) (h2:j<i+k):UF i k g h j=h (j - i):=by
 unfold UF;have a1:Nat.ble i j=true:=Nat.ble_eq_true_of_le h1;have a2:Nat.blt j (i+k)=true:=by simpa using h2
 rw [a1,a2];rfl
theorem GH {i k j:Nat} {g h:Nat→AV} (hn:¬ (i≤j∧j<i+k)):UF i k g h j=g j:=by
 unfold UF;by_cases h1:i≤j
 ·rw [Ei (by omega)];cases Nat.ble i j<;>rfl
 ·have a1:Nat.ble i j=false:=by
   cases hb:Nat.ble i j with
   | false=>rfl
   | true=>exact absurd (Nat.le_of_ble_eq_true hb) h1
  rw [a1];rfl
theorem Rel.Wz (hR:Rel cfg cx H D w I O) {ob es N i0 k b bo sz:Nat} {g g':Nat→AV} {p:Own} (hp:O ob=some p) (hO:eT w I O D p (.row es N g)) (hpl:p.pl=some (b,bo,sz)) (hpos:0<es) {cells:Array Value} (hcells:Cx w I es k g' cells) (hle0:i0+k≤N):
  (storeCells ⟨b,bo+i0*es,none⟩ cells.toList).run P w=.ok () (w.setCells b (bo+i0*es) cells.toList)∧Rel cfg cx (jk H [(ob,some (.row es N (UF i0 k g g')))]) D (w.setCells b (bo+i0*es) cells.toList) I O∧
   ∀u z,Rep w I O D u z→Rep (w.setCells b (bo+i0*es) cells.toList) I O D u z:=by
 obtain ⟨hn,hess,hlen,hpl' | ⟨b',bo',sz',hpl',hal,hle,hcs⟩⟩:=hO
 ·rw [hpl] at hpl'; cases hpl'.2
 rw [hpl] at hpl';cases hpl';have hmul:(i0+k)*es≤N*es:=Nat.mul_le_mul_right _ hle0;rw [Nat.add_mul] at hmul;have hcsz:=hcells.1;have hone:∀j,j<cells.size→(cells.getD j Go.undef).oneCell'=true:=fun j hj=>by
  rw [hcsz] at hj;have h1:j / es<k:=(Nat.div_lt_iff_lt_mul hpos).2 hj;have h2:=((hcells.2 _ h1).2 (j % es) (Nat.mod_lt _ hpos)).2;rwa [Nat.div_add_mod'] at h2
 have hst:=run_storeCells_cells (P:=P) b (bo+i0*es) cells.toList 0 w (fun j hj=>(hal (bo+i0*es+0+j) (by simp at hj; omega)).1) (fun j hj=>(hal (bo+i0*es+0+j) (by simp at hj; omega)).2)
  (fun u hu=>by
    obtain ⟨j,hj,rfl⟩:=List.mem_iff_getElem.1 hu
    have hj':j<cells.size:=by simpa using hj
    simpa [hj'] using hone j hj')
 rw [Nat.add_zero] at hst;obtain ⟨hal',hcell⟩:=jP hal (bo+i0*es) cells.toList (by simp; omega);obtain ⟨hh1,hh2⟩:=jF b cells.toList (bo+i0*es) w;have hIb:∀b',I b'→(w.setCells b (bo+i0*es) cells.toList).heap[b']? = w.heap[b']? := fun b' hb=>hh2 b' (fun e=>hR.kG ob p b bo sz hp hpl (e ▸ hb));have keep:∀u z,Rep w I O D u z→Rep (w.setCells b (bo+i0*es) cells.toList) I O D u z:=fun u z hu=>hu.mono (fun _ h=>h) hIb (fun _ _=>.inl rfl) (fun _ h=>h) hR.used;have pkeep:∀u z,PRep w I u z→PRep (w.setCells b (bo+i0*es) cells.toList) I u z:=fun u z hu=>hu.mono (fun _ h=>h) hIb;refine ⟨hst,hR.write (kg _ _ _ _) (.row es N (UF i0 k g g')) hp hpl hh2 hh1 ?_,keep⟩;refine ⟨hn,hess,fun j hj=>?_,.inr ⟨b,bo,sz,hpl,hal',hle,fun j q hj hq=>?_⟩⟩
 ·by_cases hin:i0≤j∧j<i0+k
  ·rw [LB hin.1 hin.2];exact (hcells.2 (j - i0) (by omega)).1
  ·rw [GH hin];exact hlen j hj
 ·have hmj:(j+1)*es≤N*es:=Nat.mul_le_mul_right _ hj;rw [Nat.succ_mul] at hmj;rw [hcell _ (by omega)];by_cases hin:i0≤j∧j<i0+k
  ·rw [LB hin.1 hin.2];have q1:i0*es≤j*es:=Nat.mul_le_mul_right _ hin.1;have q2:(j+1)*es≤(i0+k)*es:=Nat.mul_le_mul_right _ hin.2;rw [Nat.succ_mul,Nat.add_mul] at q2;have q3:(j - i0)*es=j*es - i0*es:=Nat.sub_mul _ _ _;rw [if_pos (by simp; omega)];have e3:bo+(j*es+q) - (bo+i0*es)=(j - i0)*es+q:=by omega
   rw [e3];have hh:=(hcells.2 (j - i0) (by omega)).2 q hq;have e4:cells.toList.getD ((j - i0)*es+q) Go.undef=cells.getD ((j - i0)*es+q) Go.undef:=by
    have hlt:(j - i0)*es+q<cells.size:=by omega
    simp [hlt]
   rw [e4];exact ⟨pkeep _ _ hh.1,hh.2⟩
  ·rw [GH hin];rw [if_neg ?_]
   ·exact ⟨pkeep _ _ (hcs j q hj hq).1,(hcs j q hj hq).2⟩
   ·intro ⟨r1,r2⟩;have r2:bo+(j*es+q)<bo+i0*es+cells.size:=by simpa using r2
    apply hin;constructor
    ·rcases Nat.lt_or_ge j i0 with h | h
     ·have:(j+1)*es≤i0*es:=Nat.mul_le_mul_right _ h;rw [Nat.succ_mul] at this;omega
     ·exact h
    ·rcases Nat.lt_or_ge j (i0+k) with h | h
     ·exact h
     ·have:(i0+k)*es≤j*es:=Nat.mul_le_mul_right _ h;rw [Nat.add_mul] at this;omega
theorem LC (hR:Rel cfg cx H D w I O) {xd xs:Operand} {d s:AV} {t t' e e':TypeId} {ti:FM} {i:TypeInfo} (hdr:Rep w I O D d (a.eval xd)) (hsr:Rep w I O D s (a.eval xs))
  (hu:P.underlying t=some (.slice e)) (hu':P.underlying t'=some (.slice e')) (hi:P.info? e=some i) (hsz:i.size=ti.size) (hpos:0<ti.size)
  (run:∀ {x' w'},(Builtin.append_ #[t,t'] o.type #[a.eval xd,a.eval xs]).run P w=.ok x' w'→(execOp a.eval o).run P w=.ok (.value x') w')
  (h:dx Sp H (OO ti d s) v ups r):dn P cfg cx H D w I O nid o a v ups:=by
 unfold OO at h;obtain ⟨es',m,g',base',c',r1,hsv,h5,hreads⟩:=O7 (P:=P) hR hsr h;obtain ⟨hes',h6⟩:=h5.bg;obtain ⟨news,hnews,hnrun⟩:=hreads ti.size hes' hpos;have hnrun:=hnrun w rfl;rw [hsv] at hnrun;rw [← hsz] at hnrun;split at h6
 ·rename_i ob i0 n full;obtain ⟨obj,_,hob,h7⟩:=h6.jM;obtain ⟨p,hp,hO⟩:=hR.live hob;cases obj with
  | map=>exact (dx.aH h7).elim
  | box cs=>exact (dx.aH h7).elim
  | row es N g=>
   obtain ⟨hes,h8⟩:=h7.bg;have hes:es=ti.size:=Nat.eq_of_beq_eq_true hes;obtain ⟨hle,h9⟩:=h8.vO;obtain ⟨rfl,rfl⟩:=h9.iQ;subst hes;have hpes:p.es=ti.size:=hO.2.1;have hpn:p.n=N:=hO.1;obtain ⟨aa,cap,hdv,a1,a2,a3,a4⟩:=hdr.kT hp;have hext:p.n≤i0+cap:=(hdv ▸ hdr).Eh hp;have hcap:n+m≤cap:=by omega
   by_cases hz:cap=0
   ·have hm0:m=0:=by omega
    have hn0:n=0:=by omega
    subst hm0;have hce:news=#[]:=Array.eq_empty_of_size_eq_zero (by have:=hnews.1; omega);rw [LA];have hr:=ni (P:=P) (ty:=o.type) (base:=aa) hu hu' hi hnrun hcap (w':=w) (fun ad _=>by rw [hce]; rfl) (fun _=>rfl);rw [← hdv,← hsv] at hr;intro next Q hnx
    refine mW (run hr) (hnx _ w I O (by rw [IG hob]; exact hR.qc nid) (fun u y hu=>hu.qc hR nid) ?_);have h2:=hdr.qc hR nid;rw [hdv] at h2;exact .cu hp (by omega) hcap (fun h=>by cases h) a4 hext
   ·obtain ⟨b,bo,sz,hpl,haa,hcapz⟩:=a4 hz;have hR2:=hR;obtain ⟨hst,hRel,keep⟩:=hR.Wz (P:=P) (i0:=i0+n) (k:=m) hp hO hpl hpos hnews (by omega);have hr:=ni (P:=P) (ty:=o.type) (base:=aa) hu hu' hi hnrun hcap (w':=w.setCells b (bo+(i0+n)*ti.size) news.toList) (fun ad had=>by
     rw [haa] at had;cases had;rw [hpes,hsz,Addr.add_mid];have e1:bo+i0*ti.size+n*ti.size=bo+(i0+n)*ti.size:=by rw [Nat.add_mul]; omega
     rw [e1];exact hst) (fun had=>by rw [haa] at had; cases had)
    rw [← hdv,← hsv] at hr;intro next Q hnx
    refine mW (run hr) (hnx _ _ I O (hRel.qc nid) (fun u y hu=>(keep u y hu).qc hRel nid) ?_);exact .cu hp (by omega) hcap (fun h=>by cases h) a4 hext
 ·exact (dx.aH h6).elim
end
end Go.Ab

namespace Go.Ab
section
variable {P:Program} {cfg:qm} {cx:Ctx} {H:Nat→Option bJ} {D:Nat→Prop} {w:World} {I:Nat→Prop} {O:OM} {Sp:j3}
variable {nid:Nat} {o:Oper} {a:Act} {ρ:Operand→AV} {v:AV} {ups:iI} {r:List Nat}
theorem UQ (hc:dY P cfg) (hR:Rel cfg cx H D w I O) (hn:¬ D nid) {c:Call} (ho:o.op=.call c) (hcl:c.callee=.builtin .append) (hx:∀x∈c.args.toList,Rep w I O D (ρ x) (a.eval x))
  (h:dx Sp H (dO cfg nid (.call c) ρ) v ups r):dn P cfg cx H D w I O nid o a v ups:=by
 simp only [dO,hcl] at h;split at h
 ·rename_i d s t t' e1 e2;obtain ⟨xd,xs,hargs,hd,hs⟩:=args2 e1;have hty:c.argTypes=#[t,t']:=by rw [← Array.toList_inj]; simpa using e2
  have hdr:Rep w I O D d (a.eval xd):=hd ▸ hx xd (by simp [hargs]);have hsr:Rep w I O D s (a.eval xs):=hs ▸ hx xs (by simp [hargs]);obtain ⟨tt',e',ti',q1,q2,q3,h1⟩:=h.lu;obtain ⟨tt,e,ti,p1,p2,p3,h2⟩:=h1.lu;obtain ⟨hpos,h3⟩:=h2.bg;obtain ⟨hbp,h4⟩:=h3.bg;have hpos:0<ti.size:=by simpa using hpos
  have hbp:0<ti.bytes:=by simpa using hbp
  obtain ⟨hu',_⟩:=hc.slice q1 q2 q3;obtain ⟨hu,i,z,hi,hz,hsz,hby,hzs⟩:=hc.slice p1 p2 p3;have run:∀ {x' w'},(Builtin.append_ #[t,t'] o.type #[a.eval xd,a.eval xs]).run P w=.ok x' w'→(execOp a.eval o).run P w=.ok (.value x') w':=by
   intro x' w' hr;simp only [execOp,ho,hcl,resolve,invoke,builtin,Sem.run_bind,Sem.run_pure,Result.andThen_ok,hargs,hty,List.map_toArray,List.map_cons,List.map_nil,hr]
  clear h h1 h2 h3;split at h4
  ·exact LC hR hdr hsr hu hu' hi hsz hpos run h4
  rename_i hself;clear hself;unfold P9 at h4;obtain ⟨es',m,g',base',c',r1,hsv,h5,hreads⟩:=O7 (P:=P) hR hsr h4;obtain ⟨hes',h6⟩:=h5.bg;obtain ⟨news,hnews,hnrun⟩:=hreads ti.size hes' hpos;rw [hsv] at hnrun;rw [← hsz] at hnrun;clear h4 h5 hreads;split at h6
  ·rename_i es n full g;obtain ⟨hfull,h7⟩:=h6.bg;have hes:FN es n ti.size=true:=by
    cases es with
    | zero=>
     simp only at h7;obtain ⟨hz0,_⟩:=h7.bg;cases n with
     | zero=>exact Wy
     | succ=>cases hz0
    | succ es1=>
     simp only at h7;exact h7.bg.1
   have hp:=hdr.xR;obtain ⟨olds,holds,horun⟩:=Ql (P:=P) hp hes hpos;generalize hdv:a.eval xd=dv at hp horun;cases hp with
   | @sl _ _ _ _ aa cap b off vs hcap hfl ha hesl hm h11 hr=>
    have hcn:cap=n:=hfl hfull;subst hcn;rw [← hsz] at horun;clear h6 hdr;have grow:∀(hm0:0<m) (hb:(cap+m)*ti.bytes≤140737488355328),∃c'' rest,cap+m≤c''∧rest.size=(c'' - (cap+m))*ti.size∧
      (execOp a.eval o).run P w=.ok (.value (.slice (some ⟨w.heap.size,0,none⟩) (cap+m) c'')) (w.drew.alloc (.cells (olds++news++rest) e)):=by
     intro hm0 hb
     obtain ⟨c'',rest,g1,g2,g3⟩:=run_append_grow (P:=P) (ty:=o.type) hu hu' hi hz horun hnrun (by omega) (by rw [hby]; exact hb) (by omega)
     exact ⟨c'',rest,g1,by rw [g2,hzs],run (by rw [hdv,hsv]; exact g3)⟩
    have same:m=0→(execOp a.eval o).run P w=.ok (.value (.slice aa (cap+m) cap)) w:=by
     intro hm0;subst hm0;have hnz:news=#[]:=Array.eq_empty_of_size_eq_zero (by have:=hnews.1; omega);refine run ?_;rw [hdv,hsv];exact ni hu hu' hi (hnrun w rfl) (by omega) (fun ad _=>by rw [hnz]; rfl) (fun _=>rfl)
    cases hee:es with
    | zero=>
     rw [hee] at h7;simp only at h7;obtain ⟨hz0,h8⟩:=h7.bg;have hcc:cap=0:=by cases hc0:cap with
      | zero=>rfl
      | succ=>rw [hc0] at hz0; cases hz0
     obtain ⟨hbg,h9⟩:=h8.vO;obtain ⟨rfl,rfl⟩:=h9.iQ;by_cases hm0:m=0
     ·have hrun:=same hm0;subst hm0;intro next Q hnx
      have hR2:=hR.empty hn ti.size g';refine mW hrun (hnx _ w I _ hR2 (fun u y hu=>hu.place hR hn (fun _ _=>rfl)) ?_);rw [hcc];exact .cu (p:=⟨ti.size,0,none⟩) (by simp [setO]) (by simp) (by omega) (fun h=>by cases h) (fun h=>absurd rfl h) (Nat.zero_le _)
     ·obtain ⟨c'',rest,g1,g2,g3⟩:=grow (by omega) (by rw [hcc,Nat.zero_add]; simpa [big] using hbg);have ho0:Cx w I ti.size 0 g' olds:=⟨by have:=holds.1; rw [hcc] at this; exact this,fun k hk=>absurd hk (by omega)⟩;rw [hcc] at g1 g2 g3;have key:=dn.grown (P:=P) (o:=o) (a:=a) hR hn [] (g:=g') ho0 hnews g1 g2 g3;have e3:appG 0 g' g'=g':=by
       funext k;simp [appG]
      rw [e3] at key;simpa [dead] using key
    | succ es1=>
     rw [hee] at h7;simp only at h7;obtain ⟨_,h8⟩:=h7.bg;obtain ⟨hbg,rfl,rfl⟩:=h8.fE;by_cases hm0:m=0
     ·refine dn.bW hR (same hm0) (.pure ?_);subst hm0;by_cases hc0:cap=0
      ·subst hc0;exact .sl 0 0 (fun _ _=>Go.undef) (Nat.le_refl _) (fun h=>by cases h) (fun h=>absurd rfl h) (fun i h=>absurd h (by omega)) (fun i j h=>absurd h (by omega)) (fun i j h=>absurd h (by omega)) (fun i j h=>absurd h (by omega))
      have hes1:=qI hes hc0;rw [hes1] at hesl hm h11 hr;have e3:∀k,k<cap→appG cap g g' k=g k:=fun k hk=>by
       have:Nat.blt k cap=true:=by simpa using hk
       simp [appG,this]
      exact .sl b off vs (by omega) (fun h=>by cases h) (fun h=>ha (by omega)) (fun k hk=>by rw [e3 k (by omega)]; exact hesl k (by omega)) (fun k j hk hj=>hm k j (by omega) hj) (fun k j hk hj=>h11 k j (by omega) hj) (fun k j hk hj=>by rw [e3 k (by omega)]; exact hr k j (by omega) hj)
     ·obtain ⟨c'',rest,g1,g2,g3⟩:=grow (by omega) (by simpa [big] using hbg);have hcells:=IE (rest:=rest) holds hnews;have hsize:(olds++news++rest).size=c''*ti.size:=by
       rw [Array.size_append,Array.size_append,holds.1,hnews.1,g2,← Nat.add_mul,← Nat.add_mul];congr 1;omega
      have key:=dn.grown (P:=P) (o:=o) (a:=a) (nid:=nid) hR hn [] holds hnews g1 g2 g3;intro next Q hnx
      have hR0:=Rel.zT (w:=w) (w':=w.drew) rfl (dX.heap rfl rfl rfl rfl) hR;have hIlt:∀b,I b→(w.drew.alloc (.cells (olds++news++rest) e)).heap[b]? = w.heap[b]? := fun b hb=>fZ (w:=w.drew) _ (hR.tu b hb);refine mW g3 (hnx _ _ (fun b=>I b∨b=w.heap.size) O ?_ ?_ (.pure ?_))
      ·rw [vN];have hR1:=(hR0.qc nid);exact { hR1 with
        objs:=fun o ob p h1 h2=>((hR.qc nid).objs o ob p h1 h2).mono (fun _ h=>.inl h) hIlt (fun _ _=>.inl rfl) (fun _ h=>h) hR1.used (fun b bo sz hpl=>fZ (w:=w.drew) _ (hR.lt o p b bo sz h2 hpl))
        kG:=fun o p b bo sz h1 h2 h3=>by
         rcases h3 with h3 | h3
         ·exact hR.kG o p b bo sz h1 h2 h3
         ·have:=hR.lt o p b bo sz h1 h2; omega
        lt:=fun o p b bo sz h1 h2=>by rw [jm]; have:=hR.lt o p b bo sz h1 h2; exact Nat.lt_succ_of_lt this
        tu:=fun b h=>by
         rw [jm]
         rcases h with h | h
         ·exact Nat.lt_succ_of_lt (hR.tu b h)
         ·subst h; exact Nat.lt_succ_self _
        size:=by rw [jm]; exact Nat.le_succ_of_le hR.size
        env:=hR1.env.step (dX.alloc _ _)
        frame:=fun b h1 h2=>by rw [fZ (w:=w.drew) _ (Nat.lt_of_lt_of_le h1 hR.size)]; exact hR.frame b h1 h2
        glob:=fun g cs h=>(hR.glob g cs h).mono (fun _ h=>.inl h) hIlt
        Gv:=fun b h=>.inl (hR.Gv b h)
        JL:=fun b h=>by
         rcases h with h | h
         ·exact hR.JL b h
         ·subst h; exact .inr (.inl hR.size) }
      ·intro u y hu;exact hu.mono (fun _ h=>.inl h) hIlt (fun _ _=>.inl rfl) (fun _ h=>.inl h) hR.used
      ·refine .sl w.heap.size 0 (fun k j=>(olds++news++rest).getD (k*ti.size+j) Go.undef) g1 (fun h=>by cases h) (fun _=>⟨rfl,.inr rfl⟩) (fun k hk=>(hcells k hk).1) (fun k j hk hj=>?_) (fun k j hk hj=>((hcells k hk).2 j hj).2) (fun k j hk hj=>((hcells k hk).2 j hj).1.mono (fun _ h=>.inl h) hIlt);have hlt:k*ti.size+j<(olds++news++rest).size:=by
        rw [hsize];have:(k+1)*ti.size≤c''*ti.size:=Nat.mul_le_mul_right _ (by omega);rw [Nat.succ_mul] at this;omega
       have:=vP (w:=w.drew) (olds++news++rest) e (k*ti.size+j);rw [Nat.zero_add];refine Eq.trans this ?_;rw [Array.getD_eq_getD_getElem?, Array.getElem?_eq_getElem hlt];rfl
  ·rename_i ob k n full;obtain ⟨obj,_,hob,h7⟩:=h6.jM;obtain ⟨p,hp,hO⟩:=hR.live hob;cases obj with
   | map=>exact (dx.aH h7).elim
   | box cs=>exact (dx.aH h7).elim
   | row es n' g=>
    obtain ⟨hes,h8⟩:=h7.bg;have hes:es=ti.size:=Nat.eq_of_beq_eq_true hes;subst hes;obtain ⟨hbg,h9⟩:=h8.vO;have hbg:(n+m)*ti.bytes≤140737488355328:=by simpa [big] using hbg
    obtain ⟨aa,cap,hdv,hkn,hcap,hfl,hpl⟩:=hdr.kT hp;obtain ⟨olds,holds,horun⟩:=IC (P:=P) hO hkn hcap hpos hpl;rw [← hsz] at horun;have grow:∀(ids:List Nat) (hm0:cap<n+m),dn P cfg cx H D w I O nid o a (.cu nid 0 (n+m) false) ((nid,some (.row ti.size (n+m) (appG n (kP k g) g')))::dead ids):=by
     intro ids hm0;obtain ⟨c'',rest,g1,g2,g3⟩:=run_append_grow (P:=P) (ty:=o.type) hu hu' hi hz horun hnrun hm0 (by rw [hby]; exact hbg) (by omega);exact dn.grown hR hn ids holds hnews g1 (by rw [g2,hzs]) (run (by rw [hdv,hsv]; exact g3))
    have other:dn P cfg cx H D w I O nid o a (.cu nid 0 (n+m) false) [(nid,some (.row ti.size (n+m) (appG n (kP k g) g'))),(ob,none)]:=by
     by_cases hroom:n+m≤cap
     ·by_cases hcap0:cap=0
      ·have hn0:n=0:=by omega
       have hm0:m=0:=by omega
       subst hn0; subst hm0;have hnz:news=#[]:=Array.eq_empty_of_size_eq_zero (by have:=hnews.1; omega);have hrun:=run (ni (P:=P) (ty:=o.type) hu hu' hi (base:=aa) (n:=0) (cap:=cap) (w':=w) (hnrun w rfl) (by omega) (fun ad _=>by rw [hnz]; rfl) (fun _=>rfl) |> fun q=>by rw [hdv,hsv]; exact q);intro next Q hnx
       have hR1:=hR.drop [ob];have hR2:=hR1.empty hn ti.size (appG 0 (kP k g) g');refine mW hrun (hnx _ w I _ (by rw [vF]; exact hR2) (fun u y hu=>(hu.drop hR [ob]).place hR1 hn (fun _ _=>rfl)) ?_);exact .cu (p:=⟨ti.size,0,none⟩) (by simp [setO]) (by simp) (by omega) (fun h=>by cases h) (fun h=>absurd hcap0 h) (Nat.zero_le _)
      ·obtain ⟨b,bo,sz,hpl1,haa,hle⟩:=hpl hcap0;obtain ⟨hpn,hpes,hlen,hpl' | ⟨b',bo',sz',hpl',hal,hle',hcs⟩⟩:=hO
       ·rw [hpl1] at hpl'; cases hpl'.2
       rw [hpl1] at hpl';cases hpl';rw [hpes] at haa hle;have hmul1:(k+cap)*ti.size=k*ti.size+cap*ti.size:=Nat.add_mul _ _ _;have hmul2:(n+m)*ti.size≤cap*ti.size:=Nat.mul_le_mul_right _ hroom;rw [Nat.add_mul] at hmul2;have hnsz:=hnews.1;have hst:=run_storeCells_cells (P:=P) b (bo+k*ti.size+n*ti.size) news.toList 0 w (fun j hj=>(hal _ (by simp at hj; omega)).1) (fun j hj=>(hal _ (by simp at hj; omega)).2)
        (fun u hu=>by
          obtain ⟨q,hq,rfl⟩:=List.mem_iff_getElem.1 hu
          have hq':q<news.size:=by simpa using hq
          have hdiv:q / ti.size<m:=(Nat.div_lt_iff_lt_mul hpos).2 (by omega)
          have:=((hnews.2 _ hdiv).2 (q % ti.size) (Nat.mod_lt _ hpos)).2
          rw [Nat.div_add_mod'] at this
          simpa [hq'] using this)
       rw [Nat.add_zero] at hst;have hrun:=run (ni (P:=P) (ty:=o.type) hu hu' hi (base:=aa) (n:=n) (cap:=cap) (w':=w.setCells b (bo+k*ti.size+n*ti.size) news.toList) (hnrun w rfl) hroom
        (fun ad had=>by
          rw [haa] at had
          cases had
          rw [Addr.add_mid,hsz]
          exact hst) (fun hno=>by rw [haa] at hno; cases hno) |> fun q=>by rw [hdv,hsv]; exact q)
       obtain ⟨hal',hcell⟩:=jP hal (bo+k*ti.size+n*ti.size) news.toList (by simp; omega);obtain ⟨hh1,hh2⟩:=jF b news.toList (bo+k*ti.size+n*ti.size) w;have hnI:=hR.kG ob p b bo sz hp hpl1;have hIb:∀b',I b'→(w.setCells b (bo+k*ti.size+n*ti.size) news.toList).heap[b']? = w.heap[b']? := fun b' hb=>hh2 b' (fun e=>hnI (e ▸ hb));have hR1:=hR.drop [ob];have hfree:∀o1 p1 b1 bo1 sz1,kill O [ob] o1=some p1→p1.pl=some (b1,bo1,sz1)→b1≠b:=by
        intro o1 p1 b1 bo1 sz1 w1 w2;unfold kill at w1;by_cases hne:o1∈[ob]
        ·simp [hne] at w1
        ·rw [if_neg hne] at w1;exact hR.inj o1 ob p1 p b1 bo1 sz1 b bo sz w1 hp w2 hpl1 (by simpa using hne)
       have happ:=IE (rest:=#[]) holds hnews;have hR2:=hR1.place hn (w':=w.setCells b (bo+k*ti.size+n*ti.size) news.toList) (kg _ _ _ _) (.row ti.size (n+m) (appG n (kP k g) g')) ⟨ti.size,n+m,some (b,bo+k*ti.size,sz)⟩ rfl hh2 hh1 (hR.lt ob p b bo sz hp hpl1) (hR.new ob p b bo sz hp hpl1) hnI hfree (by
        refine ⟨rfl,rfl,fun q hq=>(happ q hq).1,.inr ⟨_,_,_,rfl,hal',?_,fun q j hq hj=>?_⟩⟩
        ·rw [Nat.add_mul]; omega
        ·have hq2:(q+1)*ti.size≤(n+m)*ti.size:=Nat.mul_le_mul_right _ hq
         rw [Nat.succ_mul,Nat.add_mul] at hq2
         rw [hcell _ (by omega)]
         by_cases hqn:q<n
         ·have hq3:(q+1)*ti.size≤n*ti.size:=Nat.mul_le_mul_right _ hqn
          rw [Nat.succ_mul] at hq3
          rw [if_neg (by omega)]
          have e3:appG n (kP k g) g' q=g (k+q):=by
           have:Nat.blt q n=true:=by simpa using hqn
           simp [appG,this,vE]
          rw [e3]
          have e4:bo+k*ti.size+(q*ti.size+j)=bo+((k+q)*ti.size+j):=by rw [Nat.add_mul]; omega
          rw [e4]
          have:=hcs (k+q) j (by omega) hj
          exact ⟨this.1.mono (fun _ h=>h) hIb,this.2⟩
         ·have hq3:n*ti.size≤q*ti.size:=Nat.mul_le_mul_right _ (by omega)
          rw [if_pos (by simp; omega)]
          have e3:appG n (kP k g) g' q=g' (q - n):=by
           have:Nat.blt q n=false:=Ei hqn
           simp [appG,this]
          rw [e3]
          have hqq:q*ti.size=n*ti.size+(q - n)*ti.size:=by rw [← Nat.add_mul]; congr 1; omega
          have e4:bo+k*ti.size+(q*ti.size+j) - (bo+k*ti.size+n*ti.size)=(q - n)*ti.size+j:=by omega
          rw [e4]
          have hlt:(q - n)*ti.size+j<news.size:=by omega
          have:=(hnews.2 (q - n) (by omega)).2 j hj
          simp [hlt] at this
          simp [hlt]
          exact ⟨this.1.mono (fun _ h=>h) hIb,this.2⟩)
       intro next Q hnx
       refine mW hrun (hnx _ _ I _ (by rw [vF]; exact hR2) (fun u y hu=>(hu.drop hR [ob]).place hR1 hn hIb) ?_);rw [haa];refine .cu (p:=⟨ti.size,n+m,some (b,bo+k*ti.size,sz)⟩) (by simp [setO]) (by simp) hroom (fun h=>by cases h) (fun _=>⟨_,_,_,rfl,by simp,?_⟩) (by simp; omega);simp only [Nat.zero_add];omega
     ·exact grow [ob] (by omega)
    obtain ⟨rfl,rfl⟩:=h9.iQ;exact other
  ·exact (dx.aH h6).elim
 ·exact (dx.aH h).elim
theorem Sl {u:AV} {k:Nat→Nat→(Nat→AV)→Pg} {x:Value} (hR:Rel cfg cx H D w I O) (hx:Rep w I O D u x) (h:dx Sp H (JJ u k) v ups r):
  ∃es n g base c r',x=.slice base n c∧dx Sp H (k es n g) v ups r'∧∀size,FN es n size=true→0<size→∀q,q≤n→Reads P w I size q g x:=by
 unfold JJ at h;split at h
 ·rename_i es n f g;have hp:=hx.xR;cases hp with
  | sl b off vs hcap hfull ha hes hm h1 hr=>
   refine ⟨es,n,g,_,_,r,rfl,h,fun size he hs q hq=>?_⟩;by_cases hn:n=0
   ·have hq:q=0:=by omega
    subst hq;exact iB 0 0 (fun _ _=>Go.undef) (fun h=>absurd rfl h) (fun i hi=>absurd hi (by omega)) (fun i j hi=>absurd hi (by omega)) (fun i j hi=>absurd hi (by omega)) (fun i j hi=>absurd hi (by omega)) hs
   ·have:=qI he hn;subst this;exact iB b off vs (fun _=>(ha hn).1) (fun i hi=>hes i (by omega)) (fun i j hi=>hm i j (by omega)) (fun i j hi=>h1 i j (by omega)) (fun i j hi=>hr i j (by omega)) hs
 ·rename_i ob i n f;obtain ⟨obj,r',hob,h1⟩:=h.jM;obtain ⟨p,hp,hO⟩:=hR.live hob;cases obj with
  | map=>exact (dx.aH h1).elim
  | box cs=>exact (dx.aH h1).elim
  | row es m g=>
   obtain ⟨aa,cap,rfl,h2,h3,h4,h5⟩:=hx.kT hp;refine ⟨es,n,kP i g,aa,cap,r',rfl,h1,fun size he hs q hq=>?_⟩;by_cases hn:n=0
   ·have hq:q=0:=by omega
    subst hq;exact iB 0 0 (fun _ _=>Go.undef) (fun h=>absurd rfl h) (fun i hi=>absurd hi (by omega)) (fun i j hi=>absurd hi (by omega)) (fun i j hi=>absurd hi (by omega)) (fun i j hi=>absurd hi (by omega)) hs
   ·have:=qI he hn;subst this;obtain ⟨cells,hc1,hc2⟩:=IC (P:=P) (n:=q) (cap:=cap) (aa:=aa) hO (by omega) (by omega) hs h5;exact ⟨cells,hc1,fun w' hw=>by have:=hc2 w' hw; cases aa<;>exact this⟩
 ·exact (dx.aH h).elim
theorem Yp (hc:dY P cfg) (hR:Rel cfg cx H D w I O) {c:Call} (ho:o.op=.call c) (hcl:c.callee=.builtin .copy) (hx:∀x∈c.args.toList,Rep w I O D (ρ x) (a.eval x))
  (h:dx Sp H (dO cfg nid (.call c) ρ) v ups r):dn P cfg cx H D w I O nid o a v ups:=by
 simp only [dO,hcl] at h;split at h
 ·rename_i d s t t' e1 e2;obtain ⟨xd,xs,hargs,hd,hs⟩:=args2 e1;have hty:c.argTypes=#[t,t']:=by rw [← Array.toList_inj]; simpa using e2
  have hdr:Rep w I O D d (a.eval xd):=hd ▸ hx xd (by simp [hargs]);have hsr:Rep w I O D s (a.eval xs):=hs ▸ hx xs (by simp [hargs]);obtain ⟨tt',e',ti',q1,q2,q3,h1⟩:=h.lu;obtain ⟨tt,e,ti,p1,p2,p3,h2⟩:=h1.lu;obtain ⟨hpos,h4⟩:=h2.bg;have hpos:0<ti.size:=by simpa using hpos
  obtain ⟨hu,i,z,hi,hz,hsz,hby,hzs⟩:=hc.slice p1 p2 p3;have run:∀ {x' w'},(Builtin.copy_ #[t,t'] o.type #[a.eval xd,a.eval xs]).run P w=.ok x' w'→(execOp a.eval o).run P w=.ok (.value x') w':=by
   intro x' w' hr;simp only [execOp,ho,hcl,resolve,invoke,builtin,Sem.run_bind,Sem.run_pure,Result.andThen_ok,hargs,hty,List.map_toArray,List.map_cons,List.map_nil,hr]
  clear h h1 h2;unfold VU at h4;obtain ⟨es',m,g',base',c',r1,hsv,h5,hreads⟩:=Sl (P:=P) hR hsr h4;obtain ⟨hes',h6⟩:=h5.bg;clear h4 h5;split at h6
  ·rename_i ob i0 n full;obtain ⟨obj,r',hob,h7⟩:=h6.jM;obtain ⟨p,hp,hO⟩:=hR.live hob;cases obj with
   | map=>exact (dx.aH h7).elim
   | box cs=>exact (dx.aH h7).elim
   | row es N g=>
    obtain ⟨aa,cap,hdv,a1,a2,a3,a4⟩:=hdr.kT hp;obtain ⟨hes,h8⟩:=h7.bg;have hes:es=ti.size:=Nat.eq_of_beq_eq_true hes;obtain ⟨rfl,rfl⟩:=h8.iQ;obtain ⟨cells,hcells,hrd⟩:=hreads ti.size hes' hpos (Nat.min m n) (Nat.min_le_left _ _);have hrd:=hrd w rfl;rw [hsv,← hsz] at hrd;have hkn:Nat.min m n≤n:=Nat.min_le_right _ _;generalize hk:Nat.min m n=k at hcells hrd hkn;have run2:∀ {w'},(∀ad,aa=some ad→(storeCells ad cells.toList).run P w=.ok () w')→(aa=none→w'=w)→(Builtin.copy_ #[t,t'] o.type #[a.eval xd,a.eval xs]).run P w=.ok (goInt k) w':=by
     intro w' hw1 hw2;rw [hdv,hsv];cases aa with
     | none=>
      have:=hw2 rfl;subst this;simp [Builtin.copy_,run_underlying hu,sizeOf,typeInfo,hi,Builtin.lenOf,hk,hrd]
     | some ad=>
      have:=hw1 ad rfl;simp [Builtin.copy_,run_underlying hu,sizeOf,typeInfo,hi,Builtin.lenOf,hk,hrd,this]
    by_cases hk0:k=0
    ·subst hk0;have hce:cells=#[]:=Array.eq_empty_of_size_eq_zero (by have:=hcells.1; omega);have hrun:=run (run2 (w':=w) (fun ad _=>by rw [hce]; rfl) (fun _=>rfl));rw [LA];intro next Q hnx
     have hR2:Rel cfg cx (jk H [(ob,some (.row es N g))]) (vM D nid) w I O:=by
      rw [IG hob];exact hR.qc nid
     exact mW hrun (hnx _ w I O hR2 (fun u y hu=>hu.qc hR nid) (.pure (.int _ _)))
    ·obtain ⟨b,bo,sz,hpl,haa,hcapz⟩:=a4 (by omega);obtain ⟨hn,hess,hlen,hpl' | ⟨b',bo',sz',hpl',hal,hle,hcs⟩⟩:=hO
     ·rw [hpl] at hpl'; cases hpl'.2
     rw [hpl] at hpl';cases hpl';rw [hess] at haa hcapz;subst hes;have hmul:(i0+k)*ti.size≤N*ti.size:=Nat.mul_le_mul_right _ (by omega);rw [Nat.add_mul] at hmul;have hcsz:=hcells.1;have hone:∀j,j<cells.size→(cells.getD j Go.undef).oneCell'=true:=fun j hj=>by
      rw [hcsz] at hj;have h1:j / ti.size<k:=(Nat.div_lt_iff_lt_mul hpos).2 hj;have h2:=((hcells.2 _ h1).2 (j % ti.size) (Nat.mod_lt _ hpos)).2;rwa [Nat.div_add_mod'] at h2
     have hst:=run_storeCells_cells (P:=P) b (bo+i0*ti.size) cells.toList 0 w (fun j hj=>(hal (bo+i0*ti.size+0+j) (by simp at hj; omega)).1) (fun j hj=>(hal (bo+i0*ti.size+0+j) (by simp at hj; omega)).2)
      (fun u hu=>by
        obtain ⟨j,hj,rfl⟩:=List.mem_iff_getElem.1 hu
        have hj':j<cells.size:=by simpa using hj
        simpa [hj'] using hone j hj')
     rw [Nat.add_zero] at hst;have hrun:=run (run2 (w':=w.setCells b (bo+i0*ti.size) cells.toList) (fun ad h=>by rw [haa] at h; cases h; exact hst) (fun h=>by rw [haa] at h; cases h));obtain ⟨hal',hcell⟩:=jP hal (bo+i0*ti.size) cells.toList (by simp; omega);obtain ⟨hh1,hh2⟩:=jF b cells.toList (bo+i0*ti.size) w;have hIb:∀b',I b'→(w.setCells b (bo+i0*ti.size) cells.toList).heap[b']? = w.heap[b']? := fun b' hb=>hh2 b' (fun e=>hR.kG ob p b bo sz hp hpl (e ▸ hb));have keep:∀u z,Rep w I O D u z→Rep (w.setCells b (bo+i0*ti.size) cells.toList) I O D u z:=fun u z hu=>hu.mono (fun _ h=>h) hIb (fun _ _=>.inl rfl) (fun _ h=>h) hR.used;have pkeep:∀u z,PRep w I u z→PRep (w.setCells b (bo+i0*ti.size) cells.toList) I u z:=fun u z hu=>hu.mono (fun _ h=>h) hIb;have hRel:=hR.write (kg _ _ _ _) (.row ti.size N (UF i0 k g g')) hp hpl hh2 hh1 (by
      refine ⟨hn,hess,fun j hj=>?_,.inr ⟨b,bo,sz,hpl,hal',hle,fun j q hj hq=>?_⟩⟩
      ·by_cases hin:i0≤j∧j<i0+k
       ·rw [LB hin.1 hin.2]
        exact (hcells.2 (j - i0) (by omega)).1
       ·rw [GH hin]
        exact hlen j hj
      ·have hmj:(j+1)*ti.size≤N*ti.size:=Nat.mul_le_mul_right _ hj
       rw [Nat.succ_mul] at hmj
       rw [hcell _ (by omega)]
       by_cases hin:i0≤j∧j<i0+k
       ·rw [LB hin.1 hin.2]
        have q1:i0*ti.size≤j*ti.size:=Nat.mul_le_mul_right _ hin.1
        have q2:(j+1)*ti.size≤(i0+k)*ti.size:=Nat.mul_le_mul_right _ hin.2
        rw [Nat.succ_mul,Nat.add_mul] at q2
        have q3:(j - i0)*ti.size=j*ti.size - i0*ti.size:=Nat.sub_mul _ _ _
        rw [if_pos (by simp; omega)]
        have e3:bo+(j*ti.size+q) - (bo+i0*ti.size)=(j - i0)*ti.size+q:=by omega
        rw [e3]
        have hh:=(hcells.2 (j - i0) (by omega)).2 q hq
        have e4:cells.toList.getD ((j - i0)*ti.size+q) Go.undef=cells.getD ((j - i0)*ti.size+q) Go.undef:=by
         have hlt:(j - i0)*ti.size+q<cells.size:=by omega
         simp [hlt]
        rw [e4]
        exact ⟨pkeep _ _ hh.1,hh.2⟩
       ·rw [GH hin]
        rw [if_neg ?_]
        ·exact ⟨pkeep _ _ (hcs j q hj hq).1,(hcs j q hj hq).2⟩
        ·intro ⟨r1,r2⟩
         have r2:bo+(j*ti.size+q)<bo+i0*ti.size+cells.size:=by simpa using r2
         apply hin
         constructor
         ·rcases Nat.lt_or_ge j i0 with h | h
          ·have:(j+1)*ti.size≤i0*ti.size:=Nat.mul_le_mul_right _ h
           rw [Nat.succ_mul] at this
           omega
          ·exact h
         ·rcases Nat.lt_or_ge j (i0+k) with h | h
          ·exact h
          ·have:(i0+k)*ti.size≤j*ti.size:=Nat.mul_le_mul_right _ h
           rw [Nat.add_mul] at this
           omega)
     intro next Q hnx
     exact mW hrun (hnx _ _ I O (hRel.qc nid) (fun u z hu=>(keep u z hu).qc hRel nid) (.pure (.int _ _)))
  ·exact (dx.aH h6).elim
 ·exact (dx.aH h).elim
end
end Go.Ab



namespace Go.Ab
section
variable {P:Program} {cfg:qm} {cx:Ctx} {H:Nat→Option bJ} {D:Nat→Prop} {w:World} {I:Nat→Prop} {O:OM} {Sp:j3}
variable {nid:Nat} {o:Oper} {a:Act} {ρ:Operand→AV} {v:AV} {ups:iI} {r:List Nat}
theorem Qm (g:Nat→AV) (ns:List Int):∀(k i:Nat) (s:ByteArray),k+i=ns.length→(∀j,i≤j→j<ns.length→g j=.int .u8 (ns.getD j 0))→zO k i g s=(ns.drop i).foldl (fun r n=>r.push (UInt8.ofNat n.toNat)) s:=by
 intro k;induction k with
 | zero=>intro i s h _; rw [List.drop_eq_nil_of_le (by omega)]; rfl
 | succ k ih=>
  intro i s h hg;rw [show ns.drop i=ns.getD i 0::ns.drop (i+1) by rw [List.drop_eq_getElem_cons (by omega),List.getD_eq_getElem?_getD,List.getElem?_eq_getElem (by omega)]; rfl];simp only [zO,List.foldl_cons];rw [hg i (Nat.le_refl _) (by omega)];exact ih (i+1) _ (by omega) (fun j hj hj'=>hg j (by omega) hj')
theorem WA (hc:dY P cfg) (hR:Rel cfg cx H D w I O) {src dst:TypeId} {x:Operand} (ho:o.op=.convert src dst x) (hx:Rep w I O D (ρ x) (a.eval x)) {td:FM} (hd:look cfg.ty dst=some td) (hs:Zy td.desc=true)
  (h:dx Sp H (OU cfg src (ρ x)) v ups r):dn P cfg cx H D w I O nid o a v ups:=by
 unfold OU at h;obtain ⟨tt,e,ei,p1,p2,p3,h1⟩:=h.lu;obtain ⟨hu8,h2⟩:=h1.bg;obtain ⟨hu,i,z,hi,hiz,hsz,_⟩:=hc.slice p1 p2 p3;obtain ⟨es,n,g,base,c,r1,hxv,h3,hreads⟩:=O7 (P:=P) hR hx h2;obtain ⟨hes,h4⟩:=h3.bg;obtain ⟨hall,h5⟩:=h4.vO;obtain ⟨rfl,rfl⟩:=h5.cZ;obtain ⟨cells,hcells,hrd⟩:=hreads 1 hes (by omega);have hue:P.underlying e=some (.int .u8):=by
  obtain ⟨_,d,_,_,hud,_,_,_,_,_,_,_,hm⟩:=(hc.ty e ei p3).ex;unfold u8D at hu8;split at hu8
  ·rename_i hdd;rw [hdd] at hm;have hm:d=.int .u8:=hm;rw [hud,hm]
  ·cases hu8
 have hdd:P.underlying dst=some .string:=by
  obtain ⟨_,d,_,_,hud,_,_,_,_,_,_,_,hm⟩:=(hc.ty dst td hd).ex;unfold Zy at hs;split at hs
  ·rename_i hq;rw [hq] at hm;have hm:d=.string:=hm;rw [hud,hm]
  ·cases hs
 have hus:∃ds,P.underlying src=some ds:=⟨_,hu⟩;let num:AV→Int:=fun u=>match u with | .int _ m=>m | _=>0
 have hg8:∀j,j<n→g j=.int .u8 (num (g j)):=fun j hj=>by
  have:=hall j hj;cases hgj:g j with
  | int k m=>rw [hgj] at this; cases k<;>first | rfl | cases this
  | _=>rw [hgj] at this; cases this
 obtain ⟨ns,hns⟩:∃ns:List Int,ns=(List.range n).map fun j=>num (g j):=⟨_,rfl⟩;have hnl:ns.length=n:=by rw [hns]; simp
 have hng:∀j,j<n→ns.getD j 0=num (g j):=fun j hj=>by
  rw [hns,List.getD_eq_getElem?_getD,List.getElem?_map,List.getElem?_range hj];rfl
 have hce:cells=(ns.map (Value.int .u8)).toArray:=by
  apply Array.ext
  ·rw [hcells.1]; simp [hnl]
  ·intro j h1 h2;have hj:j<n:=by have:=hcells.1; omega
   have h3:=((hcells.2 j hj).2 0 (by omega)).1;rw [hg8 j hj] at h3;have h4:PRep w I (.int .u8 (num (g j))) (cells.getD (j*1+0) Go.undef):=h3;have h5:cells.getD (j*1+0) Go.undef=.int .u8 (num (g j)):=(Rep.pure (O:=fun _=>none) (D:=fun _=>False) h4).fD;rw [Nat.mul_one,Nat.add_zero] at h5;have h6:cells.getD j Go.undef=cells[j]:=by simp [h1]
   rw [h6] at h5;rw [h5];have:=hng j hj;rw [List.getD_eq_getElem?_getD,List.getElem?_eq_getElem (by omega)] at this;simp at this;simp [this]
 have hval:zO n 0 g ByteArray.empty=ns.foldl (fun r n=>r.push (UInt8.ofNat n.toNat)) ByteArray.empty:=by
  have:=Qm g ns n 0 ByteArray.empty (by omega) (fun j _ hj=>by rw [hng j (by omega)]; exact hg8 j (by omega));rw [this,List.drop_zero]
 refine dn.bW (x:=.string (zO n 0 g ByteArray.empty)) hR ?_ (.pure (.str _));rw [hval];simp only [execOp,ho,hxv,Sem.run_bind,run_convert_bytes_string w src dst e base n c hu hue hdd];cases base with
 | none=>
  have hn0:n=0:=by
   have h7:=hrd w rfl;rw [hxv] at h7;have h8:(#[]:Array Value)=cells:=by simpa [Builtin.firstCells] using h7
   have h9:=hcells.1;rw [← h8] at h9;simpa using h9.symm
  have:ns=[]:=List.eq_nil_of_length_eq_zero (by omega);subst this;simp [Conv.bytesToString]
 | some ad=>
  have hload:(loadCells ad n).run P w=.ok (ns.map (Value.int .u8)).toArray w:=by
   have:=hrd w rfl;rw [hxv,hce] at this;have e1:Builtin.firstCells 1 n (.slice (some ad) n c)=loadCells ad (n*1):=rfl;rw [e1,Nat.mul_one] at this;exact this
  rw [run_bytesToString w ad n c ns hload];rfl
theorem Sm (hc:dY P cfg) (hR:Rel cfg cx H D w I O) {s d:TypeId} {x:Operand} (ho:o.op=.convert s d x) (hx:Rep w I O D (ρ x) (a.eval x))
  (h:dx Sp H (dO cfg nid (.convert s d x) ρ) v ups r):dn P cfg cx H D w I O nid o a v ups:=by
 simp only [dO] at h;obtain ⟨ts,hs,h1⟩:=h.jN;obtain ⟨td,hd,h2⟩:=h1.jN;obtain ⟨_,ds,_,_,hus,_⟩:=(hc.ty s ts hs).ex;obtain ⟨_,dd,_,_,hud,_,_,_,_,_,_,_,hm⟩:=(hc.ty d td hd).ex;split at h2
 ·exact WA hc hR ho hx hd (by assumption) h2
 split at h2
 ·rename_i k k' n e1 e2;rw [e2] at hx;rw [e1] at hm;have hm:dd=.int k:=hm;subst hm;obtain ⟨rfl,rfl⟩:=h2.cZ;refine dn.bW (x:=.int k _) hR ?_ (.pure (.int _ _));simp [execOp,ho,hx.fD,convert,bA hus,bA hud,Conv.intToInt]
 ·exact (dx.aH h2).elim
theorem WB (hc:dY P cfg) (hR:Rel cfg cx H D w I O) {c:Call} (ho:o.op=.call c) (hcl:c.callee=.builtin .clear) (hx:∀x∈c.args.toList,Rep w I O D (ρ x) (a.eval x))
  (h:dx Sp H (dO cfg nid (.call c) ρ) v ups r):dn P cfg cx H D w I O nid o a v ups:=by
 simp only [dO,hcl] at h;split at h
 ·rename_i ob i0 n full t e1 e2;obtain ⟨x,hargs,hd⟩:∃x,c.args=#[x]∧ρ x=.cu ob i0 n full:=by
   have hl:c.args.toList.length=1:=by
    have:=congrArg List.length e1;simpa using this
   match hh:c.args.toList,hl with
   | [x],_=>
    refine ⟨x,by rw [← Array.toList_inj]; simpa using hh,?_⟩
    rw [hh] at e1
    simpa using e1
  have hty:c.argTypes=#[t]:=by rw [← Array.toList_inj]; simpa using e2
  have hdr:Rep w I O D (.cu ob i0 n full) (a.eval x):=hd ▸ hx x (by simp [hargs]);obtain ⟨tt,e,ti,p1,p2,p3,h1⟩:=h.lu;obtain ⟨hz,h2⟩:=h1.bg;obtain ⟨hpos,_⟩:=GA hz;obtain ⟨hu,i,z,hi,hiz,hsz,hby,hzs⟩:=hc.slice p1 p2 p3;obtain ⟨i',_,z',hi',_,hiz',_,_,_,_,hzl,hzm,_⟩:=(hc.ty e ti p3).ex;rw [hi] at hi'; cases hi';rw [hiz] at hiz'; cases hiz';obtain ⟨obj,_,hob,h3⟩:=h2.jM;obtain ⟨p,hp,hO⟩:=hR.live hob;have run:∀ {x' w'},(Builtin.clear_ #[t] o.type #[a.eval x]).run P w=.ok x' w'→(execOp a.eval o).run P w=.ok (.value x') w':=by
   intro x' w' hr;simp only [execOp,ho,hcl,resolve,invoke,builtin,Sem.run_bind,Sem.run_pure,Result.andThen_ok,hargs,hty,List.map_toArray,List.map_cons,List.map_nil,hr]
  cases obj with
  | map=>exact (dx.aH h3).elim
  | box cs=>exact (dx.aH h3).elim
  | row es N g=>
   obtain ⟨hes,h4⟩:=h3.bg;have hes:es=ti.size:=Nat.eq_of_beq_eq_true hes;obtain ⟨rfl,rfl⟩:=h4.iQ;subst hes;have hpes:p.es=ti.size:=hO.2.1;have hpn:p.n=N:=hO.1;obtain ⟨aa,cap,hdv,a1,a2,a3,a4⟩:=hdr.kT hp;by_cases hn0:n=0
   ·subst hn0;have hr:(Builtin.clear_ #[t] o.type #[a.eval x]).run P w=.ok (.tuple #[]) w:=by
     rw [hdv];cases aa<;>simp [Builtin.clear_,bA hu]
    intro next Q hnx
    refine mW (run hr) (hnx _ w I O (by rw [LA,IG hob]; exact hR.qc nid) (fun u y hu=>hu.qc hR nid) (.pure (.undef _)))
   ·obtain ⟨b,bo,sz,hpl,haa,hcapz⟩:=a4 (by omega);have hcells:Cx w I ti.size n (fun _=>zeroOf ti) ((Array.range (n*ti.size)).map (fun k=>z.cells[k % z.cells.size]!)):=by
     refine ⟨by simp,fun j hj=>?_⟩;rw [zS hz hzl];refine ⟨by rw [gK]; exact hzl,fun q hq=>?_⟩;rw [xS z.cells n j q ti.size hzs hj hq];exact ⟨yJ _ _ ti.size hzl hzm q hq,Gz _ _ ti.size hzm q hq⟩
    obtain ⟨hst,hRel,keep⟩:=hR.Wz (P:=P) (i0:=i0) (k:=n) hp hO hpl hpos hcells (by omega);have hzc:Builtin.zeroCells z.cells n=(Array.range (n*ti.size)).map (fun k=>z.cells[k % z.cells.size]!):=by
     unfold Builtin.zeroCells;rw [hzs]
    have hr:(Builtin.clear_ #[t] o.type #[a.eval x]).run P w=.ok (.tuple #[]) (w.setCells b (bo+i0*ti.size) ((Array.range (n*ti.size)).map (fun k=>z.cells[k % z.cells.size]!)).toList):=by
     rw [hdv,haa,hpes];rw [← hzc] at hst ⊢;cases n with
     | zero=>exact absurd rfl hn0
     | succ n=>
      simp only [Builtin.clear_,List.getElem?_toArray,List.getElem?_cons_zero,Sem.run_bind,Sem.run_pure,bA hu,zeroValue,typeInfo,program,Sem.run,hi,hiz,Result.andThen] at hst ⊢;rw [hst]
    intro next Q hnx
    exact mW (run hr) (hnx _ _ I O (hRel.qc nid) (fun u y hu=>(keep u y hu).qc hRel nid) (.pure (.undef _)))
 ·exact (dx.aH h).elim
end
end Go.Ab

namespace Go.Ab
section
variable {P:Program} {cfg:qm} {cx:Ctx} {H:Nat→Option bJ} {D:Nat→Prop} {w:World} {I:Nat→Prop} {O:OM} {Sp:j3}
variable {nid:Nat} {o:Oper} {a:Act} {ρ:Operand→AV} {v:AV} {ups:iI} {r:List Nat}
theorem Rep.rZ {u:AV} {x:Value} (h:Rep w I O D u x) (hp:oU u=true):PRep w I u x:=by
 cases h with
 | pure h=>exact h
 | _=>cases hp
theorem xU {l:List AV} (h:lZ l=true):∀j,j<l.length→oU (nth l j)=true:=by
 induction l with
 | nil=>intro j hj; cases hj
 | cons u l ih=>
  intro j hj;unfold lZ at h;cases hv:oU u with
  | false=>simp [hv] at h
  | true=>
   simp only [hv] at h;cases j with
   | zero=>exact hv
   | succ j=>exact ih h j (by simpa using hj)
theorem yK:∀(l:List Nat) (x k j:Nat),yD l x k=some j→k≤j∧j - k<l.length∧nthN l (j - k)=x:=by
 intro l;induction l with
 | nil=>intro x k j h; cases h
 | cons y l ih=>
  intro x k j h;unfold yD at h;cases hb:Nat.beq y x with
  | true=>
   simp only [hb] at h;cases h;exact ⟨Nat.le_refl _,by simp,by simp [nthN,Nat.eq_of_beq_eq_true hb]⟩
  | false=>
   simp only [hb] at h;obtain ⟨h1,h2,h3⟩:=ih x (k+1) j h;refine ⟨by omega,by simp; omega,?_⟩;have:j - k=(j - (k+1))+1:=by omega
   rw [this];exact h3
theorem Qn:∀(sg:List Nat) (k:List bJ→Pg) (r:List Nat),dx Sp H (TU sg k) v ups r→∃obs r',dx Sp H (k obs) v ups r'∧obs.length=sg.length∧∀j,j<sg.length→∃x,hof obs j=some x∧H (nthN sg j)=some x:=by
 intro sg;induction sg with
 | nil=>intro k r h; exact ⟨[],r,h,rfl,fun j hj=>by cases hj⟩
 | cons x sg ih=>
  intro k r h;simp only [TU] at h;obtain ⟨ob,r1,hob,h1⟩:=h.jM;obtain ⟨obs,r2,h2,h3,h4⟩:=ih _ _ h1;refine ⟨ob::obs,r2,h2,by simp [h3],fun j hj=>?_⟩;cases j with
  | zero=>exact ⟨ob,rfl,hob⟩
  | succ j=>exact h4 j (by simpa using hj)
def subO (O:OM) (sg:List Nat):OM:=fun j=>if j<sg.length then O (nthN sg j) else none
theorem E5 (hR:Rel cfg cx H D w I O) {sg:List Nat} (hlive:∀j,j<sg.length→∃x,H (nthN sg j)=some x) {u:AV} {k:AV→List Nat→Pg} (h:dx Sp H (Ed sg u k) v ups r):
  ∃u' ids r',dx Sp H (k u' ids) v ups r'∧∀x,Rep w I O D u x→Rep w (fun b=>I b∨wM O ids b) (subO O sg) (fun o=>o<sg.length) u' x:=by
 have dflt:∀ {u:AV} {r:List Nat},dx Sp H (OJ fuel u k) v ups r→∃u' ids r',dx Sp H (k u' ids) v ups r'∧∀x,Rep w I O D u x→Rep w (fun b=>I b∨wM O ids b) (subO O sg) (fun o=>o<sg.length) u' x:=by
  intro u r h;obtain ⟨u',ids,r',h1,h2⟩:=(yI hR fuel).1 _ _ _ _ _ h;exact ⟨u',ids,r',h1,fun x hx=>.pure (h2 x hx)⟩
 unfold Ed at h;split at h
 ·rename_i ob i off;cases hi:yD sg ob 0 with
  | none=>rw [hi] at h; exact dflt h
  | some j=>
   rw [hi] at h;obtain ⟨_,h2,h3⟩:=yK sg ob 0 j hi;simp only [Nat.sub_zero] at h2 h3;refine ⟨_,_,r,h,fun x hx=>?_⟩;obtain ⟨y,hy⟩:=hlive j h2;rw [h3] at hy;obtain ⟨p,hp,_⟩:=hR.live hy;obtain ⟨b,bo,sz,q1,q2,rfl⟩:=hx.l6 hp;exact .ptr (by unfold subO; rw [if_pos h2,h3]; exact hp) q1 q2
 ·rename_i ob i n f;cases hi:yD sg ob 0 with
  | none=>rw [hi] at h; exact dflt h
  | some j=>
   rw [hi] at h;obtain ⟨_,h2,h3⟩:=yK sg ob 0 j hi;simp only [Nat.sub_zero] at h2 h3;refine ⟨_,_,r,h,fun x hx=>?_⟩;obtain ⟨y,hy⟩:=hlive j h2;rw [h3] at hy;obtain ⟨p,hp,_⟩:=hR.live hy;obtain ⟨aa,cap,rfl,q1,q2,q3,q4⟩:=hx.kT hp;exact .cu (by unfold subO; rw [if_pos h2,h3]; exact hp) q1 q2 q3 q4 (hx.Eh hp)
 ·exact dflt h
theorem Cy (hR:Rel cfg cx H D w I O) {sg:List Nat} (hlive:∀j,j<sg.length→∃x,H (nthN sg j)=some x):∀(l:List AV) (k:List AV→List Nat→Pg) (r:List Nat),dx Sp H (yE sg l k) v ups r→
  ∃l' ids r',dx Sp H (k l' ids) v ups r'∧l'.length=l.length∧∀j,j<l.length→∀x,Rep w I O D (nth l j) x→Rep w (fun b=>I b∨wM O ids b) (subO O sg) (fun o=>o<sg.length) (nth l' j) x:=by
 intro l;induction l with
 | nil=>intro k r h; exact ⟨[],[],r,h,rfl,fun j hj=>by cases hj⟩
 | cons u l ih=>
  intro k r h;simp only [yE] at h;obtain ⟨u',i1,r1,h1,h2⟩:=E5 hR hlive h;obtain ⟨l',i2,r2,h3,h4,h5⟩:=ih _ _ h1;have hused:∀o p,subO O sg o=some p→o<sg.length:=fun o p h=>by
   unfold subO at h;split at h
   ·assumption
   ·cases h
  refine ⟨u'::l',i1++i2,r2,h3,by simp [h4],fun j hj x hx=>?_⟩;cases j with
  | zero=>exact (h2 x hx).mono (fun b h=>h.elim .inl fun h=>.inr h.Sd) (fun _ _=>rfl) (fun _ _=>.inl rfl) (fun _ h=>h) hused
  | succ j=>exact (h5 j (by simpa using hj) x hx).mono (fun b h=>h.elim .inl fun h=>.inr h.Sg) (fun _ _=>rfl) (fun _ _=>.inl rfl) (fun _ h=>h) hused
theorem zU:∀(l:List Nat),j6 l=true→∀i j,i<l.length→j<l.length→nthN l i=nthN l j→i=j:=by
 have mem:∀(l:List Nat) (j:Nat),j<l.length→nthN l j∈l:=by
  intro l;induction l with
  | nil=>intro j hj; cases hj
  | cons x l ih=>intro j hj; cases j with
   | zero=>simp [nthN]
   | succ j=>exact List.mem_cons_of_mem _ (ih j (by simpa using hj))
 intro l;induction l with
 | nil=>intro _ i j hi; cases hi
 | cons x l ih=>
  intro h i j hi hj he;unfold j6 at h;cases hm:uK x l with
  | true=>simp [hm] at h
  | false=>
   simp only [hm] at h;have hx:=qJ hm;cases i with
   | zero=>cases j with
    | zero=>rfl
    | succ j=>simp only [nthN] at he; exact absurd (he ▸ mem l j (by simpa using hj)) hx
   | succ i=>cases j with
    | zero=>simp only [nthN] at he; exact absurd (he ▸ mem l i (by simpa using hi)) hx
    | succ j=>simp only [nthN] at he; rw [ih h i j (by simpa using hi) (by simpa using hj) he]
theorem lD:∀(l:List Nat) (j:Nat),j<l.length→nthN l j∈l:=by
 intro l;induction l with
 | nil=>intro j hj; cases hj
 | cons x l ih=>intro j hj; cases j with
  | zero=>simp [nthN]
  | succ j=>exact List.mem_cons_of_mem _ (ih j (by simpa using hj))
theorem LD:∀(l:List Nat) (x:Nat),x∈l→∃j,j<l.length∧nthN l j=x:=by
 intro l;induction l with
 | nil=>intro x h; cases h
 | cons y l ih=>
  intro x h;rcases List.mem_cons.1 h with h | h
  ·exact ⟨0,by simp,h.symm⟩
  ·obtain ⟨j,h1,h2⟩:=ih x h;exact ⟨j+1,by simp; omega,h2⟩
theorem FT:∀(l m:List Nat),Cj l m=true→∀x∈l,x ∉ m:=by
 intro l;induction l with
 | nil=>intro m _ x hx; cases hx
 | cons y l ih=>
  intro m h x hx;unfold Cj at h;cases hm:uK y m with
  | true=>simp [hm] at h
  | false=>
   simp only [hm] at h;rcases List.mem_cons.1 hx with hx | hx
   ·subst hx; exact qJ hm
   ·exact ih m h x hx
theorem NZ (hR:Rel cfg cx H D w I O) {sg:List Nat} (hlive:∀j,j<sg.length→∃x,H (nthN sg j)=some x) {o j:Nat} (h:yD sg o 0=some j):j<sg.length∧∃p,O o=some p∧subO O sg j=some p:=by
 obtain ⟨_,h2,h3⟩:=yK sg o 0 j h;simp only [Nat.sub_zero] at h2 h3;obtain ⟨y,hy⟩:=hlive j h2;rw [h3] at hy;obtain ⟨p,hp,_⟩:=hR.live hy;exact ⟨h2,p,hp,by unfold subO; rw [if_pos h2,h3]; exact hp⟩
theorem Sn (hR:Rel cfg cx H D w I O) {sg:List Nat} (hlive:∀j,j<sg.length→∃x,H (nthN sg j)=some x) {u:AV} {k:AV→Pg} {r:List Nat} (h:dx Sp H (inv1 sg u k) v ups r):
  ∃u',dx Sp H (k u') v ups r∧∀(I':Nat→Prop) (_:∀b,I b→I' b) x,Rep w I O D u x→Rep w I' (subO O sg) (fun o=>o<sg.length) u' x:=by
 have pureCase:oU u=true→∀(I':Nat→Prop) (_:∀b,I b→I' b) x,Rep w I O D u x→Rep w I' (subO O sg) (fun o=>o<sg.length) u x:=fun hp I' hI x hx=>.pure ((hx.rZ hp).mono hI (fun _ _=>rfl));unfold inv1 at h;split at h
 ·rename_i ob i off;cases hi:yD sg ob 0 with
  | none=>rw [hi] at h; exact (dx.aH h).elim
  | some j=>
   rw [hi] at h;obtain ⟨h1,p,h2,h3⟩:=NZ hR hlive hi;refine ⟨_,h,fun I' hI x hx=>?_⟩;obtain ⟨b,bo,sz,q1,q2,rfl⟩:=hx.l6 h2;exact .ptr h3 q1 q2
 ·rename_i ob i n f;cases hi:yD sg ob 0 with
  | none=>rw [hi] at h; exact (dx.aH h).elim
  | some j=>
   rw [hi] at h;obtain ⟨h1,p,h2,h3⟩:=NZ hR hlive hi;refine ⟨_,h,fun I' hI x hx=>?_⟩;obtain ⟨aa,cap,rfl,q1,q2,q3,q4⟩:=hx.kT h2;exact .cu h3 q1 q2 q3 q4 (hx.Eh h2)
 ·rename_i f cs;obtain ⟨hp,h⟩:=h.bg;refine ⟨_,h,fun I' hI x hx=>?_⟩;obtain ⟨xs,rfl,hl,hr⟩:=hx.Cu;exact .pure (.fn hl fun j hj=>((hr j hj).rZ (xU hp j hj)).mono hI (fun _ _=>rfl))
 ·obtain ⟨hp,h⟩:=h.bg;exact ⟨_,h,pureCase hp⟩
theorem Sq (hR:Rel cfg cx H D w I O) {sg:List Nat} (hlive:∀j,j<sg.length→∃x,H (nthN sg j)=some x):∀(l:List AV) (k:List AV→Pg) (r:List Nat),dx Sp H (Ya sg l k) v ups r→
  ∃l',dx Sp H (k l') v ups r∧l'.length=l.length∧∀j,j<l.length→∀(I':Nat→Prop) (_:∀b,I b→I' b) x,Rep w I O D (nth l j) x→Rep w I' (subO O sg) (fun o=>o<sg.length) (nth l' j) x:=by
 intro l;induction l with
 | nil=>intro k r h; exact ⟨[],h,rfl,fun j hj=>by cases hj⟩
 | cons u l ih=>
  intro k r h;simp only [Ya] at h;obtain ⟨u',h1,h2⟩:=Sn hR hlive h;obtain ⟨l',h3,h4,h5⟩:=ih _ _ h1;refine ⟨u'::l',h3,by simp [h4],fun j hj I' hI x hx=>?_⟩;cases j with
  | zero=>exact h2 I' hI x hx
  | succ j=>exact h5 j (by simpa using hj) I' hI x hx
theorem Sr (hR:Rel cfg cx H D w I O) {sg:List Nat} (hlive:∀j,j<sg.length→∃x,H (nthN sg j)=some x) {ob:bJ} {k:bJ→Pg} {r:List Nat} (h:dx Sp H (aan sg ob k) v ups r):
  ∃ob',dx Sp H (k ob') v ups r∧(∀kd z f,ob'≠.map kd z f)∧∀(I':Nat→Prop) (_:∀b,I b→I' b) p,eT w I O D p ob→eT w I' (subO O sg) (fun o=>o<sg.length) p ob':=by
 cases ob with
 | map=>exact (dx.aH h).elim
 | box cs=>
  obtain ⟨cs',h1,h2,h3⟩:=Sq hR hlive cs _ _ h;refine ⟨_,h1,(fun _ _ _ h=>by cases h),fun I' hI p hp=>?_⟩;obtain ⟨q1,b,bo,sz,q2,q3,q4,q5⟩:=hp;exact ⟨q1,b,bo,sz,q2,q3,by rw [h2]; exact q4,fun j hj=>h3 j (by omega) I' hI _ (q5 j (by omega))⟩
 | row es n g=>
  refine ⟨_,h,(fun _ _ _ h=>by cases h),fun I' hI p hp=>?_⟩;obtain ⟨q1,q2,q3,q4⟩:=hp;refine ⟨q1,q2,q3,?_⟩;rcases q4 with q4 | ⟨b,bo,sz,e1,e2,e3,e4⟩
  ·exact .inl q4
  ·exact .inr ⟨b,bo,sz,e1,e2,e3,fun i j hi hj=>⟨(e4 i j hi hj).1.mono hI (fun _ _=>rfl),(e4 i j hi hj).2⟩⟩
theorem Qo (hR:Rel cfg cx H D w I O) {sg:List Nat} (hlive:∀j,j<sg.length→∃x,H (nthN sg j)=some x):∀(l:List bJ) (k:List bJ→Pg) (r:List Nat),dx Sp H (TV sg l k) v ups r→
  ∃l',dx Sp H (k l') v ups r∧l'.length=l.length∧∀j x,hof l j=some x→∃y,hof l' j=some y∧(∀kd z f,y≠.map kd z f)∧∀(I':Nat→Prop) (_:∀b,I b→I' b) p,eT w I O D p x→eT w I' (subO O sg) (fun o=>o<sg.length) p y:=by
 intro l;induction l with
 | nil=>intro k r h; exact ⟨[],h,rfl,fun j x hx=>by cases hx⟩
 | cons ob l ih=>
  intro k r h;simp only [TV] at h;obtain ⟨y,h1,h2⟩:=Sr hR hlive h;obtain ⟨l',h3,h4,h5⟩:=ih _ _ h1;refine ⟨y::l',h3,by simp [h4],fun j x hx=>?_⟩;cases j with
  | zero=>cases hx; exact ⟨y,rfl,h2⟩
  | succ j=>exact h5 j x hx
theorem O8:∀(f:Nat) (todo sg:List Nat) (k:List Nat→Pg) (r:List Nat),dx Sp H (K8 f todo sg k) v ups r→∃sg' r',dx Sp H (k sg') v ups r':=by
 intro f;induction f with
 | zero=>intro todo sg k r h; exact (dx.aH h).elim
 | succ f ih=>
  intro todo sg k r h;cases todo with
  | nil=>exact ⟨sg,r,h⟩
  | cons o todo=>
   simp only [K8] at h;cases hm:uK o sg with
   | true=>rw [hm] at h; exact ih _ _ _ _ h
   | false=>
    rw [hm] at h;cases h with
    | rd ho h=>exact ih _ _ _ _ h
theorem Rel.sub (hR:Rel cfg cx H D w I O) {sg ids:List Nat} {obs:List bJ} (hnd:j6 sg=true) (hdj:Cj ids sg=true) (hl:obs.length=sg.length) (hobs:∀j,j<sg.length→∃x y,hof obs j=some y∧H (nthN sg j)=some x∧(∀kd z f,y≠.map kd z f)∧∀p,eT w I O D p x→eT w (fun b=>I b∨wM O ids b) (subO O sg) (fun o=>o<sg.length) p y):
  Rel cfg (BK w (fun b=>I b∨wM O ids b) (subO O sg) obs.length) (hof obs) (fun o=>o<obs.length) w (fun b=>I b∨wM O ids b) (subO O sg):=by
 have hsub:∀ {j p},subO O sg j=some p→j<sg.length∧O (nthN sg j)=some p:=fun h=>by
  unfold subO at h;split at h
  ·exact ⟨by assumption,h⟩
  ·cases h
 have hof_none:∀(l:List bJ) (j:Nat),l.length≤j→hof l j=none:=by
  intro l;induction l with
  | nil=>intro j _; rfl
  | cons x l ih=>intro j hj; cases j with
   | zero=>simp at hj
   | succ j=>exact ih j (by simpa using hj)
 exact {
  maps:=fun j kd z f p b bo sz h h' _=>by
   obtain ⟨h1,_⟩:=hsub h'
   obtain ⟨x,y,h3,_,h5,_⟩:=hobs j h1
   rw [h] at h3
   exact absurd (Option.some.inj h3).symm (h5 kd z f)
  dom:=fun j=>by
   unfold subO
   by_cases hj:j<sg.length
   ·obtain ⟨x,y,h1,h2,_,_⟩:=hobs j hj
    obtain ⟨p,hp,_⟩:=hR.live h2
    simp [hj,h1,hp]
   ·rw [if_neg hj,hof_none obs j (by omega)]
    simp
  used:=fun j p h=>by have:=(hsub h).1; omega
  objs:=fun j ob p h h'=>by
   obtain ⟨h1,h2⟩:=hsub h'
   obtain ⟨x,y,h3,h4,_,h5⟩:=hobs j h1
   rw [h] at h3
   cases h3
   rw [hl]
   exact h5 p (hR.objs _ _ p h4 h2)
  inj:=fun j j' p p' b bo sz b' bo' sz' h1 h2 h3 h4 h5=>by
   obtain ⟨q1,q2⟩:=hsub h1
   obtain ⟨q3,q4⟩:=hsub h2
   exact hR.inj _ _ p p' b bo sz b' bo' sz' q2 q4 h3 h4 (fun e=>h5 (zU sg hnd j j' q1 q3 e))
  kG:=fun j p b bo sz h1 h2 h3=>by
   obtain ⟨q1,q2⟩:=hsub h1
   rcases h3 with h3 | ⟨o',p',bo',sz',q3,q4,q5⟩
   ·exact hR.kG _ p b bo sz q2 h2 h3
   ·exact hR.inj _ o' p p' b bo sz b bo' sz' q2 q4 h2 q5 (fun e=>FT ids sg hdj o' q3 (e ▸ lD sg j q1)) rfl
  lt:=fun j p b bo sz h1 h2=>hR.lt _ p b bo sz (hsub h1).2 h2
  tu:=(hR.freeze ids).tu
  size:=Nat.le_refl _
  frame:=fun _ _ _=>rfl
  env:=⟨dX.refl _,fun _ _ h=>h.elim⟩
  new:=fun j p b bo sz h1 h2=>.inr ⟨j,p,bo,sz,h1,h2⟩
  glob:=(hR.freeze ids).glob
  Gv:=fun _ h=>h
  JL:=fun _ h=>.inl h
  Lj:=fun _ _=>.inl rfl
  Dm:=fun _ h=>h }
end
end Go.Ab

namespace Go.Ab
section
variable {P:Program} {cfg:qm} {cx:Ctx} {H:Nat→Option bJ} {D:Nat→Prop} {w:World} {I:Nat→Prop} {O:OM}
variable {nid:Nat} {o:Oper} {a:Act} {ρ:Operand→AV} {v:AV} {ups:iI} {r:List Nat}
theorem Qp {f:FuncId} {vals:Array Value} {next:Act→World→Prop} {Q:Exit→Act→World→Prop} (h:(execOp a.eval o).run P w=.ok (.enter f vals) w)
  (hc:Calls P f vals w fun e w'=>∃x,e=.returned x∧next (a.put o.dst x) w'):o.wp P a w next Q:=by
 unfold Oper.wp;rw [h];exact hc.mono fun e w' ⟨x,he,hn⟩=>by subst he; exact hn
theorem JO {w':World} {I':Nat→Prop} {u:AV} {x:Value} (h:Rep w I O D u x) (hm:K6 u=true):PRep w' I' u x:=by
 cases u<;>first | cases hm | skip
 ·rw [h.iP]; exact .bool _
 ·rw [h.fD]; exact .int _ _
 ·rw [h.uM]; exact .str _
theorem Sv {l:List AV} (h:OP l=true):∀j,j<l.length→K6 (nth l j)=true:=by
 induction l with
 | nil=>intro j hj; cases hj
 | cons u l ih=>
  intro j hj;unfold OP at h;cases hv:K6 u with
  | false=>simp [hv] at h
  | true=>
   simp only [hv] at h;cases j with
   | zero=>exact hv
   | succ j=>exact ih h j (by simpa using hj)
theorem JQ {w':World} {I':Nat→Prop} {u:AV} {x:Value} (h:Rep w I O D u x) (hm:K7 u=true):PRep w' I' u x:=by
 cases u with
 | agg cs=>
  obtain ⟨vs,rfl,hl,hr⟩:=h.rO;exact .agg hl fun j hj=>JO (hr j hj) (Sv hm j hj)
 | _=>exact JO h hm
theorem Sw {l:List AV} (h:OQ l=true):∀j,j<l.length→K7 (nth l j)=true:=by
 induction l with
 | nil=>intro j hj; cases hj
 | cons u l ih=>
  intro j hj;unfold OQ at h;cases hv:K7 u with
  | false=>simp [hv] at h
  | true=>
   simp only [hv] at h;cases j with
   | zero=>exact hv
   | succ j=>exact ih h j (by simpa using hj)
theorem Sy {w':World} {I':Nat→Prop} {u:AV} {x:Value} (h:Rep w I O D u x) (hm:VW u=true):PRep w' I' u x:=by
 cases u with
 | jJ cs=>
  obtain ⟨vs,rfl,hl,hr⟩:=h.zR;exact .jJ hl fun j hj=>JQ (hr j hj) (Sw hm j hj)
 | _=>exact JQ h hm
theorem WC:∀(l:List bJ) (j:Nat),j<l.length→∃x,hof l j=some x:=by
 intro l;induction l with
 | nil=>intro j hj; cases hj
 | cons x l ih=>intro j hj; cases j with
  | zero=>exact ⟨x,rfl⟩
  | succ j=>exact ih j (by simpa using hj)
theorem hof_none:∀(l:List bJ) (j:Nat),l.length≤j→hof l j=none:=by
 intro l;induction l with
 | nil=>intro j _; rfl
 | cons x l ih=>intro j hj; cases j with
  | zero=>simp at hj
  | succ j=>exact ih j (by simpa using hj)
theorem Cz {α:Type}:∀(l m:List (Nat×α)) (k:Nat),look (l++m) k=match look l k with | some x=>some x | none=>look m k:=by
 intro l;induction l with
 | nil=>intro m k; rfl
 | cons p l ih=>
  intro m k;obtain ⟨q,x⟩:=p;simp only [List.cons_append,look];cases Nat.beq q k<;>simp [ih]
theorem O9:∀(l:List Nat) (obs:List bJ) (j:Nat) (x:bJ),j6 l=true→j<l.length→hof obs j=some x→look (vL l obs) (nthN l j)=some (gz x):=by
 intro l;induction l with
 | nil=>intro obs j x _ hj; cases hj
 | cons y l ih=>
  intro obs j x hnd hj hx;cases obs with
  | nil=>cases hx
  | cons ob obs=>
   have hnd':j6 l=true∧y ∉ l:=by
    unfold j6 at hnd;cases hm:uK y l with
    | true=>simp [hm] at hnd
    | false=>simp only [hm] at hnd; exact ⟨hnd,qJ hm⟩
   cases j with
   | zero=>simp [hof] at hx; subst hx; simp [vL,look,nthN]
   | succ j=>
    simp only [vL,look,nthN];have hne:Nat.beq y (nthN l j)=false:=by
     cases hb:Nat.beq y (nthN l j) with
     | false=>rfl
     | true=>exact absurd (Nat.eq_of_beq_eq_true hb ▸ lD l j (by simpa using hj)) hnd'.2
    rw [hne];exact ih obs j x hnd'.1 (by simpa using hj) hx
theorem Na:∀(l:List Nat) (obs:List bJ) (k:Nat),(∀j,j<l.length→j<obs.length→nthN l j≠k)→look (vL l obs) k=none:=by
 intro l;induction l with
 | nil=>intro obs k _; cases obs<;>rfl
 | cons y l ih=>
  intro obs k h;cases obs with
  | nil=>rfl
  | cons ob obs=>
   simp only [vL,look];have hne:Nat.beq y k=false:=by
    cases hb:Nat.beq y k with
    | false=>rfl
    | true=>exact absurd (Nat.eq_of_beq_eq_true hb) (h 0 (by simp) (by simp))
   rw [hne];exact ih obs k (fun j h1 h2=>h (j+1) (by simp; omega) (by simp; omega))
theorem Sz:∀(n i:Nat),(iy n i).length=n:=by
 intro n;induction n with
 | zero=>intro i; rfl
 | succ n ih=>intro i; simp [iy,ih]
theorem SA:∀(n i j:Nat),j<n→nthN (iy n i) j=i+j:=by
 intro n;induction n with
 | zero=>intro i j h; omega
 | succ n ih=>
  intro i j h;cases j with
  | zero=>rfl
  | succ j=>
   show nthN (iy n (i+1)) j=_;rw [ih (i+1) j (by omega)];omega
theorem SB (l m:List Nat) (j:Nat) (h:j<l.length):nthN (l++m) j=nthN l j:=by
 induction l generalizing j with
 | nil=>cases h
 | cons x l ih=>cases j with
  | zero=>rfl
  | succ j=>exact ih j (by simpa using h)
theorem SC (l m:List Nat) (j:Nat) (h:l.length≤j):nthN (l++m) j=nthN m (j - l.length):=by
 induction l generalizing j with
 | nil=>rfl
 | cons x l ih=>cases j with
  | zero=>simp at h
  | succ j=>
   show nthN (l++m) j=_
   rw [ih j (by simpa using h)]
   simp
theorem Nb:∀(l:List Nat),(∀i j,i<l.length→j<l.length→nthN l i=nthN l j→i=j)→j6 l=true:=by
 intro l;induction l with
 | nil=>intro _; rfl
 | cons x l ih=>
  intro h;unfold j6;have hm:uK x l=false:=by
   cases hb:uK x l with
   | false=>rfl
   | true=>
    have key:∀m:List Nat,uK x m=true→∃j,j<m.length∧nthN m j=x:=by
     intro m;induction m with
     | nil=>intro h; cases h
     | cons y m ihm=>
      intro h;unfold uK at h;cases hxy:Nat.beq x y with
      | true=>exact ⟨0,by simp,(Nat.eq_of_beq_eq_true hxy).symm⟩
      | false=>
       rw [hxy] at h;obtain ⟨j,h1,h2⟩:=ihm h;exact ⟨j+1,by simpa using h1,h2⟩
    obtain ⟨j,h1,h2⟩:=key l hb;have:=h 0 (j+1) (by simp) (by simpa using h1) h2.symm;omega
  rw [hm];refine ih fun i j hi hj e=>?_;have:=h (i+1) (j+1) (by simpa using hi) (by simpa using hj) e;omega
theorem GI (sg:List Nat) (l:List AV):(UG sg l).length=l.length:=by
 induction l with
 | nil=>rfl
 | cons v l ih=>simp [UG,ih]
theorem Qq (sg:List Nat):∀(l:List AV) (j:Nat),nth (UG sg l) j=Ck sg (nth l j):=by
 intro l;induction l with
 | nil=>intro j; rfl
 | cons v l ih=>intro j; cases j with
  | zero=>rfl
  | succ j=>exact ih j
theorem N7 (sg:List Nat) (l:List AV):(Qa sg l).length=l.length:=by
 induction l with
 | nil=>rfl
 | cons v l ih=>simp [Qa,ih]
theorem UR (sg:List Nat):∀(l:List AV) (j:Nat),nth (Qa sg l) j=Cm sg (nth l j):=by
 intro l;induction l with
 | nil=>intro j; rfl
 | cons v l ih=>intro j; cases j with
  | zero=>rfl
  | succ j=>exact ih j
theorem UU (sg:List Nat):∀(l:List bJ) (j:Nat),hof (K9 sg l) j=(hof l j).map (M5 sg):=by
 intro l;induction l with
 | nil=>intro j; rfl
 | cons v l ih=>intro j; cases j with
  | zero=>rfl
  | succ j=>exact ih j
theorem Qr {l:List AV} (h:VY l=true):∀j,j<l.length→VX (nth l j)=true:=by
 induction l with
 | nil=>intro j hj; cases hj
 | cons v l ih=>
  intro j hj;unfold VY at h;cases hv:VX v with
  | false=>simp [hv] at h
  | true=>
   simp only [hv] at h;cases j with
   | zero=>exact hv
   | succ j=>exact ih h j (by simpa using hj)
theorem UW {l:List AV} (h:TW l=true):∀j,j<l.length→VZ (nth l j)=true:=by
 induction l with
 | nil=>intro j hj; cases hj
 | cons v l ih=>
  intro j hj;unfold TW at h;cases hv:VZ v with
  | false=>simp [hv] at h
  | true=>
   simp only [hv] at h;cases j with
   | zero=>exact hv
   | succ j=>exact ih h j (by simpa using hj)
theorem UY:∀(l:List Nat) (x k:Nat),yD l x k=none→x ∉ l:=by
 intro l;induction l with
 | nil=>intro x k _ h; cases h
 | cons y l ih=>
  intro x k h hm;unfold yD at h;cases hb:Nat.beq y x with
  | true=>simp [hb] at h
  | false=>
   simp only [hb] at h;rcases List.mem_cons.1 hm with e | e
   ·subst e; simp at hb
   ·exact ih x (k+1) h e
theorem Yq:∀(l:List bJ) (j:Nat) (x:bJ),hof l j=some x→wO l j=gz x:=by
 intro l;induction l with
 | nil=>intro j x h; cases h
 | cons y l ih=>
  intro j x h;cases j with
  | zero=>cases h; rfl
  | succ j=>exact ih j x h
theorem N8 {l:List bJ} (h:TY l=true):∀j x,hof l j=some x→okCO x=true:=by
 induction l with
 | nil=>intro j x hx; cases hx
 | cons v l ih=>
  intro j x hx;unfold TY at h;cases hv:okCO v with
  | false=>simp [hv] at h
  | true=>
   simp only [hv] at h;cases j with
   | zero=>cases hx; exact hv
   | succ j=>exact ih h j x hx
section back
variable {w':World} {I':Nat→Prop} {O' On:OM} {n:Nat} {D2:Nat→Prop} {full:List Nat}
theorem Rep.Ck (hlive:∀j,j<n→D2 (nthN full j)) (hused:∀j p,O' j=some p→j<n) (hon:∀j,j<n→On (nthN full j)=O' j) {u:AV} {x:Value} (hu:VX u=true) (h:Rep w' I' O' (fun k=>k<n) u x):Rep w' I' On D2 (Ab.Ck full u) x:=by
 cases u with
 | ptr j i off=>
  cases hj:O' j with
  | none=>
   have hlt:j<n:=by
    cases h with
    | pure h=>cases h
    | ptr ho=>rw [hj] at ho; cases ho
    | AO _ hd=>exact hd
   have h1:x.oneCell'=true:=by
    cases h with
    | pure h=>cases h
    | ptr ho=>rw [hj] at ho; cases ho
    | AO _ _ h1=>exact h1
   exact .AO (by rw [hon j hlt]; exact hj) (hlive j hlt) h1
  | some p=>
   obtain ⟨b,bo,sz,q1,q2,rfl⟩:=h.l6 hj;exact .ptr (by rw [hon j (hused j p hj)]; exact hj) q1 q2
 | cu j i m f=>
  cases hj:O' j with
  | none=>
   have hlt:j<n:=by
    cases h with
    | pure h=>cases h
    | cu ho=>rw [hj] at ho; cases ho
    | yF _ hd=>exact hd
   have h1:x.oneCell'=true:=by
    cases h with
    | pure h=>cases h
    | cu ho=>rw [hj] at ho; cases ho
    | yF _ _ h1=>exact h1
   exact .yF (by rw [hon j hlt]; exact hj) (hlive j hlt) h1
  | some p=>
   obtain ⟨aa,cap,rfl,q1,q2,q3,q4⟩:=h.kT hj;exact .cu (by rw [hon j (hused j p hj)]; exact hj) q1 q2 q3 q4 (h.Eh hj)
 | fn f cs=>
  obtain ⟨xs,rfl,hl,hr⟩:=h.Cu;exact .pure (.fn hl fun j hj=>(hr j hj).rZ (xU hu j hj))
 | agg cs=>cases hu
 | jJ cs=>cases hu
 | mref=>cases hu
 | _=>exact .pure (h.rZ rfl)
theorem Rep.Cm (hlive:∀j,j<n→D2 (nthN full j)) (hused:∀j p,O' j=some p→j<n) (hon:∀j,j<n→On (nthN full j)=O' j) {u:AV} {x:Value} (hu:VZ u=true) (h:Rep w' I' O' (fun k=>k<n) u x):Rep w' I' On D2 (Ab.Cm full u) x:=by
 cases u with
 | agg cs=>
  obtain ⟨xs,rfl,hl,hr⟩:=h.rO;refine .agg (by rw [GI]; exact hl) fun j hj=>?_;rw [GI] at hj;rw [Qq];exact (hr j hj).Ck hlive hused hon (Qr hu j hj)
 | jJ cs=>cases hu
 | undef=>exact Rep.Ck (u:=.undef) hlive hused hon hu h
 | bool b=>exact Rep.Ck (u:=.bool b) hlive hused hon hu h
 | int k n'=>exact Rep.Ck (u:=.int k n') hlive hused hon hu h
 | str s=>exact Rep.Ck (u:=.str s) hlive hused hon hu h
 | sl es m f g=>exact Rep.Ck (u:=.sl es m f g) hlive hused hon hu h
 | ro cs=>exact Rep.Ck (u:=.ro cs) hlive hused hon hu h
 | ptr o' i off=>exact Rep.Ck (u:=.ptr o' i off) hlive hused hon hu h
 | cu o' i m f=>exact Rep.Ck (u:=.cu o' i m f) hlive hused hon hu h
 | fn f cs=>exact Rep.Ck (u:=.fn f cs) hlive hused hon hu h
 | wN=>exact Rep.Ck (u:=.wN) hlive hused hon hu h
 | mref=>cases hu
theorem Rep.Yb (hlive:∀j,j<n→D2 (nthN full j)) (hused:∀j p,O' j=some p→j<n) (hon:∀j,j<n→On (nthN full j)=O' j) {u:AV} {x:Value} (hu:aao u=true) (h:Rep w' I' O' (fun k=>k<n) u x):Rep w' I' On D2 (Ab.Yb full u) x:=by
 cases u with
 | jJ cs=>
  obtain ⟨xs,rfl,hl,hr⟩:=h.zR;refine .jJ (by rw [N7]; exact hl) fun j hj=>?_;rw [N7] at hj;rw [UR];exact (hr j hj).Cm hlive hused hon (UW hu j hj)
 | agg cs=>exact Rep.Cm (u:=.agg cs) hlive hused hon hu h
 | undef=>exact Rep.Cm (u:=.undef) hlive hused hon hu h
 | bool b=>exact Rep.Cm (u:=.bool b) hlive hused hon hu h
 | int k n'=>exact Rep.Cm (u:=.int k n') hlive hused hon hu h
 | str s=>exact Rep.Cm (u:=.str s) hlive hused hon hu h
 | sl es m f g=>exact Rep.Cm (u:=.sl es m f g) hlive hused hon hu h
 | ro cs=>exact Rep.Cm (u:=.ro cs) hlive hused hon hu h
 | ptr o' i off=>exact Rep.Cm (u:=.ptr o' i off) hlive hused hon hu h
 | cu o' i m f=>exact Rep.Cm (u:=.cu o' i m f) hlive hused hon hu h
 | fn f cs=>exact Rep.Cm (u:=.fn f cs) hlive hused hon hu h
 | wN=>exact Rep.Cm (u:=.wN) hlive hused hon hu h
 | mref=>cases hu
theorem eT.M5 (hlive:∀j,j<n→D2 (nthN full j)) (hused:∀j p,O' j=some p→j<n) (hon:∀j,j<n→On (nthN full j)=O' j) {ob:bJ} {p:Own} (hu:okCO ob=true) (hg:Ci ob=false) (h:eT w' I' O' (fun k=>k<n) p ob):eT w' I' On D2 p (Ab.M5 full ob):=by
 cases ob with
 | box cs=>
  obtain ⟨q1,b,bo,sz,q2,q3,q4,q5⟩:=h;refine ⟨q1,b,bo,sz,q2,q3,by rw [GI]; exact q4,fun j hj=>?_⟩;rw [GI] at hj;rw [Qq];exact (q5 j hj).Ck hlive hused hon (Qr hu j hj)
 | row es m g=>exact h
 | map kd z f=>
  have hu:Ci (.map kd z f)=true:=hu;rw [hg] at hu;cases hu
theorem Yr (full:List Nat) (x:bJ):gz (M5 full x)=(gz x).map (M5 full):=by
 cases x with
 | box=>rfl
 | row=>rfl
 | map kd z f=>
  simp only [M5,gz];cases Ci (.map kd z f)<;>rfl
end back
set_option maxHeartbeats 1000000 in
theorem Qs (hR:Rel cfg cx H D w I O) (hn:Ll D nid) {f:FuncId} {args:List AV} {vals:Array Value} {sg0:List Nat} (hrun:∀fn,P.funcs[f]? = some fn→fn.body.isNone=false→(fn.name == "runtime.NumGoroutine")=false→(execOp a.eval o).run P w=.ok (.enter f vals) w)
  (hvl:vals.size=args.length) (hva:∀j,j<args.length→Rep w I O D (nth args j) (vals.getD j Go.undef)) (h:dx (Spec P cfg) H (KL nid f args sg0) v ups r):dn P cfg cx H D w I O nid o a v ups:=by
 unfold KL at h;obtain ⟨sg,r0,h0⟩:=O8 _ _ _ _ _ h;obtain ⟨hnd,h1⟩:=h0.bg;obtain ⟨obs,r1,h2,hol,hobs⟩:=Qn _ _ _ h1;have hlive:∀j,j<sg.length→∃x,H (nthN sg j)=some x:=fun j hj=>let ⟨x,_,hx⟩:=hobs j hj; ⟨x,hx⟩
 obtain ⟨obsV,h3,hvl2,hinv⟩:=Qo hR hlive obs _ _ h2;obtain ⟨args',ids,r2,h4,hal,hview⟩:=Cy hR hlive args _ _ h3;obtain ⟨hdj,h5⟩:=h4.bg;cases h5 with
 | @call _ _ _ _ res obs' _ _ _ hspec h6=>
 obtain ⟨hpo',h7⟩:=h6.bg;obtain ⟨hlen',h8⟩:=h7.bg;obtain ⟨hpr,h9⟩:=h8.bg;obtain ⟨rfl,rfl⟩:=h9.iQ;have hlen':obs'.length≤sg.length+stride:=Nat.le_of_ble_eq_true hlen';clear h h0 h1 h2 h3 h4 h6 h7 h8 h9;obtain ⟨⟨fn,hf1,hf2,hf3⟩,hle,hcall⟩:=hspec;have hvl3:obsV.length=sg.length:=hvl2.trans hol;have hRs:=hR.sub (ids:=ids) (obs:=obsV) hnd hdj hvl3 (fun j hj=>by
  obtain ⟨x,q1,q2⟩:=hobs j hj;obtain ⟨y,q3,q4⟩:=hinv j x q1;exact ⟨x,y,q3,q2,q4.1,q4.2 _ (fun _ h=>.inl h)⟩)
 have hsgD:∀j,j<sg.length→D (nthN sg j):=fun j hj=>by
  obtain ⟨x,hx⟩:=hlive j hj;obtain ⟨p,hp,_⟩:=hR.live hx;exact hR.used _ p hp
 generalize hnw:obs'.length - sg.length=nw;have hnw2:sg.length+nw=obs'.length:=by omega
 have hnws:nw≤stride:=by omega
 have hnsg:∀k,nid≤k→k<nid+nw→k ∉ sg:=fun k hk1 hk2 hm=>by
  obtain ⟨j,h1,h2⟩:=LD sg k hm;exact hn k hk1 (by omega) (h2 ▸ hsgD j h1)
 have hOn0:∀k,nid≤k→k<nid+nw→O k=none:=fun k hk1 hk2=>by
  cases h:O k with
  | none=>rfl
  | some p=>exact absurd (hR.used k p h) (hn k hk1 (by omega))
 have hfl:(sg++iy nw nid).length=obs'.length:=by rw [List.length_append,Sz]; exact hnw2
 have hf1':∀j,j<sg.length→nthN (sg++iy nw nid) j=nthN sg j:=fun j hj=>SB _ _ _ hj;have hf2':∀j,sg.length≤j→j<obs'.length→nthN (sg++iy nw nid) j=nid+(j - sg.length):=fun j h1 h2=>by
  rw [SC _ _ _ h1,SA _ _ _ (by omega)]
 have hnd2:j6 (sg++iy nw nid)=true:=Nb _ fun i j hi hj e=>by
  rw [hfl] at hi hj;by_cases h1:i<sg.length
  ·by_cases h2:j<sg.length
   ·rw [hf1' i h1,hf1' j h2] at e;exact zU sg hnd i j h1 h2 e
   ·rw [hf1' i h1,hf2' j (by omega) hj] at e;exact absurd (lD sg i h1) (by rw [e]; exact hnsg _ (by omega) (by omega))
  ·by_cases h2:j<sg.length
   ·rw [hf2' i (by omega) hi,hf1' j h2] at e;exact absurd (lD sg j h2) (by rw [← e]; exact hnsg _ (by omega) (by omega))
   ·rw [hf2' i (by omega) hi,hf2' j (by omega) hj] at e;omega
 intro next Q hnx
 refine Qp (hrun fn hf1 hf2 hf3) ((hcall w _ _ vals hRs (by omega) (fun j hj=>by rw [hvl3]; exact hview j (by omega) _ (hva j (by omega)))).mono ?_);rintro e w' ⟨x,I',O',rfl,hR',hres⟩;refine ⟨x,rfl,?_⟩;let On:OM:=fun k=>if nid≤k∧k<nid+nw then O' (sg.length+(k - nid)) else match yD sg k 0 with
  | some j=>O' j
  | none=>if k∈ids then none else O k
 have hMc:∀b,(BK w (fun b=>I b∨wM O ids b) (subO O sg) obsV.length).M b→∃j p bo sz,j<sg.length∧O (nthN sg j)=some p∧p.pl=some (b,bo,sz):=by
  rintro b ⟨j,p,bo,sz,h1,h2⟩;unfold subO at h1;split at h1
  ·exact ⟨j,p,bo,sz,by assumption,h1,h2⟩
  ·cases h1
 have hOsg:∀j,j<sg.length→O' j=O (nthN sg j)∨O' j=none:=fun j hj=>by
  rcases hR'.Lj j (show j<obsV.length by omega) with h | h
  ·left;rw [h];show subO O sg j=_;unfold subO;rw [if_pos hj]
  ·exact .inr h
 have hidx:∀k,k∈sg→∃j,yD sg k 0=some j∧j<sg.length∧nthN sg j=k:=fun k hk=>by
  cases h:yD sg k 0 with
  | none=>exact absurd hk (UY sg k 0 h)
  | some j=>
   obtain ⟨_,h1,h2⟩:=yK sg k 0 j h;exact ⟨j,rfl,by simpa using h1,by simpa using h2⟩
 have hidxn:∀k,k ∉ sg→yD sg k 0=none:=fun k hk=>by
  cases h:yD sg k 0 with
  | none=>rfl
  | some j=>
   obtain ⟨_,h1,h2⟩:=yK sg k 0 j h;exact absurd (h2 ▸ lD sg _ h1) hk
 have hOnsg:∀j,j<sg.length→On (nthN sg j)=O' j:=fun j hj=>by
  have h1:¬ (nid≤nthN sg j∧nthN sg j<nid+nw):=fun h=>hnsg _ h.1 h.2 (lD sg j hj);obtain ⟨j2,h2,h3,h4⟩:=hidx _ (lD sg j hj);have:j2=j:=zU sg hnd j2 j h3 hj h4;subst this;show (if _ then _ else _)=_;rw [if_neg h1,h2]
 have hOnD:∀k,D k→On k=O k∨On k=none:=fun k hk=>by
  have h1:¬ (nid≤k∧k<nid+nw):=fun h=>hn k h.1 (by omega) hk;by_cases hs:k∈sg
  ·obtain ⟨j,_,h3,h4⟩:=hidx k hs;have:=hOnsg j h3;rw [h4] at this;rw [this];rcases hOsg j h3 with h | h
   ·rw [h,h4]; exact .inl rfl
   ·exact .inr h
  ·show (if _ then _ else _)=_∨(if _ then _ else _)=_;rw [if_neg h1,hidxn k hs];by_cases h2:k∈ids<;>simp [h2]
 have hOnold:∀ {k p},¬ (nid≤k∧k<nid+nw)→On k=some p→O k=some p∧k ∉ ids:=fun {k p} h1 h=>by
  by_cases hs:k∈sg
  ·obtain ⟨j,_,h3,h4⟩:=hidx k hs;have h5:=hOnsg j h3;rw [h4,h] at h5;rcases hOsg j h3 with h6 | h6
   ·rw [h6,h4] at h5;exact ⟨h5.symm,fun hm=>FT ids sg hdj _ hm hs⟩
   ·rw [h6] at h5; cases h5
  ·have h':(if nid≤k∧k<nid+nw then O' (sg.length+(k - nid)) else match yD sg k 0 with
    | some j=>O' j
    | none=>if k∈ids then none else O k)=some p:=h
   rw [if_neg h1,hidxn k hs] at h';simp only at h';by_cases h2:k∈ids
   ·simp [h2] at h'
   ·rw [if_neg h2] at h';exact ⟨h',h2⟩
 have hOnnew:∀ {k},(nid≤k∧k<nid+nw)→On k=O' (sg.length+(k - nid)):=fun {k} h=>by
  show (if _ then _ else _)=_;rw [if_pos h]
 have hon:∀j,j<obs'.length→On (nthN (sg++iy nw nid) j)=O' j:=fun j hj=>by
  by_cases h1:j<sg.length
  ·rw [hf1' j h1,hOnsg j h1]
  ·rw [hf2' j (by omega) hj,hOnnew ⟨by omega,by omega⟩];congr 1;omega
 have hD2:∀j,j<obs'.length→vM D nid (nthN (sg++iy nw nid) j):=fun j hj=>by
  by_cases h1:j<sg.length
  ·rw [hf1' j h1]; exact .inl (hsgD j h1)
  ·rw [hf2' j (by omega) hj]; exact .inr ⟨by omega,by omega⟩
 have hus':∀j p,O' j=some p→j<obs'.length:=fun j p h=>hR'.used j p h;have hII':∀b,I b→I' b:=fun b h=>hR'.Gv b (.inl h);have hI':∀b,I' b→(I b∨wM O ids b)∨w.heap.size≤b∨∃j p bo sz,j<sg.length∧O (nthN sg j)=some p∧p.pl=some (b,bo,sz):=fun b h=>by
  rcases hR'.JL b h with h | h | h
  ·exact .inl h
  ·exact .inr (.inl h)
  ·exact .inr (.inr (hMc b h))
 have hfr:∀b,b<w.heap.size→(∀j p bo sz,j<sg.length→O (nthN sg j)=some p→p.pl≠some (b,bo,sz))→w'.heap[b]? = w.heap[b]? := fun b hb hno=>
  hR'.frame b hb (fun hm=>by obtain ⟨j,p,bo,sz,h1,h2,h3⟩:=hMc b hm; exact hno j p bo sz h1 h2 h3)
 have hIfr:∀b,I b→w'.heap[b]? = w.heap[b]? := fun b hb=>hfr b (hR.tu b hb) (fun j p bo sz h1 h2 h3=>hR.kG _ p b bo sz h2 h3 hb);have hownfr:∀k p b bo sz,O k=some p→p.pl=some (b,bo,sz)→k ∉ sg→w'.heap[b]? = w.heap[b]? := fun k p b bo sz h1 h2 h3=>
  hfr b (hR.lt k p b bo sz h1 h2) (fun j p' bo' sz' q1 q2 q3=>hR.inj k (nthN sg j) p p' b bo sz b bo' sz' h1 q2 h2 q3 (fun e=>h3 (e ▸ lD sg j q1)) rfl)
 have hexp:∀j p b bo sz,sg.length≤j→O' j=some p→p.pl=some (b,bo,sz)→w.heap.size≤b∨∃j' p' bo' sz',j'<sg.length∧O' j'=none∧O (nthN sg j')=some p'∧p'.pl=some (b,bo',sz'):=fun j p b bo sz h1 h2 h3=>by
  rcases hR'.new _ p b bo sz h2 h3 with h | h
  ·exact .inl h
  ·obtain ⟨j',p',bo',sz',q1,q2,q3⟩:=hMc b h;rcases hOsg j' q1 with e | e
   ·exact absurd rfl (hR'.inj _ j' p p' b bo sz b bo' sz' h2 (by rw [e]; exact q2) h3 q3 (by omega))
   ·exact .inr ⟨j',p',bo',sz',q1,e,q2,q3⟩
 have hsep:∀j p b bo sz k p' b' bo' sz',sg.length≤j→O' j=some p→p.pl=some (b,bo,sz)→¬ (nid≤k∧k<nid+nw)→On k=some p'→p'.pl=some (b',bo',sz')→b≠b':=fun j p b bo sz k p' b' bo' sz' h1 h2 h3 h4 h5 h6 e=>by
  subst e;obtain ⟨q1,q2⟩:=hOnold h4 h5;rcases hexp j p b bo sz h1 h2 h3 with h | ⟨j',p2,bo2,sz2,e1,e2,e3,e4⟩
  ·have:=hR.lt k p' b bo' sz' q1 h6;omega
  ·by_cases hk:k=nthN sg j'
   ·rw [hk,hOnsg j' e1,e2] at h5; cases h5
   ·exact hR.inj k (nthN sg j') p' p2 b bo' sz' b bo2 sz2 q1 e3 h6 e4 hk rfl
 have hHat:∀j,j<obs'.length→jk H (vL (sg++iy nw nid) (K9 (sg++iy nw nid) obs')++dead ids) (nthN (sg++iy nw nid) j)=(wO obs' j).map (M5 (sg++iy nw nid)):=fun j hj=>by
  obtain ⟨x,hx⟩:=WC obs' j hj;unfold jk;rw [Cz,O9 _ _ j (M5 (sg++iy nw nid) x) hnd2 (by rw [hfl]; exact hj) (by rw [UU,hx]; rfl)];simp only;rw [Yr,Yq obs' j x hx]
 have hHelse:∀k,k ∉ sg→¬ (nid≤k∧k<nid+nw)→jk H (vL (sg++iy nw nid) (K9 (sg++iy nw nid) obs')++dead ids) k=if k∈ids then none else H k:=fun k h1 h2=>by
  have hmiss:look (vL (sg++iy nw nid) (K9 (sg++iy nw nid) obs')) k=none:=Na _ _ _ (fun j q1 q2 e=>by
   rw [hfl] at q1;by_cases hj:j<sg.length
   ·rw [hf1' j hj] at e;exact h1 (e ▸ lD sg j hj)
   ·rw [hf2' j (by omega) q1] at e;exact h2 ⟨by omega,by omega⟩)
  unfold jk;rw [Cz,hmiss,NW];by_cases h3:k∈ids<;>simp [h3]
 have hwhere:∀k,k∈sg∨(nid≤k∧k<nid+nw)→∃j,j<obs'.length∧nthN (sg++iy nw nid) j=k:=fun k h=>by
  rcases h with h | h
  ·obtain ⟨j,h1,h2⟩:=LD sg k h;exact ⟨j,by omega,by rw [hf1' j h1]; exact h2⟩
  ·exact ⟨sg.length+(k - nid),by omega,by rw [hf2' _ (by omega) (by omega)]; omega⟩
 have hRn:Rel cfg cx (jk H (vL (sg++iy nw nid) (K9 (sg++iy nw nid) obs')++dead ids)) (vM D nid) w' I' On:={
  dom:=fun k=>by
   by_cases hk:k∈sg∨(nid≤k∧k<nid+nw)
   ·obtain ⟨j,h1,rfl⟩:=hwhere k hk
    rw [hHat j h1,hon j h1,hR'.dom j]
    cases wO obs' j<;>simp
   ·have h1:k ∉ sg:=fun h=>hk (.inl h)
    have h2:¬ (nid≤k∧k<nid+nw):=fun h=>hk (.inr h)
    rw [hHelse k h1 h2]
    have:On k=if k∈ids then none else O k:=by show (if _ then _ else _)=_; rw [if_neg h2,hidxn k h1]
    rw [this]
    by_cases h3:k∈ids<;>simp [h3,hR.dom k]
  maps:=fun k kd z f p b bo sz h h' hp=>by
   by_cases hk:k∈sg∨(nid≤k∧k<nid+nw)
   ·obtain ⟨j,h1,rfl⟩:=hwhere k hk
    rw [hHat j h1] at h
    cases hx:wO obs' j with
    | none=>rw [hx] at h; cases h
    | some x=>
     rw [hx] at h
     obtain ⟨hx1,hx2⟩:=NR hx
     have:=N8 hpo' j x hx1
     cases x with
     | map=>rw [show okCO _=Ci _ from rfl,hx2] at this; cases this
     | box=>cases h
     | row=>cases h
   ·have h1:k ∉ sg:=fun h=>hk (.inl h)
    have h2:¬ (nid≤k∧k<nid+nw):=fun h=>hk (.inr h)
    obtain ⟨q1,q2⟩:=hOnold h2 h'
    rw [hHelse k h1 h2,if_neg q2] at h
    exact hR.maps k kd z f p b bo sz h q1 hp
  used:=fun k p h=>by
   by_cases hk:nid≤k∧k<nid+nw
   ·exact .inr ⟨hk.1,by omega⟩
   ·exact .inl (hR.used k p (hOnold hk h).1)
  objs:=fun k ob p h h'=>by
   by_cases hk:k∈sg∨(nid≤k∧k<nid+nw)
   ·obtain ⟨j,h1,rfl⟩:=hwhere k hk
    rw [hHat j h1] at h
    cases hx:wO obs' j with
    | none=>rw [hx] at h; cases h
    | some x=>
     rw [hx] at h
     cases h
     rw [hon j h1] at h'
     obtain ⟨hx1,hx2⟩:=NR hx
     exact (hR'.objs j x p hx h').M5 hD2 hus' hon (N8 hpo' j x hx1) hx2
   ·have h1:k ∉ sg:=fun h=>hk (.inl h)
    have h2:¬ (nid≤k∧k<nid+nw):=fun h=>hk (.inr h)
    obtain ⟨q1,q2⟩:=hOnold h2 h'
    rw [hHelse k h1 h2,if_neg q2] at h
    exact (hR.objs k ob p h q1).mono hII' hIfr hOnD (fun _ h=>.inl h) hR.used (fun b bo sz hpl=>hownfr k p b bo sz q1 hpl h1)
  inj:=fun k k' p p' b bo sz b' bo' sz' h1 h2 h3 h4 h5=>by
   by_cases hk:nid≤k∧k<nid+nw
   ·rw [hOnnew hk] at h1
    by_cases hk':nid≤k'∧k'<nid+nw
    ·rw [hOnnew hk'] at h2
     exact hR'.inj _ _ p p' b bo sz b' bo' sz' h1 h2 h3 h4 (by omega)
    ·exact hsep _ p b bo sz k' p' b' bo' sz' (by omega) h1 h3 hk' h2 h4
   ·by_cases hk':nid≤k'∧k'<nid+nw
    ·rw [hOnnew hk'] at h2
     exact (hsep _ p' b' bo' sz' k p b bo sz (by omega) h2 h4 hk h1 h3).symm
    ·exact hR.inj k k' p p' b bo sz b' bo' sz' (hOnold hk h1).1 (hOnold hk' h2).1 h3 h4 h5
  kG:=fun k p b bo sz h1 h2 h3=>by
   by_cases hk:nid≤k∧k<nid+nw
   ·rw [hOnnew hk] at h1
    exact hR'.kG _ p b bo sz h1 h2 h3
   ·obtain ⟨q1,q2⟩:=hOnold hk h1
    by_cases hs:k∈sg
    ·obtain ⟨j,h4,rfl⟩:=LD sg k hs
     exact hR'.kG j p b bo sz (by rw [← hOnsg j h4]; exact h1) h2 h3
    ·rcases hI' b h3 with (h | ⟨k',p',bo',sz',e1,e2,e3⟩) | h | ⟨j,p',bo',sz',e1,e2,e3⟩
     ·exact hR.kG k p b bo sz q1 h2 h
     ·exact hR.inj k k' p p' b bo sz b bo' sz' q1 e2 h2 e3 (fun e=>q2 (e ▸ e1)) rfl
     ·have:=hR.lt k p b bo sz q1 h2; omega
     ·exact hR.inj k _ p p' b bo sz b bo' sz' q1 e2 h2 e3 (fun e=>hs (e ▸ lD sg j e1)) rfl
  lt:=fun k p b bo sz h1 h2=>by
   by_cases hk:nid≤k∧k<nid+nw
   ·rw [hOnnew hk] at h1
    exact hR'.lt _ p b bo sz h1 h2
   ·exact Nat.lt_of_lt_of_le (hR.lt k p b bo sz (hOnold hk h1).1 h2) hR'.size
  tu:=hR'.tu
  size:=Nat.le_trans hR.size hR'.size
  env:=hR.env.step hR'.env.same
  frame:=fun b h1 h2=>by
   rw [hfr b (Nat.lt_of_lt_of_le h1 hR.size) (fun j p bo sz q1 q2 q3=>by
    rcases hR.new _ p b bo sz q2 q3 with h | h
    ·omega
    ·exact h2 h)]
   exact hR.frame b h1 h2
  new:=fun k p b bo sz h1 h2=>by
   by_cases hk:nid≤k∧k<nid+nw
   ·rw [hOnnew hk] at h1
    rcases hexp _ p b bo sz (by omega) h1 h2 with h | ⟨j',p2,bo2,sz2,e1,e2,e3,e4⟩
    ·exact .inl (Nat.le_trans hR.size h)
    ·exact hR.new _ p2 b bo2 sz2 e3 e4
   ·exact hR.new k p b bo sz (hOnold hk h1).1 h2
  glob:=hR'.glob
  Gv:=fun b h=>hII' b (hR.Gv b h)
  JL:=fun b h=>by
   rcases hI' b h with (h | ⟨k',p',bo',sz',e1,e2,e3⟩) | h | ⟨j,p',bo',sz',e1,e2,e3⟩
   ·exact hR.JL b h
   ·exact .inr (hR.new k' p' b bo' sz' e2 e3)
   ·exact .inr (.inl (Nat.le_trans hR.size h))
   ·exact .inr (hR.new _ p' b bo' sz' e2 e3)
  Lj:=fun k h=>by
   rcases hOnD k (hR.Dm k h) with h1 | h1
   ·rw [h1]; exact hR.Lj k h
   ·exact .inr h1
  Dm:=fun k h=>.inl (hR.Dm k h) }
 exact hnx x w' I' On hRn (fun u y hu=>hu.mono hII' hIfr hOnD (fun _ h=>.inl h) hR.used) (hres.Yb hD2 hus' hon hpr)
end
end Go.Ab


namespace Go.Ab
open Go.MapKept
section
variable {P:Program} {cfg:qm} {cx:Ctx} {H:Nat→Option bJ} {D:Nat→Prop} {w:World} {I:Nat→Prop} {O:OM} {Sp:j3}
variable {nid:Nat} {o:Oper} {a:Act} {ρ:Operand→AV} {v:AV} {ups:iI} {r:List Nat}
theorem WE (hc:dY P cfg) (hR:Rel cfg cx H D w I O) {t:TypeId} {x ix:Operand} (ho:o.op=.index t x ix) (hx:Rep w I O D (ρ x) (a.eval x)) (hix:Rep w I O D (ρ ix) (a.eval ix))
  (h:dx Sp H (dO cfg nid (.index t x ix) ρ) v ups r):dn P cfg cx H D w I O nid o a v ups:=by
 simp only [dO] at h;obtain ⟨ti,ht,h1⟩:=h.jN;obtain ⟨_,dd,_,_,hud,_,_,_,_,_,_,_,hm⟩:=(hc.ty t ti ht).ex;split at h1
 ·rename_i b k i e1 e2 e3;rw [e1] at hm;have hm:dd=.string:=hm;subst hm;rw [e2] at hx;rw [e3] at hix;have hxv:=hx.uM;have hixv:=hix.fD;obtain ⟨⟨hn0,hn1⟩,rfl,rfl⟩:=h1.fE;refine dn.bW (x:=.int .u8 (dJ b i.toNat)) hR ?_ (.pure (.int _ _));have hlt:i.toNat<b.size:=by omega
  have hb:b[i.toNat]? = some b[i.toNat]:=by simp [hlt]
  simp [execOp,ho,hxv,hixv,Instr.index,asIntOf,bA hud,hn0,dJ,hb]
 ·exact (dx.aH h1).elim
theorem LG {t:TypeId} {k:FM→FM→Pg} (h:dx Sp H (V4 cfg t k) v ups r):∃ti kt et ki ei,look cfg.ty t=some ti∧ti.desc=.map kt et∧look cfg.ty kt=some ki∧look cfg.ty et=some ei∧ei.agg=false∧dx Sp H (k ki ei) v ups r:=by
 unfold V4 at h;split at h
 ·rename_i ti ht;split at h
  ·rename_i kt et hd;obtain ⟨ki,hk,h1⟩:=h.jN;obtain ⟨ei,he,h2⟩:=h1.jN;obtain ⟨ha,h3⟩:=h2.bg;exact ⟨ti,kt,et,ki,ei,ht,hd,hk,he,by simpa using ha,h3⟩
  ·exact (dx.aH h).elim
 ·exact (dx.aH h).elim
theorem SE (hR:Rel cfg cx H D w I O) (hn:¬ D nid) {t:TypeId} (ho:o.op=.makeMap t none) (h:dx Sp H (dO cfg nid (.makeMap t none) ρ) v ups r):dn P cfg cx H D w I O nid o a v ups:=by
 simp only [dO] at h;obtain ⟨ti,kt,et,ki,ei,ht,hd,hk,he,_,h1⟩:=LG h;obtain ⟨rfl,rfl⟩:=h1.iQ;intro next Q hnx
 have hrun:(execOp a.eval o).run P w=.ok (.value (.map (some w.heap.size))) (w.alloc (.map #[] 0)):=by
  simp [execOp,ho,Instr.makeMap,newObj];rfl
 have hat:(w.alloc (.map #[] 0)).heap[w.heap.size]? = some (.map #[] 0):=by
  show (w.heap.push (.map #[] 0))[w.heap.size]? = _;simp
 refine mW hrun (hnx _ _ I (setO O nid ⟨0,1,some (w.heap.size,0,0)⟩) (hR.Zm hn _ _ _ 0 rfl ?_) (fun u y hu=>hu.push hR _ _ hn) (.mref (p:=⟨0,1,some (w.heap.size,0,0)⟩) (by simp [setO]) rfl));exact ⟨rfl,_,_,_,#[],0,rfl,hat,⟨fun e he=>by simp at he,by simp,fun k n hk=>by cases hk⟩⟩
theorem N9 {u:AV} {k:kN} {x:Value} (h:keyOf u=some k) (hx:Rep w I O D u x):x=Cr k:=by
 unfold keyOf at h;split at h
 ·cases h; exact hx.uM
 ·cases h; exact hx.fD
 ·cases h
theorem Qt (hc:dY P cfg) {kt:TypeId} {ki:FM} (hk:look cfg.ty kt=some ki) {k:kN} (h:zN ki.desc k=true):∃d,P.underlying kt=some d∧∀k',zN ki.desc k'=true→IsKey d (Cr k'):=by
 obtain ⟨_,d,_,_,hu,_,_,_,_,_,_,_,hm⟩:=(hc.ty kt ki hk).ex;refine ⟨d,hu,fun k' h'=>?_⟩;generalize ki.desc=dd at h h' hm;cases dd with
 | str=>
  have hm:d=.string:=hm;subst hm;cases k' with
  | s b=>trivial
  | i n=>cases h'
 | int kk=>
  have hm:d=.int kk:=hm;subst hm;cases k' with
  | s b=>cases h'
  | i n=>cases kk<;>first | (cases h'; done) | rfl
 | _=>cases k<;>cases h
theorem WG {z:List ZK} (hz:OT z=true) (n:Int):PRep w I (aap z n) (J9 z n):=by
 match z,hz with
 | [.bool],_=>exact .bool _
 | [.int k],_=>exact .int _ _
end
end Go.Ab

namespace Go.Ab
open Go.MapKept
section
variable {P:Program} {cfg:qm} {cx:Ctx} {H:Nat→Option bJ} {D:Nat→Prop} {w:World} {I:Nat→Prop} {O:OM} {Sp:j3}
variable {nid:Nat} {o:Oper} {a:Act} {ρ:Operand→AV} {v:AV} {ups:iI} {r:List Nat}
theorem WH {k k':kN} (h:Cr k=Cr k'):k=k':=by
 cases k<;>cases k'<;>cases h<;>rfl
theorem map_find {d:TypeDesc} {kd:TD} {z:List ZK} {f:kN→Option Int} {es:Array MapEntry} (hm:R7 kd z f es) {k:kN} (hkeys:∀k',zN kd k'=true→IsKey d (Cr k')) (hkf:zN kd k=true):
  (Instr.findNow d (Cr k) es.toList 0=some none∧f k=none∧∀e∈es.toList,e.key≠Cr k)∨∃j e n,Instr.findNow d (Cr k) es.toList 0=some (some (j,J9 z n))∧es[j]? = some e∧e.key=Cr k∧f k=some n∧e.val=J9 z n:=by
 rcases findNow_spec (hkeys k hkf) es.toList 0 (fun e he=>by
  obtain ⟨k',n',q1,q2,_⟩:=hm.keys e he;rw [q1];exact hkeys k' q2) with ⟨g1,g2⟩ | ⟨j,e,g1,g2,g3⟩
 ·refine .inl ⟨g1,?_,g2⟩;cases hf:f k with
  | none=>rfl
  | some n=>
   obtain ⟨e,he1,he2⟩:=hm.all k n hf;exact absurd he2 (g2 e he1)
 ·obtain ⟨k',n',q1,q2,q3,q4⟩:=hm.keys e (List.mem_of_getElem? g2);rw [g3] at q1;have:=WH q1;subst this;exact .inr ⟨j,e,n',by rw [g1,q4]; simp,by simpa using g2,g3,q3,q4⟩
theorem Qu {z:List ZK} (hz:OT z=true) {x:Value} (h1:x.cells=#[x]) (hm:Ct (z.getD 0 .other) (x.cells.getD 0 Go.undef)):x=J9 z 0:=by
 rw [h1] at hm;match z,hz with
 | [.bool],_=>exact hm
 | [.int k],_=>exact hm
theorem UZ (hc:dY P cfg) (hR:Rel cfg cx H D w I O) {t:TypeId} {x ix:Operand} (ho:o.op=.lookup t x ix false) (hx:Rep w I O D (ρ x) (a.eval x)) (hix:Rep w I O D (ρ ix) (a.eval ix))
  (h:dx Sp H (dO cfg nid (.lookup t x ix false) ρ) v ups r):dn P cfg cx H D w I O nid o a v ups:=by
 simp only [dO] at h;obtain ⟨ti,kt,et,ki,ei,ht,hd,hk,he,hag,h1⟩:=LG h;split at h1
 ·rename_i ob k e1 e2;rw [e1] at hx;have hkv:=N9 e2 hix;obtain ⟨hkf,h2⟩:=h1.bg;obtain ⟨obj,_,hob,h3⟩:=h2.jM;obtain ⟨p,hp,hO⟩:=hR.live hob;cases obj with
  | box=>exact (dx.aH h3).elim
  | row=>exact (dx.aH h3).elim
  | map kd z f=>
   obtain ⟨c1,h4⟩:=h3.bg;obtain ⟨c2,h5⟩:=h4.bg;obtain ⟨c3,h6⟩:=h5.bg;obtain ⟨rfl,rfl⟩:=h6.cZ;have c1:=of_decide_eq_true c1;have c2:=of_decide_eq_true c2;obtain ⟨hn,b,bo,sz,es,clock,hpl,hw,hm⟩:=hO;obtain ⟨b',bo',sz',hpl',hxv⟩:=hx.Lp hp;rw [hpl] at hpl';cases hpl';obtain ⟨_,dd,_,_,hud,_,_,_,_,_,_,_,hmt⟩:=(hc.ty t ti ht).ex;rw [hd] at hmt;have hmt:dd=.map kt et:=hmt;subst hmt;obtain ⟨d,hudk,hkeys⟩:=Qt hc hk hkf;obtain ⟨ie,_,ze,hie,_,hze,hse,_,_,hzc,hzl,hzm,_⟩:=(hc.ty et ei he).ex;have hz1:=(hc.ty et ei he).one hag ie ze hie hze;refine dn.bW (x:=J9 z (uL f k)) hR ?_ (.pure (WG c3 _));rw [← c1] at hkeys hkf;rcases map_find hm hkeys hkf with ⟨g1,g2,_⟩ | ⟨j,e,n,g1,g2,g3,g4,g5⟩
   ·have hz0:ze=J9 z (uL f k):=by
     have e0:uL f k=0:=by unfold uL; rw [g2]; rfl
     rw [e0];refine Qu c3 hz1 ?_;have hsz:0<ei.size:=by
      have:ze.cells.size=1:=by rw [hz1]; rfl
      omega
     have:=hzm 0 hsz;rwa [← c2] at this
    simp [execOp,ho,hxv,hkv,Instr.lookup,bA hud,MapKept.run_getObj_map hw,run_checkKey hudk (hkeys k hkf),run_findKey hudk g1,zeroValue,typeInfo,hie,hze,hz0]
   ·have e0:uL f k=n:=by unfold uL; rw [g4]; rfl
    simp [execOp,ho,hxv,hkv,Instr.lookup,bA hud,MapKept.run_getObj_map hw,run_checkKey hudk (hkeys k hkf),run_findKey hudk g1,e0]
 ·exact (dx.aH h1).elim
theorem WI {z:List ZK} {u:AV} {n:Int} {x:Value} (h:Zx z u=some n) (hx:Rep w I O D u x):x=J9 z n:=by
 unfold Zx at h;split at h
 ·split at h
  ·rename_i b _;cases h;rw [hx.iP];cases b<;>rfl
  ·cases h
 ·split at h
  ·split at h
   ·rename_i k m k' _ e;cases h;have:=of_decide_eq_true e;subst this;rw [hx.fD];rfl
   ·cases h
  ·cases h
 ·cases h
theorem Oa (f:kN→Option Int) (k:kN) (n:Int):Iq f k n k=some n:=by simp [Iq]
theorem KP (f:kN→Option Int) {k k':kN} (n:Int) (h:k'≠k):Iq f k n k'=f k':=by simp [Iq,h]
theorem Pb (hc:dY P cfg) (hR:Rel cfg cx H D w I O) {t:TypeId} {x ix y:Operand} (ho:o.op=.mapUpdate t x ix y) (hx:Rep w I O D (ρ x) (a.eval x)) (hix:Rep w I O D (ρ ix) (a.eval ix)) (hy:Rep w I O D (ρ y) (a.eval y))
  (h:dx Sp H (dO cfg nid (.mapUpdate t x ix y) ρ) v ups r):dn P cfg cx H D w I O nid o a v ups:=by
 simp only [dO] at h;obtain ⟨ti,kt,et,ki,ei,ht,hd,hk,he,hag,h1⟩:=LG h;split at h1
 ·rename_i ob k n e1 e2 e3;rw [e1] at hx;have hkv:=N9 e2 hix;have hyv:=WI e3 hy;obtain ⟨hkf,h2⟩:=h1.bg;obtain ⟨obj,_,hob,h3⟩:=h2.jM;obtain ⟨p,hp,hO⟩:=hR.live hob;cases obj with
  | box=>exact (dx.aH h3).elim
  | row=>exact (dx.aH h3).elim
  | map kd z f=>
   obtain ⟨c1,h4⟩:=h3.bg;obtain ⟨c2,h5⟩:=h4.bg;obtain ⟨c3,h6⟩:=h5.bg;obtain ⟨rfl,rfl⟩:=h6.iQ;have c1:=of_decide_eq_true c1;have c2:=of_decide_eq_true c2;rw [← c2] at hyv;have hmaps:=fun bb bo sz hpl=>hR.maps ob kd z f p bb bo sz hob hp hpl;obtain ⟨hn,b,bo,sz,es,clock,hpl,hw,hm⟩:=hO;obtain ⟨hb0,hbK⟩:=hmaps b bo sz hpl;obtain ⟨b',bo',sz',hpl',hxv⟩:=hx.Lp hp;rw [hpl] at hpl';cases hpl';obtain ⟨_,dd,_,_,hud,_,_,_,_,_,_,_,hmt⟩:=(hc.ty t ti ht).ex;rw [hd] at hmt;have hmt:dd=.map kt et:=hmt;subst hmt;obtain ⟨d,hudk,hkeys⟩:=Qt hc hk hkf;rw [← c1] at hkeys hkf;obtain ⟨es',clock',hrun,hm'⟩:∃es' clock',(execOp a.eval o).run P w=.ok .skip { w with heap:=w.heap.setIfInBounds b (.map es' clock') }∧R7 kd z (Iq f k n) es':=by
    rcases map_find hm hkeys hkf with ⟨g1,g2,g3⟩ | ⟨j,e,m,g1,g2,g3,g4,g5⟩
    ·refine ⟨es.push { key:=Cr k,val:=J9 z n,born:=clock },clock+1,?_,?_⟩
     ·simp [execOp,ho,hxv,hkv,hyv,Instr.mapUpdate,bA hud,MapKept.run_getObj_map hw,run_checkKey hudk (hkeys k hkf),run_findKey hudk g1,MapKept.run_setObj_map _ hw]
     ·refine ⟨fun e he=>?_,?_,fun k' n' h'=>?_⟩
      ·simp only [Array.toList_push,List.mem_append,List.mem_singleton] at he;rcases he with he | rfl
       ·obtain ⟨k',n',q1,q2,q3,q4⟩:=hm.keys e he;have hne:k'≠k:=fun e'=>g3 e he (by rw [q1,e']);exact ⟨k',n',q1,q2,by rw [KP f n hne]; exact q3,q4⟩
       ·exact ⟨k,n,rfl,hkf,Oa f k n,rfl⟩
      ·simp only [Array.toList_push];refine List.pairwise_append.2 ⟨hm.uniq,by simp,fun x hx y hy=>?_⟩;simp only [List.mem_singleton] at hy;subst hy;exact g3 x hx
      ·simp only [Array.toList_push,List.mem_append,List.mem_singleton];by_cases hkk:k'=k
       ·subst hkk;exact ⟨_,.inr rfl,rfl⟩
       ·rw [KP f n hkk] at h';obtain ⟨e,h1,h2⟩:=hm.all k' n' h';exact ⟨e,.inl h1,h2⟩
    ·have hj:j<es.size:=by
      rcases Nat.lt_or_ge j es.size with h | h
      ·exact h
      ·rw [Array.getElem?_eq_none h] at g2; cases g2
     refine ⟨es.modify j fun e=>{ e with key:=Cr k,val:=J9 z n },clock,?_,?_⟩
     ·simp [execOp,ho,hxv,hkv,hyv,Instr.mapUpdate,bA hud,MapKept.run_getObj_map hw,run_checkKey hudk (hkeys k hkf),run_findKey hudk g1,g2,g3,run_keyThatStays (hkeys k hkf),MapKept.run_setObj_map _ hw]
     ·have hkey:(es.modify j fun e=>{ e with key:=Cr k,val:=J9 z n }).toList.map (·.key)=es.toList.map (·.key):=modify_keys j _ fun e' he'=>by rw [g2] at he'; cases he'; exact g3.symm
      have huniq:∀i e',es[i]? = some e'→e'.key=Cr k→i=j:=by
       intro i e' hi hk';have hpw:=List.pairwise_iff_getElem.1 hm.uniq;obtain ⟨hi1,hi2⟩:=Array.getElem?_eq_some_iff.1 hi;obtain ⟨hj1,hj2⟩:=Array.getElem?_eq_some_iff.1 g2;rcases Nat.lt_trichotomy i j with h | h | h
       ·exact absurd (show es.toList[i].key=es.toList[j].key by rw [Array.getElem_toList,Array.getElem_toList,hi2,hj2,hk',g3]) (hpw i j (by simpa using hi1) (by simpa using hj1) h)
       ·exact h
       ·exact absurd (show es.toList[j].key=es.toList[i].key by rw [Array.getElem_toList,Array.getElem_toList,hi2,hj2,hk',g3]) (hpw j i (by simpa using hj1) (by simpa using hi1) h)
      refine ⟨fun e' he'=>?_,?_,fun k' n' h'=>?_⟩
      ·obtain ⟨i,hi,hie⟩:=List.getElem_of_mem he';have hi2:(es.modify j fun e=>{ e with key:=Cr k,val:=J9 z n })[i]? = some e':=by
        rw [← Array.getElem?_toList,List.getElem?_eq_getElem hi,hie]
       rw [Array.getElem?_modify] at hi2;by_cases hij:j=i
       ·subst hij;rw [if_pos rfl,g2] at hi2;simp only [Option.map_some,Option.some.injEq] at hi2;subst hi2;exact ⟨k,n,rfl,hkf,Oa f k n,rfl⟩
       ·rw [if_neg hij] at hi2;obtain ⟨k',n',q1,q2,q3,q4⟩:=hm.keys e' (Array.mem_toList_iff.2 (Array.mem_of_getElem? hi2));have hne:k'≠k:=fun e''=>hij (huniq i e' hi2 (by rw [q1,e''])).symm;exact ⟨k',n',q1,q2,by rw [KP f n hne]; exact q3,q4⟩
      ·have h1:(es.toList.map (·.key)).Pairwise (· ≠ ·):=List.pairwise_map.2 hm.uniq;rw [← hkey] at h1;exact List.pairwise_map.1 h1
      ·have hmem:Cr k'∈es.toList.map (·.key):=by
        by_cases hkk:k'=k
        ·subst hkk;exact List.mem_map.2 ⟨e,Array.mem_toList_iff.2 (Array.mem_of_getElem? g2),g3⟩
        ·rw [KP f n hkk] at h';obtain ⟨e',h1,h2⟩:=hm.all k' n' h';exact List.mem_map.2 ⟨e',h1,h2⟩
       rw [← hkey] at hmem;obtain ⟨e',h1,h2⟩:=List.mem_map.1 hmem;exact ⟨e',h1,h2⟩
   obtain ⟨hh1,hh2⟩:=MapKept.heap_set (o':=.map es' clock') hw;have hsz:({ w with heap:=w.heap.setIfInBounds b (.map es' clock') }:World).heap.size=w.heap.size:=by simp
   intro next Q hnx
   have henv:yG cx { w with heap:=w.heap.setIfInBounds b (.map es' clock') }:=by
    refine ⟨⟨hR.env.same.os,hR.env.same.tape,hR.env.same.output,fun i ob hi ho=>?_⟩,fun i ob hi=>?_⟩
    ·have hlt:i<cx.w0.heap.size:=by
      rcases Nat.lt_or_ge i cx.w0.heap.size with h | h
      ·exact h
      ·rw [Array.getElem?_eq_none h] at hi; cases hi
     show (w.heap.setIfInBounds b _)[i]? = _;rw [hh2 i (by omega)];exact hR.env.same.keep i ob hi ho
    ·have hne:i≠b:=fun e=>hbK ob (e ▸ hi);refine ⟨?_,(hR.env.kept i ob hi).2⟩;show (w.heap.setIfInBounds b _)[i]? = _;rw [hh2 i hne];exact (hR.env.kept i ob hi).1
   have hR':=hR.Ww henv (.map kd z (Iq f k n)) hp hpl (fun b' hb'=>hh2 b' hb') hsz ⟨hn,b,bo,sz,es',clock',hpl,hh1,hm'⟩ (fun _ _ _ _=>⟨hb0,hbK⟩);have hIb:∀b',I b'→({ w with heap:=w.heap.setIfInBounds b (.map es' clock') }:World).heap[b']? = w.heap[b']? := fun b' h=>hh2 b' (fun e=>hR.kG ob p b bo sz hp hpl (e ▸ h));have hkeep:∀u y,Rep w I O D u y→Rep { w with heap:=w.heap.setIfInBounds b (.map es' clock') } I O D u y:=fun u y hu=>hu.mono (fun _ h=>h) hIb (fun _ _=>.inl rfl) (fun _ h=>h) hR.used;exact GD hrun (hnx Go.undef _ I O (hR'.qc nid) (fun u y hu=>(hkeep u y hu).qc hR' nid) (.pure (.undef _)))
 ·exact (dx.aH h1).elim
end
end Go.Ab

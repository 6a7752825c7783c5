/- A part of the proof. -/
import Derived.Test.YtifekdmmpbcdgaaGreatDoorA0
import Derived.Laws.Append
import Derived.Deep.Upon
import GoSem.Builtin.Clear
import Derived.Laws.BytesString
set_option linter.defProp false
set_option linter.unusedVariables false
set_option linter.unusedSimpArgs false
namespace Go.Ab
section
variable {P:Program} {cfg:qX} {cx:Ctx} {H:Nat->Option cI} {D:Nat->Prop} {w:World} {I:Nat->Prop} {O:OM} {Sp:lk}
variable {cH:Nat} {o:Oper} {a:Act} {ρ:Operand->AV} {v:AV} {ups:ic} {r:ap0}
def ji (O:OM) (n:Nat) (p:Own):OM:=λ o=>if o=n then some p else O o
def Ep {p:Own} (hn:¬ D cH) {ob:Nat} (h:D ob):ji O cH p ob=O ob:=by
 unfold ji;rw[aeV (by intro e;subst e;exact hn h)]
def fZ (ob:Obj) {b:Nat} (h:b<w.heap.size):(w.alloc ob).heap[b]? = w.heap[b]? := by
 show(w.heap.push ob)[b]? = _;rw[Array.getElem?_push,aeV (Nat.ne_of_lt h)]
def heap_alloc_new (ob:Obj):(w.alloc ob).heap[w.heap.size]? = some ob:=by
 show(w.heap.push ob)[w.heap.size]? = _;simp
def jQ (ob:Obj):(w.alloc ob).heap.size=w.heap.size+1:=by
 show(w.heap.push ob).size=_;simp
def ri (c:Array Value) (e:TypeId) (j:Nat):(w.alloc (.cells c e)).cell? ⟨w.heap.size,j,none⟩=c[j]? := by
 unfold World.cell?;rw[heap_alloc_new];rfl
def KV (c:Array Value) (e:TypeId) (j:Nat):(w.alloc (.cells c e)).frozen? ⟨w.heap.size,j,none⟩=false:=by
 unfold World.frozen?;rw[heap_alloc_new];simp
def uZ (c:Array Value) (e:TypeId):CC (w.alloc (.cells c e)) w.heap.size c.size:=by
 intro j hj;rw[ri,KV];simp[ahY hj]
def nH (c:Array Value) (e:TypeId) (h1:∀j,j<c.size->(c.getD j Go.undef).oneCell'=true):qZ (w.alloc (.cells c e)) w.heap.size 0 c.size:=
 ⟨uZ c e,λ j _ hj=>by
  have:cellAt (w.alloc (.cells c e)) w.heap.size j=c.getD j Go.undef:=by
   rw[cellAt,ri];simp
  rw[this];exact h1 j hj⟩
def kH (c:Array Value) (e:TypeId) (j:Nat):cellAt (w.alloc (.cells c e)) w.heap.size j=c.getD j Go.undef:=by
 rw[cellAt,ri];simp
def cQ.push (hR:Rel cfg cx H D w I O) (ob:Obj) (p:Own) (hn:¬ D cH) {v:AV} {x:Value} (h:cQ w I O D v x):cQ (w.alloc ob) I (ji O cH p) (xg D cH) v x:=
 h.mono (λ _ h=>h) (λ b hb=>fZ ob (hR.uX b hb)) (λ _ ho=>.inl (Ep hn ho)) (λ _ h=>.inl h) hR.used
theorem Rel.afg (hR:Rel cfg cx H D w I O) (hn:¬ D cH) (nb:Obj) (ob:cI) (p:Own) (zz:Nat) (hp:p.pl=some (w.heap.size,0,zz))
  (lg:eV (w.alloc nb) I (ji O cH p) (xg D cH) p ob):Rel cfg cx (jJ H [(cH,some ob)]) (xg D cH) (w.alloc nb) I (ji O cH p):=by
 have hH:∀o,jJ H [(cH,some ob)] o=if o=cH then some ob else H o:=by
  intro o;simp only[jJ,look];cases hb:Nat.beq cH o with
  | true=>have:=aeK hb;subst this;simp
  | false=>
   have:o≠cH:=λ e=>by subst e;simp at hb
   simp[this]
 have hOn:O cH=none:=by
  cases h:O cH with
  | none=>rfl
  | some p'=>exact absurd (hR.used cH p' h) hn
 have old:∀ {o p'},o≠cH->ji O cH p o=some p'->O o=some p':=λ hne h=>by unfold ji at h;rwa [aeV hne]at h
 exact {
  dom:=λ o=>by
   rw[hH];unfold ji
   by_cases h:o=cH
   ·simp[h]
   simp[h,hR.dom o]
  used:=λ o p' h=>by
   by_cases hne:o=cH
   ·exact KR hne
   exact .inl (hR.used o p' (old hne h))
  objs:=λ o ob' p' h h'=>by
   by_cases hne:o=cH
   ·subst hne
    rw[hH,afc rfl]at h
    unfold ji at h'
    rw[afc rfl]at h'
    cases h;cases h'
    exact lg
   rw[hH,aeV hne]at h
   have h'':=old hne h'
   exact(hR.objs o ob' p' h h'').mono (λ _ h=>h) (λ b hb=>fZ _ (hR.uX b hb)) (λ _ ho=>.inl (Ep hn ho)) (λ _ h=>.inl h) hR.used
    (λ b bo sz hpl=>fZ _ (hR.lt o p' b bo sz h'' hpl))
  inj:=λ o o' p1 p2 b bo sz b' la sz' h1 h2 h3 h4 h5=>by
   by_cases e1:o=cH
   ·by_cases e2:o'=cH
    ·exact absurd (e1.trans e2.symm) h5
    unfold ji at h1
    rw[afc e1]at h1
    cases h1
    rw[hp]at h3
    cases h3
    have:=hR.lt o' p2 b' la sz' (old e2 h2) h4
    omega
   by_cases e2:o'=cH
   ·unfold ji at h2
    rw[afc e2]at h2
    cases h2
    rw[hp]at h4
    cases h4
    have:=hR.lt o p1 b bo sz (old e1 h1) h3
    omega
   exact hR.inj o o' p1 p2 b bo sz b' la sz' (old e1 h1) (old e2 h2) h3 h4 h5
  lz:=λ o p1 b bo sz h1 h2 h3=>by
   by_cases e1:o=cH
   ·unfold ji at h1
    rw[afc e1]at h1
    cases h1
    rw[hp]at h2
    cases h2
    have:=hR.uX _ h3
    omega
   exact hR.lz o p1 b bo sz (old e1 h1) h2 h3
  lt:=λ o p1 b bo sz h1 h2=>by
   have hs:(w.alloc nb).heap.size=w.heap.size+1:=jQ _
   by_cases e1:o=cH
   ·unfold ji at h1
    rw[afc e1]at h1
    cases h1
    rw[hp]at h2
    cases h2
    omega
   have:=hR.lt o p1 b bo sz (old e1 h1) h2
   omega
  uX:=λ b h=>by
   have:=hR.uX b h
   rw[jQ]
   omega
  size:=by
   have:=hR.size
   rw[jQ]
   omega
  env:=hR.env.step (eK.alloc _ _)
  frame:=λ b h1 h2=>by
   rw[fZ _ (by have:=hR.size;omega)]
   exact hR.frame b h1 h2
  new:=λ o p1 b bo sz h1 h2=>by
   by_cases e1:o=cH
   ·unfold ji at h1
    rw[afc e1]at h1
    cases h1
    rw[hp]at h2
    cases h2
    exact .inl hR.size
   exact hR.new o p1 b bo sz (old e1 h1) h2
  glob:=λ g cs h=>(hR.glob g cs h).mono (λ _ h=>h) (λ b hb=>fZ _ (hR.uX b hb))
  Jf:=hR.Jf
  KQ:=hR.KQ
  NH:=λ o h=>by
   have hne:o≠cH:=λ e=>hn (e ▸ hR.Dm o h)
   unfold ji
   rw[aeV hne]
   exact hR.NH o h
  Dm:=λ o h=>.inl (hR.Dm o h) }
def Rel.push (hR:Rel cfg cx H D w I O) (hn:¬ D cH) (c:Array Value) (e:TypeId) (ob:cI) (p:Own) (hp:p.pl=some (w.heap.size,0,c.size))
  (lg:eV (w.alloc (.cells c e)) I (ji O cH p) (xg D cH) p ob):Rel cfg cx (jJ H [(cH,some ob)]) (xg D cH) (w.alloc (.cells c e)) I (ji O cH p):=
 hR.afg hn _ ob p _ hp lg
def wS (u:Nat×Option cI) (l:ic):jJ H (u::l)=jJ (jJ H l) [u]:=by
 funext o;simp only[jJ,look];cases Nat.beq u.1 o<;>rfl
def dh.KW (hR:Rel cfg cx H D w I O) (hn:¬ D cH) {x:Value} {c:Array Value} {e:TypeId} {ob:cI} {p:Own} (ids:ap0) (hrun:(execOp a.eval o).run P w=.ok (.value x) (w.alloc (.cells c e)))
  (hp:p.pl=some (w.heap.size,0,c.size)) (lg:eV (w.alloc (.cells c e)) (λ b=>I b\/yo O ids b) (ji (kill O ids) cH p) (xg D cH) p ob)
  (hv:∀I' O' D',O' cH=some p->cQ (w.alloc (.cells c e)) I' O' D' v x):dh P cfg cx H D w I O cH o a v ((cH,some ob)::dead ids):=by
 intro next Q hnx
 have Jq:=hR.freeze ids;refine oy hrun (hnx x _ _ _ ?_ ?_ (hv (λ b=>I b\/yo O ids b) (ji (kill O ids) cH p) _ (by simp[ji])))
 ·rw[wS];exact Jq.push hn c e ob p hp lg
 intro u y hu;exact(hu.kill hR ids).push Jq _ p hn
def Ip (t:TypeId) (v:Value):(newVar t v).run P w=.ok ⟨w.heap.size,0,none⟩ (w.alloc (.cells v.cells t)):=by
 simp only[newVar,newRow,newObj,Sem.run_bind,Sem.run,Result.andThen];rfl
def ui (zs:aqa) (c:Array Value) (n:Nat) (hl:zs.length=n) (hz:∀j,j<n->Em (zs.getD j .other) (c.getD j Go.undef)):∀j,j<n->eF w I (nth (uc zs) j) (c.getD j Go.undef):=by
 intro j hj;have key:∀(zs:aqa) (j:Nat),j<zs.length->nth (uc zs) j=ofZ (zs.getD j .other):=by
  intro zs;induction zs with
  | nil=>intro j hj;cases hj
  | cons z l ih=>intro j hj;cases j with
   | zero=>rfl
   | succ j=>simpa[uc,nth]using ih j (by simpa using hj)
 rw[key zs j om];have:=hz j hj;cases hzz:zs.getD j .other<;>rw[hzz]at this<;>simp only[Em]at this<;>simp only[ofZ]<;>first | exact .undef _ | rw[this]
 ·exact .bool _
 ·exact .int _ _
 ·exact .str _
 ·exact .sl 0 0 (λ _ _=>Go.undef) (afM _) (λ _=>rfl) (λ h=>absurd rfl h) (λ i h=>by cases h) (λ i j h=>by cases h) (λ i j h=>by cases h) (λ i j h=>by cases h)
 exact .yp
def oK (zs:aqa) (c:Array Value) (n:Nat) (hz:∀j,j<n->Em (zs.getD j .other) (c.getD j Go.undef)):∀j,j<n->(c.getD j Go.undef).oneCell'=true:=by
 intro j hj;have:=hz j hj;cases hzz:zs.getD j .other<;>rw[hzz]at this<;>simp only[Em]at this<;>first | exact this | (rw[this];rfl)
def fa (zs:aqa):(uc zs).length=zs.length:=by
 induction zs with
 | nil=>rfl
 | cons z l ih=>simp[uc,ih]
def Tq (n:Nat) (z:aqa):(VG n z).length=n*z.length:=by
 induction n with
 | zero=>simp[VG]
 | succ n ih=>simp only[VG,aeU,ih];rw[ah2];omega
def Ts (l m:aqa):uc (l++m)=uc l++uc m:=by
 induction l with
 | nil=>rfl
 | cons z l ih=>simp only[ajQ,uc,ih]
def Yu:∀(n:Nat) (z:aqa) (size:Nat),z.length=size->∀q j,q<n->j<size->nth (uc (VG n z)) (q*size+j)=nth (uc z) j:=by
 intro n;induction n with
 | zero=>intro z size _ q j h;exact absurd h (ag9 _)
 | succ n ih=>
  intro z size hz q j hq hj;simp only[VG];rw[Ts,Xr,fa,hz];cases q with
  | zero=>simp only[akJ,ahq];rw[afc hj]
  | succ q=>
   rw[aeV (by rw[ah2];omega)];have e1:(q+1)*size+j - size=q*size+j:=by rw[ah2];omega
   rw[e1];exact ih z size hz q j om hj
def PZ {ti:Gw} (hz:ZH ti=true) (hl:ti.zero.length=ti.size):(zeroOf ti).cells=uc ti.zero:=by
 unfold ZH at hz;split at hz
 ·unfold zeroOf;cases ha:ti.agg with
  | true=>rfl
  | false=>
   rw[ha]at hz;have:ti.size=1:=aeK hz;rw[this]at hl;match ti.zero,hl with
   | [q],_=>
    show(ofZ q).cells=[ofZ q]
    cases q<;>rfl
 cases hz
def aao (hc:ej P cfg) (hR:Rel cfg cx H D w I O) (hn:¬ D cH) {t:TypeId} (ho:o.op=.alloc t) (h:dg Sp H (dV cfg cH (.alloc t) ρ) v ups r):dh P cfg cx H D w I O cH o a v ups:=by
 simp only[dV]at h;obtain⟨ti,ht,h1⟩:=h.iT;obtain⟨i,d,z,hi,hu,hz,hs,_,_,hzs,hzl,Jr,_⟩:=(hc.ty t ti ht).ex;split at h1
 ·rename_i n et harr;obtain⟨ei,hei,h2⟩:=h1.iT;obtain⟨c1,h3⟩:=h2.bK;obtain⟨c2,h4⟩:=h3.bK;obtain⟨c3,h5⟩:=h4.bK;obtain⟨rfl,rfl⟩:=h5.ik;have c2:0<n:=by
   rcases aj2 n with h0 | h0
   ·subst h0;cases c2
   exact h0
  have c3:=afj c3;have hl:(uc ei.zero).length=ei.size:=by
   rw[fa];exact(hc.ty et ei hei).ex.elim λ _ h=>h.elim λ _ h=>h.elim λ _ h=>h.2.2.2.2.2.2.2.1
  have hcl:(zeroOf ei).cells=uc ei.zero:=PZ c1 (by rw[fa]at hl;exact hl);have hsz:ti.size=n*ei.size:=by
   rw[<- hzl,c3,Tq,<- fa,hl]
  refine dh.KW (p:=⟨ei.size,n,some (w.heap.size,0,z.cells.size)⟩) (c:=z.cells) (e:=t) (x:=.pointer (some ⟨w.heap.size,0,none⟩)) hR hn [] ?_ rfl ?_ ?_
  ·simp[execOp,ho,Instr.alloc,zeroValue,typeInfo,hi,hz,Ip]
  ·refine⟨rfl,rfl,λ _ _=>by rw[hcl];exact hl,.inr ⟨_,_,_,rfl,nH _ _ (λ j hj=>oK _ _ _ Jr _ om),by omega,λ q j hq hj=>?_⟩⟩;rw[ahq,kH];have hqj:q*ei.size+j<ti.size:=by
    have:(q+1)*ei.size<=n*ei.size:=afK _ hq;rw[ah2]at this;omega
   refine⟨?_,oK _ _ _ Jr _ hqj⟩;have:=ui (w:=w.alloc (.cells z.cells t)) (I:=λ b=>I b\/yo O [] b) _ _ ti.size hzl Jr _ hqj;rw[hcl];have e1:nth (uc ti.zero) (q*ei.size+j)=nth (uc ei.zero) j:=by
    rw[c3];exact Yu n _ _ (by rw[<- fa];exact hl) q j hq hj
   rw[<- e1];exact this
  intro I' O' D' hO;have h6:cQ (w.alloc (.cells z.cells t)) I' O' D' (.ptr cH 0 0) _:=.ptr (i:=0) (off:=0) hO rfl c2;have e0:0+(0*ei.size+0)=0:=by simp
  simp only[e0]at h6;exact h6
 obtain⟨rfl,rfl⟩:=h1.ik;refine dh.KW (p:=⟨0,1,some (w.heap.size,0,z.cells.size)⟩) (c:=z.cells) (e:=t) (x:=.pointer (some ⟨w.heap.size,0,none⟩)) hR hn [] ?_ rfl ?_ ?_
 ·simp[execOp,ho,Instr.alloc,zeroValue,typeInfo,hi,hz,Ip]
 ·refine⟨rfl,_,_,_,rfl,uZ _ _,by rw[fa];omega,λ j hj=>?_⟩;rw[ahq,kH];exact .pure (ui _ _ ti.size hzl Jr j (by rw[fa]at hj;omega))
 intro I' O' D' hO;exact .ptr (i:=0) (off:=0) hO rfl (by simp)
def af2 (hR:Rel cfg cx H D w I O) (hn:¬ D cH) {t:TypeId} {x:Operand} (ho:o.op=.box t x) (hx:cQ w I O D (ρ x) (a.eval x)) (h:dg Sp H (dV cfg cH (.box t x) ρ) v ups r):dh P cfg cx H D w I O cH o a v ups:=by
 simp only[dV]at h;obtain⟨hk,h1⟩:=h.wQ;obtain⟨rfl,rfl⟩:=h1.ik;obtain⟨hl,hcs⟩:=hx.cells hk;refine dh.KW (p:=⟨0,1,some (w.heap.size,0,(a.eval x).cells.size)⟩) (c:=(a.eval x).cells) (e:=t) (x:=.pointer (some ⟨w.heap.size,0,none⟩)) hR hn [] ?_ rfl ?_ ?_
 ·simp[execOp,ho,Instr.box,Ip]
 ·refine⟨rfl,_,_,_,rfl,uZ _ _,by omega,λ j hj=>?_⟩;rw[ahq,kH];exact((hcs j hj).1.kill hR []).push (hR.freeze []) _ _ hn
 intro I' O' D' hO;exact .ptr (i:=0) (off:=0) hO rfl (by simp)
end
end Go.Ab
namespace Go.Ab
section
variable {P:Program} {cfg:qX} {cx:Ctx} {H:Nat->Option cI} {D:Nat->Prop} {w:World} {I:Nat->Prop} {O:OM} {Sp:lk}
variable {cH:Nat} {o:Oper} {a:Act} {ρ:Operand->AV} {v:AV} {ups:ic} {r:ap0}
theorem run_places (l:List Field) (h:∀f∈l,(P.info? f.type).isSome=true):∃ps:List (Nat×Nat),ps.length=l.length/\(∀(k:Nat) (f:Field) (i:TypeInfo),l[k]? = some f->P.info? f.type=some i->ps[k]? = some (f.offset,i.size))/\
  (l.mapM (λ f:Field=>do pure (f.offset,<- sizeOf f.type))).run P w=.ok ps w:=by
 induction l with
 | nil=>exact⟨[],rfl,λ k f i h=>by simp at h,by simp⟩
 | cons f l ih=>
  obtain⟨ps,h1,h2,h3⟩:=ih (λ f hf=>h f (ahV _ hf));obtain⟨i,hi⟩:=ai3.1 (h f (by simp));refine⟨(f.offset,i.size)::ps,by simp[h1],λ k f' i' hk hi'=>?_,?_⟩
  ·cases k with
   | zero=>simp at hk;subst hk;rw[hi]at hi';cases hi';simp
   | succ k=>simpa using h2 k f' i' (by simpa using hk) hi'
  rw[List.mapM_cons];simp only[bind_assoc,pure_bind,Sem.run_bind,dG hi,Result.andThen_ok,h3,Sem.run_pure]
def setAt (cells:Array Value) (off:Nat) (vs:Array Value):Array Value:=vs.zipIdx.foldl (λ cs (p:Value×Nat)=>cs.setIfInBounds (off+p.2) p.1) cells
theorem VR (off:Nat):∀(l:List Value) (n:Nat) (cells:Array Value),off+n+l.length<=cells.size->
  ((l.zipIdx n).foldl (λ(cs:Array Value) (p:Value×Nat)=>cs.setIfInBounds (off+p.2) p.1) cells).size=cells.size/\
  ∀k,((l.zipIdx n).foldl (λ(cs:Array Value) (p:Value×Nat)=>cs.setIfInBounds (off+p.2) p.1) cells).getD k Go.undef=
   if off+n<=k/\k<off+n+l.length then l.getD (k - (off+n)) Go.undef else cells.getD k Go.undef:=by
 intro l;induction l with
 | nil=>intro n cells _;exact⟨rfl,λ k=>by simp[show ¬ (off+n<=k/\k<off+n) by omega]⟩
 | cons x l ih=>
  intro n cells hle;simp only[List.zipIdx_cons,anC];obtain⟨h1,h2⟩:=ih (n+1) (cells.setIfInBounds (off+n) x) (by simp at hle ⊢;omega);refine⟨by rw[h1];simp,λ k=>?_⟩;rw[h2 k];by_cases hk:k=off+n
  ·subst hk;have hlt:off+n<cells.size:=by simp at hle;omega
   have e1:¬ (off+(n+1)<=off+n/\off+n<off+(n+1)+l.length):=by omega
   have e2:off+n<=off+n/\off+n<off+n+(x::l).length:=by simp
   rw[aeV e1,afc e2];simp[hlt]
  by_cases hin:off+(n+1)<=k/\k<off+(n+1)+l.length
  ·have e2:off+n<=k/\k<off+n+(x::l).length:=by simp;omega
   rw[afc hin,afc e2];have:k - (off+n)=(k - (off+(n+1)))+1:=by omega
   rw[this];simp
  have e2:¬ (off+n<=k/\k<off+n+(x::l).length):=by simp;omega
  rw[aeV hin,aeV e2];have hne:off+n≠k:=λ e=>hk e.symm;simp[apf hne]
def Od (cells:Array Value) (off:Nat) (vs:Array Value) (h:off+vs.size<=cells.size):(setAt cells off vs).size=cells.size/\
  ∀k,(setAt cells off vs).getD k Go.undef=if off<=k/\k<off+vs.size then vs.getD (k - off) Go.undef else cells.getD k Go.undef:=by
 have e:setAt cells off vs=(vs.toList.zipIdx 0).foldl (λ(cs:Array Value) (p:Value×Nat)=>cs.setIfInBounds (off+p.2) p.1) cells:=by
  unfold setAt;rw[<- Array.foldl_toList];simp
 rw[e];obtain⟨h1,h2⟩:=VR off vs.toList 0 cells (by simpa using h);refine⟨h1,λ k=>?_⟩;rw[h2 k];simp
def uj:∀(new l:ap2) (off:Nat),(Ak off new l).length=l.length:=by
 intro new l;induction l generalizing new with
 | nil=>intro off;cases new<;>cases off<;>simp[Ak]
 | cons x l ih=>
  intro off;cases new with
  | nil=>cases off<;>simp[Ak]
  | cons v new=>cases off<;>simp[Ak,ih]
def Oe:∀(l new:ap2) (off:Nat),off+new.length<=l.length->∀j,nth (Ak off new l) j=if off<=j/\j<off+new.length then nth new (j - off)else nth l j:=by
 intro l;induction l with
 | nil=>
  intro new off h j;have:new=[]:=by cases new<;>simp_all
  subst this;rw[aeV (by simp)];cases off<;>rfl
 | cons x l ih=>
  intro new off h j;cases new with
  | nil=>cases off<;>simp[Ak,show ∀n:Nat,¬ (n<=j/\j<n) by omega]
  | cons v new=>
   cases off with
   | zero=>
    simp only[Ak];cases j with
    | zero=>simp[nth]
    | succ j=>
     simp only[nth];rw[ih new 0 (by simp at h ⊢;omega) j];by_cases hj:j<new.length
     ·rw[afc om,afc (by simp;omega)];simp[nth]
     rw[aeV om,aeV (by simp;omega)]
   | succ off=>
    simp only[Ak];cases j with
    | zero=>simp[nth]
    | succ j=>
     simp only[nth];rw[ih (v::new) off (by simp at h ⊢;omega) j];by_cases hj:off<=j/\j<off+(v::new).length
     ·rw[afc hj,afc om];congr 1;omega
     rw[aeV hj,aeV om]
def Tt (w:World) (I:Nat->Prop) (O:OM) (D:Nat->Prop) (cs:ap2) (cells:Array Value):Prop:=cells.size=cs.length/\∀j,j<cs.length->cQ w I O D (nth cs j) (cells.getD j Go.undef)
def Tt.put {cs new:ap2} {cells vs:Array Value} {off:Nat} (h:Tt w I O D cs cells) (h':Tt w I O D new vs) (hle:off+new.length<=cs.length):Tt w I O D (Ak off new cs) (setAt cells off vs):=by
 obtain⟨h1,h2⟩:=h;obtain⟨h3,h4⟩:=h';obtain⟨s1,s2⟩:=Od cells off vs om;refine⟨by rw[s1,uj,h1],λ j hj=>?_⟩;rw[uj]at hj;rw[Oe _ _ _ hle,s2];by_cases hin:off<=j/\j<off+new.length
 ·rw[afc hin,afc om];exact h4 _ om
 rw[aeV hin,aeV om];exact h2 j hj
def QL (place:Nat->Option (Nat×Nat)) (cells:Array Value) (i:Nat) (v:Value) (rest:List (Nat×Value)) (off size:Nat) (hp:place i=some (off,size)) (hs:v.cells.size=size) (hle:off+v.cells.size<=cells.size):
  Instr.fill place cells ((i,v)::rest)=Instr.fill place (setAt cells off v.cells) rest:=by
 have hs':¬ v.cells.size≠size:=by omega
 have hle':¬ off+v.cells.size > cells.size:=by omega
 simp only[Instr.fill,hp];rw[aeV (by simp;omega)];rfl
theorem Ml {fs:List (Nat×Nat)} {place:Nat->Option (Nat×Nat)} (hpl:∀k off t ti,MM fs k=some (off,t)->look cfg.ty t=some ti->place k=some (off,ti.size)):
  ∀(parts:List (Nat×Operand)) (cs:ap2) (cells:Array Value) (k:ap2->Pg) (r:ap0),(∀p∈parts,cQ w I O D (ρ p.2) (a.eval p.2))->Tt w I O D cs cells->dg Sp H (Td cfg fs (parts.map λ p=>(p.1,ρ p.2)) cs k) v ups r->
   ∃cs' cells' r',dg Sp H (k cs') v ups r'/\Instr.fill place cells (parts.map λ p=>(p.1,a.eval p.2))=some cells'/\Tt w I O D cs' cells':=by
 intro parts;induction parts with
 | nil=>intro cs cells k r _ hrep h;exact⟨cs,cells,r,h,rfl,hrep⟩
 | cons p parts ih=>
  intro cs cells k r hx hrep h;simp only[aiX,Td]at h;cases hf:MM fs p.1 with
  | none=>simp only[hf]at h;exact(dg.ba h).elim
  | some q=>
   obtain⟨off,t⟩:=q;simp only[hf]at h;obtain⟨ti,ht,h1⟩:=h.iT;obtain⟨hk,h2⟩:=h1.wQ;obtain⟨hsz,h3⟩:=h2.bK;obtain⟨hle,h4⟩:=h3.bK;have hsz:(ρ p.2).cells.length=ti.size:=aeK hsz;have hle:off+(ρ p.2).cells.length<=cs.length:=ahk hle;obtain⟨hl,hcs⟩:=(hx p (by simp)).cells hk;have aap:=hrep.put (off:=off) (new:=(ρ p.2).cells) (vs:=(a.eval p.2).cells) ⟨hl,λ j hj=>(hcs j hj).1⟩ hle;obtain⟨cs',cells',r',q1,q2,q3⟩:=ih _ _ k r (λ p hp=>hx p (ahV _ hp)) aap h4;refine⟨cs',cells',r',q1,?_,q3⟩;simp only[aiX];rw[QL place cells p.1 (a.eval p.2) _ off ti.size (hpl _ _ _ _ hf ht) om (by have:=hrep.1;omega)];exact q2
def aaq {et sz:Nat}:∀(n b k:Nat) {off t:Nat},MM (Xl et sz n b) k=some (off,t)->off=(b+k)*sz/\t=et:=by
 intro n;induction n with
 | zero=>intro b k off t h;cases h
 | succ n ih=>
  intro b k off t h;cases k with
  | zero=>cases h;exact⟨rfl,rfl⟩
  | succ k=>
   obtain⟨h1,h2⟩:=ih (b+1) k h;exact⟨by rw[h1];congr 1;omega,h2⟩
def aar (hc:ej P cfg) (hR:Rel cfg cx H D w I O) {t:TypeId} {parts:Array (Nat×Operand)} (ho:o.op=.build t parts) (hx:∀p∈parts.toList,cQ w I O D (ρ p.2) (a.eval p.2))
  (h:dg Sp H (dV cfg cH (.build t parts) ρ) v ups r):dh P cfg cx H D w I O cH o a v ups:=by
 simp only[dV]at h;obtain⟨ti,ht,h1⟩:=h.iT;obtain⟨i,d,z,hi,hu,hz,hs,_,_,hzs,hzl,Jr,hd⟩:=(hc.ty t ti ht).ex;split at h1
 ·rename_i fs e;rw[e]at hd;obtain⟨fields,rfl,hfs⟩:=hd;have hth:=hc.fields t ti _ ht hu;obtain⟨ps,p1,p2,p3⟩:=run_places (P:=P) (w:=w) fields.toList hth;have hpl:∀k off t ti,MM fs k=some (off,t)->look cfg.ty t=some ti->(ps.toArray[·]?) k=some (off,ti.size):=by
   intro k off t' ti' hk ht';have hf:Gx ti k=some (off,t'):=by unfold Gx;rw[e];exact hk
   obtain⟨fields',fd,q1,q2,q3,q4⟩:=hc.field ht hf;rw[hu]at q1;cases q1;obtain⟨i',_,_,q5,_,_,q6,_⟩:=(hc.ty t' ti' ht').ex;have:=p2 k fd i' (by simpa using q2) (by rw[q4];exact q5);simpa[q3,q6]using this
  have hrep:Tt w I O D (uc ti.zero) z.cells:=⟨by rw[fa];omega,λ j hj=>.pure (ui _ _ ti.size hzl Jr j (by rw[fa]at hj;omega))⟩;obtain⟨cs',cells',r',q1,q2,q3⟩:=Ml hpl parts.toList _ _ _ _ hx hrep h1;obtain⟨rfl,rfl⟩:=q1.dp;refine dh.cT (x:=.agg cells') hR ?_ (.agg q3.1 q3.2);have hm:(fields.mapM (λ f:Field=>do pure (f.offset,<- sizeOf f.type))).run P w=.ok ps.toArray w:=by
   have e0:fields=fields.toList.toArray:=by simp
   rw[e0,List.mapM_toArray,map_eq_pure_bind,Sem.run_bind,p3];rfl
  have e1:(parts.map λ(p:Nat×Operand)=>(p.1,a.eval p.2)).toList=parts.toList.map λ p=>(p.1,a.eval p.2):=by simp
  simp only[execOp,ho,Instr.build,Sem.run_bind,zeroValue,typeInfo,program,Sem.run,hi,hz,Sem.run_pure,Result.andThen_ok,bG hu,hm,e1,q2]
 ·rename_i n et e;rw[e]at hd;have hd:d=.array n et:=hd;subst hd;obtain⟨ei,he,h2⟩:=h1.iT;obtain⟨ie,de,hie,aiq,hde,adE⟩:=hc.agg he;have hpl:∀k off t ti,MM (Xl et ei.size n 0) k=some (off,t)->look cfg.ty t=some ti->(λ i=>some (i*ei.size,ei.size):Nat->Option (Nat×Nat)) k=some (off,ti.size):=by
   intro k off t' ti' hk ht';obtain⟨rfl,rfl⟩:=aaq n 0 k hk;rw[he]at ht';cases ht';simp
  have hrep:Tt w I O D (uc ti.zero) z.cells:=⟨by rw[fa];omega,λ j hj=>.pure (ui _ _ ti.size hzl Jr j (by rw[fa]at hj;omega))⟩;obtain⟨cs',cells',r',q1,q2,q3⟩:=Ml hpl parts.toList _ _ _ _ hx hrep h2;obtain⟨rfl,rfl⟩:=q1.dp;refine dh.cT (x:=.agg cells') hR ?_ (.agg q3.1 q3.2);have e1:(parts.map λ(p:Nat×Operand)=>(p.1,a.eval p.2)).toList=parts.toList.map λ p=>(p.1,a.eval p.2):=by simp
  have e2:=dG (w:=w) hie;rw[adE]at e2;simp only[execOp,ho,Instr.build,Sem.run_bind,zeroValue,typeInfo,program,Sem.run,hi,hz,Sem.run_pure,Result.andThen_ok,bG hu,e2,e1,q2]
 exact(dg.ba h1).elim
end
end Go.Ab
namespace Go.Ab
section
variable {P:Program} {cfg:qX} {cx:Ctx} {H:Nat->Option cI} {D:Nat->Prop} {w:World} {I:Nat->Prop} {O:OM} {Sp:lk}
variable {cH:Nat} {o:Oper} {a:Act} {ρ:Operand->AV} {v:AV} {ups:ic} {r:ap0}
def Ao {ti:Gw} (h:ZH ti=true):0<ti.size/\(ti.agg=false->ti.size=1):=by
 unfold ZH at h;cases h0:Nat.blt 0 ti.size with
 | false=>simp[h0]at h
 | true=>
  simp only[h0]at h;refine⟨by simpa using h0,λ ha=>?_⟩;simp only[ha]at h;exact aeK h
def Yv (z:ZK):(ofZ z).cells=[ofZ z]:=by cases z<;>rfl
def vU {ti:Gw} (hz:ZH ti=true) (hl:ti.zero.length=ti.size):(zeroOf ti).cells=uc ti.zero:=by
 obtain⟨h0,h1⟩:=Ao hz;unfold zeroOf;cases ha:ti.agg with
 | true=>rfl
 | false=>
  have:=h1 ha;match hzz:ti.zero,hl with
  | [z],_=>simp only[uc,nth];exact Yv z
  | [],hl=>simp at hl;omega
  | _::_::_,hl=>simp at hl;omega
def oL (z:Array Value) (len i j size:Nat) (hs:z.size=size) (hi:i<len) (hj:j<size):((Array.range (len*size)).map (λ k=>z[k % z.size]!)).getD (i*size+j) Go.undef=z.getD j Go.undef:=by
 have hlt:i*size+j<len*size:=by
  have:(i+1)*size<=len*size:=afK _ hi;rw[ah2]at this;omega
 have hm:(i*size+j) % size=j:=by
  rw[akN,aph];exact ao5 hj
 have hjz:j<z.size:=by omega
 simp[hlt,hs,hm,getElem!_pos z j hjz,ahY hjz]
variable {size:Nat}
def tL {z:Array Value} {n:Nat} (hs:z.size=size) (h1:∀j,j<size->(z.getD j Go.undef).oneCell'=true):∀j,j<(Builtin.zeroCells z n).size->((Builtin.zeroCells z n).getD j Go.undef).oneCell'=true:=λ j hj=>by
 have hlt:j<n*size:=by
  unfold Builtin.zeroCells at hj;simp at hj;rwa [hs]at hj
 rcases aj2 size with h0 | h0
 ·rw[h0,Nat.mul_zero]at hlt;exact absurd hlt (ag9 _)
 have q1:j / size<n:=aoz (by rw[akN];exact hlt);have q2:j % size<size:=anZ _ h0;have e:=oL z n (j / size) (j % size) size hs q1 q2;rw[amb]at e;unfold Builtin.zeroCells;rw[hs];rw[hs]at e;rw[e];exact h1 _ q2
def BN (w:World) (I:Nat->Prop) (size len:Nat) (g:Nat->AV) (cells:Array Value):Prop:=cells.size=len*size/\∀i,i<len->(g i).cells.length=size/\∀j,j<size->eF w I (nth (g i).cells j) (cells.getD (i*size+j) Go.undef)/\(cells.getD (i*size+j) Go.undef).oneCell'=true
def BN.obj {len:Nat} {g:Nat->AV} {cells:Array Value} {e:TypeId} {O':OM} {D':Nat->Prop} {p:Own} (hI:∀b,I b->b<w.heap.size) (h:BN w I size len g cells) (hp:p=⟨size,len,some (w.heap.size,0,cells.size)⟩):
  eV (w.alloc (.cells cells e)) I O' D' p (.row size len g):=by
 subst hp;obtain⟨h1,h2⟩:=h;have hone:∀j,j<cells.size->(cells.getD j Go.undef).oneCell'=true:=λ j hj=>by
  rcases aj2 size with h0 | h0
  ·rw[h1,h0,Nat.mul_zero]at hj;exact absurd hj (ag9 _)
  have q1:j / size<len:=aoz (by rw[akN,<- h1];exact hj);have:=((h2 _ q1).2 (j % size) (anZ _ h0)).2;rwa [amb]at this
 refine⟨rfl,rfl,λ i hi=>(h2 i hi).1,.inr ⟨_,_,_,rfl,nH _ _ hone,by omega,λ i j hi hj=>?_⟩⟩;rw[ahq,kH];exact⟨((h2 i hi).2 j hj).1.mono (λ _ h=>h) (λ b hb=>fZ _ (hI b hb)),((h2 i hi).2 j hj).2⟩
def aas (n i:Nat) (z:AV) (h:i<n):nth (Yk n z) i=z:=by
 induction n generalizing i with
 | zero=>cases h
 | succ n ih=>cases i with
  | zero=>rfl
  | succ i=>exact ih i om
def Tu (n:Nat) (z:AV):(Yk n z).length=n:=by
 induction n with
 | zero=>rfl
 | succ n ih=>simp[Yk,ih]
def P0 (l:ap2) (i:Nat) (v:AV):(zD i v l).length=l.length:=by
 induction l generalizing i with
 | nil=>simp[zD]
 | cons x l ih=>cases i<;>simp[zD,ih]
def VT (l:ap2) (i:Nat) (v:AV) (h:i<l.length) (k:Nat):nth (zD i v l) k=if k=i then v else nth l k:=by
 induction l generalizing i k with
 | nil=>cases h
 | cons x l ih=>
  cases i with
  | zero=>cases k<;>simp[zD,nth]
  | succ i=>cases k with
   | zero=>simp[zD,nth]
   | succ k=>simp[zD,nth,ih i (by simpa using h) k]
def yE {u:AV} {x:Value} (h:cQ w I (λ _=>none) (λ _=>False) u x):eF w I u x:=by
 induction h with
 | pure h=>exact h
 | ptr ho=>cases ho
 | bV ho=>cases ho
 | mref ho=>cases ho
 | ue _ hd=>exact hd.elim
 | uh _ hd=>exact hd.elim
 | qY _ hd=>exact hd.elim
 | agg hl _ ih=>exact .agg hl ih
 | fn hl _ ih=>exact .fn hl ih
 | fP hl _ ih=>exact .fP hl ih
theorem Tv {size len:Nat} {agg:Bool}:∀(ps:List (Nat×AV)) (vals:List (Nat×Value)) (es:ap2) (cells:Array Value) (k:ap2->Pg) (r:ap0),vals.map (·.1)=ps.map (·.1)->
  (∀(j:Nat) (u:Nat×AV) (x:Nat×Value),ps[j]? = some u->vals[j]? = some x->eF w I u.2 x.2)->es.length=len->BN w I size len (nth es) cells->dg Sp H (Xd size agg ps es k) v ups r->
   ∃es' cells' r',dg Sp H (k es') v ups r'/\Instr.fill (λ i=>some (i*size,size)) cells vals=some cells'/\BN w I size len (nth es') cells':=by
 intro ps;induction ps with
 | nil=>
  intro vals es cells k r hv _ _ hrep h;have:vals=[]:=by simpa using hv
  subst this;exact⟨es,cells,r,h,rfl,hrep⟩
 | cons p ps ih=>
  intro vals es cells k r hv hx hl hrep h;cases vals with
  | nil=>simp at hv
  | cons x vals=>
   simp only[aiX,apj]at hv;obtain⟨i,u⟩:=p;obtain⟨i',xv⟩:=x;simp only at hv;obtain⟨rfl,hv⟩:=hv;simp only[Xd]at h;obtain⟨_,h1⟩:=h.bK;obtain⟨hk,h2⟩:=h1.wQ;obtain⟨hsz,h3⟩:=h2.bK;obtain⟨hlt,h4⟩:=h3.bK;have hsz:u.cells.length=size:=aeK hsz;have hlt:i'<es.length:=by simpa using hlt
   have hu:eF w I u xv:=hx 0 (i',u) (i',xv) rfl rfl;have hur:cQ w I (λ _=>none) (λ _=>False) u xv:=.pure hu;obtain⟨hcl,hcs⟩:=hur.cells hk;obtain⟨r1,r2⟩:=hrep;have hmul:(i'+1)*size<=len*size:=afK _ om;rw[ah2]at hmul;obtain⟨s1,s2⟩:=Od cells (i'*size) xv.cells om;have aap:BN w I size len (nth (zD i' u es)) (setAt cells (i'*size) xv.cells):=by
    refine⟨by omega,λ j hj=>?_⟩;rw[VT es i' u hlt];by_cases hji:j=i'
    ·subst hji;rw[afc rfl];refine⟨hsz,λ q hq=>?_⟩;rw[s2,afc om,Nat.add_sub_cancel_left];exact⟨yE (hcs q om).1,(hcs q om).2⟩
    rw[aeV hji];refine⟨(r2 j hj).1,λ q hq=>?_⟩;have hne:¬ (i'*size<=j*size+q/\j*size+q<i'*size+xv.cells.size):=by
     rcases aol hji with hlt' | hgt
     ·have:(j+1)*size<=i'*size:=afK _ om;rw[ah2]at this;omega
     have:(i'+1)*size<=j*size:=afK _ om;rw[ah2]at this;omega
    rw[s2,aeV hne];exact(r2 j hj).2 q hq
   obtain⟨es',cells',r',q1,q2,q3⟩:=ih vals _ _ k r hv (λ j u x hj hj'=>hx (j+1) u x (by simpa using hj) (by simpa using hj')) (by rw[P0];exact hl) aap h4;refine⟨es',cells',r',q1,?_,q3⟩;rw[QL _ cells i' xv vals (i'*size) size rfl om om];exact q2
theorem Of (hR:Rel cfg cx H D w I O):∀(parts:List (Nat×Operand)) (k:List (Nat×AV)->ap0->Pg) (r:ap0),(∀p∈parts,cQ w I O D (ρ p.2) (a.eval p.2))->dg Sp H (Jl (parts.map λ p=>(p.1,ρ p.2)) k) v ups r->
  ∃ps ids r',dg Sp H (k ps ids) v ups r'/\(parts.map λ p=>(p.1,a.eval p.2)).map (·.1)=ps.map (·.1)/\
   ∀(j:Nat) (u:Nat×AV) (x:Nat×Value),ps[j]? = some u->(parts.map λ p=>(p.1,a.eval p.2))[j]? = some x->eF w (λ b=>I b\/yo O ids b) u.2 x.2:=by
 intro parts;induction parts with
 | nil=>intro k r _ h;exact⟨[],[],r,h,rfl,λ j u x hu=>by simp at hu⟩
 | cons p parts ih=>
  intro k r hx h;simp only[aiX,Jl]at h;obtain⟨u,i1,r1,h1,h2⟩:=(An hR fuel).1 _ _ _ _ _ h;obtain⟨ps,i2,r2,h3,h4,h5⟩:=ih _ _ (λ p hp=>hx p (ahV _ hp)) h1;refine⟨(p.1,u)::ps,i1++i2,r2,h3,by simpa using h4,λ j u' x' hu' hx'=>?_⟩;cases j with
  | zero=>
   simp at hu' hx';subst hu';subst hx';exact(h2 _ (hx p (by simp))).mono (λ b h=>h.elim .inl λ h=>.inr h.VP) (λ _ _=>rfl)
  | succ j=>
   exact(h5 j u' x' (by simpa using hu') (by simpa using hx')).mono (λ b h=>h.elim .inl λ h=>.inr h.VQ) (λ _ _=>rfl)
def P1 (hc:ej P cfg) (hR:Rel cfg cx H D w I O) (hn:¬ D cH) {t:TypeId} {len:Nat} {parts:Array (Nat×Operand)} (ho:o.op=.buildSlice t len parts) (hx:∀p∈parts.toList,cQ w I O D (ρ p.2) (a.eval p.2))
  (h:dg Sp H (dV cfg cH (.buildSlice t len parts) ρ) v ups r):dh P cfg cx H D w I O cH o a v ups:=by
 simp only[dV]at h;obtain⟨tt,e,ti,h1,h2,h3,h4⟩:=h.lZ;obtain⟨hz,h5⟩:=h4.bK;obtain⟨hle,h6⟩:=h5.bK;have hle:len*ti.size<=4096:=ahk hle;obtain⟨z0,z1⟩:=Ao hz;obtain⟨hu,i,z,hi,hiz,hs,hby,hzs⟩:=hc.slice h1 h2 h3;obtain⟨i',_,z',hi',_,Er,_,_,_,_,hzl,Jr,_⟩:=(hc.ty e ti h3).ex;rw[hi]at hi';cases hi';rw[hiz]at Er;cases Er;obtain⟨ps,ids,r1,h7,h8,h9⟩:=Of hR parts.toList _ _ hx h6;have hzero:BN w (λ b=>I b\/yo O ids b) ti.size len (nth (Yk len (zeroOf ti))) ((Array.range (len*ti.size)).map (λ k=>z.cells[k % z.cells.size]!)):=by
  refine⟨by simp,λ j hj=>?_⟩;rw[aas _ _ _ hj,vU hz hzl];refine⟨by rw[fa];exact hzl,λ q hq=>?_⟩;rw[oL z.cells len j q ti.size hzs hj hq];exact⟨ui _ _ ti.size hzl Jr q hq,oK _ _ ti.size Jr q hq⟩
 obtain⟨es',cells',r2,q1,q2,q3⟩:=Tv ps _ _ _ _ _ h8 h9 (Tu _ _) hzero h7;obtain⟨rfl,rfl⟩:=q1.ik;refine dh.KW (p:=⟨ti.size,len,some (w.heap.size,0,cells'.size)⟩) (c:=cells') (e:=e) (x:=.slice (some ⟨w.heap.size,0,none⟩) len len) hR hn ids ?_ rfl (BN.obj (hR.freeze ids).uX q3 rfl) ?_
 ·have e1:(parts.map λ(p:Nat×Operand)=>(p.1,a.eval p.2)).toList=parts.toList.map λ p=>(p.1,a.eval p.2):=by simp
  have hno:¬ len*ti.size > 2 ^ 24:=by omega
  by_cases h0:len*ti.size=0
  ·have hcell:cells'=#[]:=by
    have:=q3.1;rw[h0]at this;exact ajD this
   have hf:Instr.fill (λ i=>some (i*ti.size,ti.size)) ((Array.range (len*ti.size)).map (λ k=>(#[]:Array Value)[k % (#[]:Array Value).size]!)) (parts.toList.map λ p=>(p.1,a.eval p.2))=some cells':=by
    have e0:∀f:Nat->Value,(Array.range (len*ti.size)).map f=#[]:=λ f=>ajD (by simp[h0]);rw[e0]at q2 ⊢;exact q2
   simp only[execOp,ho,Instr.buildSlice,Sem.run_bind,bG hu,dG hi,hs,aeV hno,afc h0,Sem.run_pure,e1,hf,newRow,newObj,Sem.run,Result.andThen];rfl
  simp only[execOp,ho,Instr.buildSlice,Sem.run_bind,bG hu,dG hi,hs,aeV hno,aeV h0,zeroValue,typeInfo,program,Sem.run,hi,hiz,Sem.run_pure,e1,q2,newRow,newObj,Result.andThen];rfl
 intro I' O' D' hO;refine .bV hO (by simp) (afM _) (λ _=>rfl) (λ _=>⟨_,_,_,rfl,by simp,?_⟩) (by simp);have:=q3.1;simp[this]
def Xt {m b:Nat} (h:m*b<=140737488355328):¬ ((b:Int)*(m:Int) > 2 ^ 48):=by
 have e:(2:Int) ^ 48=((281474976710656:Nat):Int):=by decide
 rw[e,<- anF,akN];omega
theorem RB (hc:ej P cfg) (hR:Rel cfg cx H D w I O) (hn:¬ D cH) {t:TypeId} {l c:Operand} (ho:o.op=.makeSlice t l c) (hx:cQ w I O D (ρ l) (a.eval l)) (hxc:cQ w I O D (ρ c) (a.eval c))
  (h:dg Sp H (dV cfg cH (.makeSlice t l c) ρ) v ups r):dh P cfg cx H D w I O cH o a v ups:=by
 simp only[dV]at h;obtain⟨tt,e,ti,h1,h2,h3,h4⟩:=h.lZ;split at h4
 ·rename_i k n en;rw[en]at hx;have hlv:=hx.eP;cases hsame:yC (some l) (some c)with
  | false=>
   simp only[hsame]at h4;split at h4
   ·rename_i k2 nc enc;rw[enc]at hxc;have hcv:=hxc.eP;obtain⟨hb0,h6⟩:=h4.bK;obtain⟨hz,h7⟩:=h6.bK;obtain⟨⟨akh,hn0,hbig⟩,h8⟩:=h7.rf;obtain⟨rfl,rfl⟩:=h8.ik;subst akh;have hb0:0<ti.bytes:=by simpa using hb0
    obtain⟨z0,z1⟩:=Ao hz;obtain⟨hu,i,z,hi,hiz,hs,hby,hzs⟩:=hc.slice h1 h2 h3;obtain⟨i',_,z',hi',_,Er,_,_,_,_,hzl,Jr,_⟩:=(hc.ty e ti h3).ex;rw[hi]at hi';cases hi';rw[hiz]at Er;cases Er;obtain⟨m,rfl⟩:=ahD hn0;have hbig':m*ti.bytes<=140737488355328:=by
     have:((m*ti.bytes:Nat):Int)<=((140737488355328:Nat):Int):=by simpa[big]using hbig
     exact_mod_cast this
    have aki:m<=140737488355328:=af3 (ajS _ hb0) hbig';have hw:IntKind.i64.wrap (m:Int)=m:=wrap_i64 ⟨by omega,by omega⟩;have hw0:IntKind.i64.wrap (0:Int)=0:=wrap_i64 ⟨by omega,by omega⟩;refine dh.KW (p:=⟨ti.size,0,some (w.heap.size,0,((Array.range (m*ti.size)).map (λ k=>z.cells[k % z.cells.size]!)).size)⟩) (c:=(Array.range (m*ti.size)).map (λ k=>z.cells[k % z.cells.size]!)) (e:=e) (x:=.slice (some ⟨w.heap.size,0,none⟩) 0 m) hR hn [] ?_ rfl ⟨rfl,rfl,λ _ h=>absurd h (ag9 _),.inr ⟨_,_,_,rfl,nH _ _ (by have:=tL (n:=m) hzs (oK _ _ ti.size Jr);unfold Builtin.zeroCells at this;rw[hzs]at this ⊢;exact this),by omega,λ _ _ h=>absurd h (ag9 _)⟩⟩ ?_
    ·have hge:¬ ((m:Int)<0):=by omega
     have hb2:¬ ((ti.bytes:Int)*(m:Int) > 2 ^ 48):=Xt hbig';have hroom:(askRoom (m*ti.bytes)).run P w=.ok () w:=by
      unfold askRoom;by_cases h:m*ti.bytes > roomBytes
      ·rw[afc h];rfl
      rw[aeV h];rfl
     have hcond:(decide ((m:Int)<0)||decide ((ti.bytes:Int)*(m:Int) > 2 ^ 48)||decide ((0:Int)<0)||decide ((0:Int) > (m:Int)))=false:=by
      rw[afe hge,afe hb2];first | rfl | simp
     clear h1 h2 h3 h4 h6 h7 h8 Jr hR hc hbig;by_cases h0:m*ti.size=0
     ·have e0:∀f:Nat->Value,(Array.range (m*ti.size)).map f=#[]:=λ f=>ajD (by simp[h0]);simp only[execOp,ho,hlv,hcv,Instr.makeSlice,Sem.run_bind,bG hu,Result.andThen,asInt,asIntOf,Sem.run_pure,typeInfo,program,Sem.run,hi,hw,hw0,hby,ahO,hcond,anp,apx,hroom,dG hi,hs,afc h0,e0,newRow,newObj];rfl
     simp only[execOp,ho,hlv,hcv,Instr.makeSlice,Sem.run_bind,bG hu,Result.andThen,asInt,asIntOf,Sem.run_pure,typeInfo,program,Sem.run,hi,hw,hw0,hby,ahO,hcond,anp,apx,hroom,dG hi,hs,aeV h0,zeroValue,hiz,newRow,newObj];rfl
    intro I' O' D' hO;refine .bV hO (by simp) (ahU _) (λ h=>by cases h) (λ _=>⟨_,_,_,rfl,by simp,?_⟩) (by simp);simp
   exact(dg.ba h4).elim
  | true=>
  simp only[hsame]at h4;obtain⟨hb0,h6⟩:=h4.bK;obtain⟨hz,h7⟩:=h6.bK;obtain⟨⟨hn0,hbig⟩,h8⟩:=h7.rf;obtain⟨rfl,rfl⟩:=h8.ik;have hcl:c=l:=by have:=KU hsame;simpa using this.symm
  subst hcl;have hb0:0<ti.bytes:=by simpa using hb0
  obtain⟨z0,z1⟩:=Ao hz;obtain⟨hu,i,z,hi,hiz,hs,hby,hzs⟩:=hc.slice h1 h2 h3;obtain⟨i',_,z',hi',_,Er,_,_,_,_,hzl,Jr,_⟩:=(hc.ty e ti h3).ex;rw[hi]at hi';cases hi';rw[hiz]at Er;cases Er;obtain⟨m,rfl⟩:=ahD hn0;have hbig':m*ti.bytes<=140737488355328:=by
   have:((m*ti.bytes:Nat):Int)<=((140737488355328:Nat):Int):=by simpa[big]using hbig
   exact_mod_cast this
  have aki:m<=140737488355328:=af3 (ajS _ hb0) hbig';have hw:IntKind.i64.wrap (m:Int)=m:=wrap_i64 ⟨by omega,by omega⟩;have hcells:BN w (λ b=>I b\/yo O [] b) ti.size m (λ _=>zeroOf ti) ((Array.range (m*ti.size)).map (λ k=>z.cells[k % z.cells.size]!)):=by
   refine⟨by simp,λ j hj=>?_⟩;rw[vU hz hzl];refine⟨by rw[fa];exact hzl,λ q hq=>?_⟩;rw[oL z.cells m j q ti.size hzs hj hq];exact⟨ui _ _ ti.size hzl Jr q hq,oK _ _ ti.size Jr q hq⟩
  have e2:((m:Int)).toNat=m:=by simp
  rw[e2];have hlen:=hcells.1;refine dh.KW (p:=⟨ti.size,m,some (w.heap.size,0,((Array.range (m*ti.size)).map (λ k=>z.cells[k % z.cells.size]!)).size)⟩) (c:=(Array.range (m*ti.size)).map (λ k=>z.cells[k % z.cells.size]!)) (e:=e) (x:=.slice (some ⟨w.heap.size,0,none⟩) m m) hR hn [] ?_ rfl (BN.obj (hR.freeze []).uX hcells rfl) ?_
  ·have hge:¬ ((m:Int)<0):=by omega
   have hb2:¬ ((ti.bytes:Int)*(m:Int) > 2 ^ 48):=Xt hbig';have hroom:(askRoom (m*ti.bytes)).run P w=.ok () w:=by
    unfold askRoom;by_cases h:m*ti.bytes > roomBytes
    ·rw[afc h];rfl
    rw[aeV h];rfl
   have hcond:(decide ((m:Int)<0)||decide ((ti.bytes:Int)*(m:Int) > 2 ^ 48)||decide ((m:Int)<0)||decide ((m:Int) > (m:Int)))=false:=by
    rw[afe hge,afe hb2,afe (Int.lt_irrefl _)];rfl
   clear h1 h2 h3 h4 h6 h7 h8 Jr hR hc hcells hlen hbig;by_cases h0:m*ti.size=0
   ·have e0:∀f:Nat->Value,(Array.range (m*ti.size)).map f=#[]:=λ f=>ajD (by simp[h0]);simp only[execOp,ho,hlv,Instr.makeSlice,Sem.run_bind,bG hu,Result.andThen,asInt,asIntOf,Sem.run_pure,typeInfo,program,Sem.run,hi,hw,hby,ahO,hcond,anp,apx,hroom,dG hi,hs,afc h0,e0,newRow,newObj];rfl
   simp only[execOp,ho,hlv,Instr.makeSlice,Sem.run_bind,bG hu,Result.andThen,asInt,asIntOf,Sem.run_pure,typeInfo,program,Sem.run,hi,hw,hby,ahO,hcond,anp,apx,hroom,dG hi,hs,aeV h0,zeroValue,hiz,newRow,newObj];rfl
  intro I' O' D' hO;refine .bV hO (by simp) (afM _) (λ _=>rfl) (λ _=>⟨_,_,_,rfl,by simp,?_⟩) (by simp);simp
 exact(dg.ba h4).elim
end
end Go.Ab
namespace Go.Ab
section
variable {P:Program} {cfg:qX} {cx:Ctx} {H:Nat->Option cI} {D:Nat->Prop} {w:World} {I:Nat->Prop} {O:OM} {Sp:lk}
variable {cH:Nat} {o:Oper} {a:Act} {ρ:Operand->AV} {v:AV} {ups:ic} {r:ap0}
variable {w':World}
def Rel.BO (h:w'.heap=w.heap) (he:eK w' w) (hR:Rel cfg cx H D w I O):Rel cfg cx H D w' I O:=
 { hR with
  objs:=λ o ob p h1 h2=>(hR.objs o ob p h1 h2).mono (λ _ h=>h) (λ _ _=>by rw[h]) (λ _ _=>.inl rfl) (λ _ h=>h) hR.used (λ _ _ _ _=>by rw[h])
  lt:=λ o p b bo sz h1 h2=>by rw[h];exact hR.lt o p b bo sz h1 h2
  uX:=λ b hb=>by rw[h];exact hR.uX b hb
  size:=by rw[h];exact hR.size
  frame:=λ b h1 h2=>by rw[h];exact hR.frame b h1 h2
  env:=hR.env.step he
  glob:=λ g cs hg=>(hR.glob g cs hg).mono (λ _ h=>h) (λ _ _=>by rw[h]) }
def cQ.BO (h:w'.heap=w.heap) (hR:Rel cfg cx H D w I O) {v:AV} {x:Value} (hx:cQ w I O D v x):cQ w' I O D v x:=
 hx.mono (λ _ h=>h) (λ _ _=>by rw[h]) (λ _ _=>.inl rfl) (λ _ h=>h) hR.used
def Rel.drop (hR:Rel cfg cx H D w I O) (ids:ap0):Rel cfg cx (jJ H (dead ids)) D w I (kill O ids):=by
 have hF:=hR.freeze ids;exact { hF with
  objs:=λ o ob p h h'=>by
   rw[GC]at h;unfold kill at h'
   by_cases h0:o∈ids<;>simp[h0]at h h'
   exact(hR.objs o ob p h h').mono (λ _ h=>h) (λ _ _=>rfl) (λ o _=>by unfold kill;by_cases h0:o∈ids<;>simp[h0]) (λ _ h=>h) hR.used (λ _ _ _ _=>rfl)
  lz:=λ o p b bo sz h1 h2 h3=>hF.lz o p b bo sz h1 h2 (.inl h3)
  uX:=hR.uX
  glob:=hR.glob
  Jf:=hR.Jf
  KQ:=hR.KQ }
def cQ.drop (hR:Rel cfg cx H D w I O) (ids:ap0) {v:AV} {x:Value} (h:cQ w I O D v x):cQ w I (Ab.kill O ids) D v x:=
 h.mono (λ _ h=>h) (λ _ _=>rfl) (λ o _=>by unfold Ab.kill;by_cases h0:o∈ids<;>simp[h0]) (λ _ h=>h) hR.used
variable {b:Nat} {bo:Nat} {sz:Nat}
theorem Rel.place (hR:Rel cfg cx H D w I O) (hn:¬ D cH) (he:eK w' w) (ob:cI) (p:Own) (hp:p.pl=some (b,bo,sz)) (hb:∀b',b'≠b->w'.heap[b']? = w.heap[b']?) (hs:w'.heap.size=w.heap.size)
  (hlt:b<w.heap.size) (hnew:cx.w0.heap.size<=b\/cx.M b) (hnI:¬ I b) (hfree:∀o p b' la sz',O o=some p->p.pl=some (b',la,sz')->b'≠b)
  (lg:eV w' I (ji O cH p) (xg D cH) p ob) (hnm:∀kd z f,ob≠.map kd z f:=by intro _ _ _ h;cases h):Rel cfg cx (jJ H [(cH,some ob)]) (xg D cH) w' I (ji O cH p):=by
 have hH:∀o,jJ H [(cH,some ob)] o=if o=cH then some ob else H o:=by
  intro o;simp only[jJ,look];cases hb:Nat.beq cH o with
  | true=>have:=aeK hb;subst this;simp
  | false=>
   have:o≠cH:=λ e=>by subst e;simp at hb
   simp[this]
 have old:∀ {o p'},o≠cH->ji O cH p o=some p'->O o=some p':=λ hne h=>by unfold ji at h;rwa [aeV hne]at h
 have KX:∀b',I b'->w'.heap[b']? = w.heap[b']? := λ b' h=>hb b' (λ e=>hnI (e ▸ h));exact {
  dom:=λ o=>by
   rw[hH];unfold ji
   by_cases h:o=cH
   ·simp[h]
   simp[h,hR.dom o]
  used:=λ o p' h=>by
   by_cases hne:o=cH
   ·exact KR hne
   exact .inl (hR.used o p' (old hne h))
  objs:=λ o ob' p' h h'=>by
   by_cases hne:o=cH
   ·subst hne
    rw[hH,afc rfl]at h
    unfold ji at h'
    rw[afc rfl]at h'
    cases h;cases h'
    exact lg
   rw[hH,aeV hne]at h
   have h'':=old hne h'
   exact(hR.objs o ob' p' h h'').mono (λ _ h=>h) KX (λ _ ho=>.inl (Ep hn ho)) (λ _ h=>.inl h) hR.used (λ b' la sz' hpl=>hb b' (hfree o p' b' la sz' h'' hpl))
  inj:=λ o o' p1 p2 b1 Jg Jh b2 bo2 sz2 h1 h2 h3 h4 h5=>by
   by_cases e1:o=cH
   ·by_cases e2:o'=cH
    ·exact absurd (e1.trans e2.symm) h5
    unfold ji at h1
    rw[afc e1]at h1
    cases h1
    rw[hp]at h3
    cases h3
    exact λ e=>hfree o' p2 b2 bo2 sz2 (old e2 h2) h4 e.symm
   by_cases e2:o'=cH
   ·unfold ji at h2
    rw[afc e2]at h2
    cases h2
    rw[hp]at h4
    cases h4
    exact hfree o p1 b1 Jg Jh (old e1 h1) h3
   exact hR.inj o o' p1 p2 b1 Jg Jh b2 bo2 sz2 (old e1 h1) (old e2 h2) h3 h4 h5
  lz:=λ o p1 b1 Jg Jh h1 h2 h3=>by
   by_cases e1:o=cH
   ·unfold ji at h1
    rw[afc e1]at h1
    cases h1
    rw[hp]at h2
    cases h2
    exact hnI h3
   exact hR.lz o p1 b1 Jg Jh (old e1 h1) h2 h3
  lt:=λ o p1 b1 Jg Jh h1 h2=>by
   by_cases e1:o=cH
   ·unfold ji at h1
    rw[afc e1]at h1
    cases h1
    rw[hp]at h2
    cases h2
    omega
   have:=hR.lt o p1 b1 Jg Jh (old e1 h1) h2
   omega
  uX:=λ b' h=>by rw[hs];exact hR.uX b' h
  size:=by rw[hs];exact hR.size
  env:=hR.env.step he
  frame:=λ b' h1 h2=>by
   rw[hb b' (λ e=>by subst e;rcases hnew with h | h;omega;exact h2 h)]
   exact hR.frame b' h1 h2
  new:=λ o p1 b1 Jg Jh h1 h2=>by
   by_cases e1:o=cH
   ·unfold ji at h1
    rw[afc e1]at h1
    cases h1
    rw[hp]at h2
    cases h2
    exact hnew
   exact hR.new o p1 b1 Jg Jh (old e1 h1) h2
  glob:=λ g cs h=>(hR.glob g cs h).mono (λ _ h=>h) KX
  Jf:=hR.Jf
  KQ:=hR.KQ
  NH:=λ o h=>by
   have hne:o≠cH:=λ e=>hn (e ▸ hR.Dm o h)
   unfold ji
   rw[aeV hne]
   exact hR.NH o h
  Dm:=λ o h=>.inl (hR.Dm o h) }
def cQ.place (hR:Rel cfg cx H D w I O) (hn:¬ D cH) {p:Own} (hb:∀b',I b'->w'.heap[b']? = w.heap[b']?) {v:AV} {x:Value} (h:cQ w I O D v x):cQ w' I (ji O cH p) (xg D cH) v x:=
 h.mono (λ _ h=>h) hb (λ _ ho=>.inl (Ep hn ho)) (λ _ h=>.inl h) hR.used
def Rel.empty (hR:Rel cfg cx H D w I O) (hn:¬ D cH) (es:Nat) (g:Nat->AV):Rel cfg cx (jJ H [(cH,some (.row es 0 g))]) (xg D cH) w I (ji O cH ⟨es,0,none⟩):=by
 have hH:∀o,jJ H [(cH,some (.row es 0 g))] o=if o=cH then some (.row es 0 g)else H o:=by
  intro o;simp only[jJ,look];cases hb:Nat.beq cH o with
  | true=>have:=aeK hb;subst this;simp
  | false=>
   have:o≠cH:=λ e=>by subst e;simp at hb
   simp[this]
 have old:∀ {o p' b bo sz},ji O cH ⟨es,0,none⟩ o=some p'->p'.pl=some (b,bo,sz)->O o=some p':=λ h h'=>by
  unfold ji at h;split at h
  ·cases h;cases h'
  exact h
 exact {
  dom:=λ o=>by
   rw[hH];unfold ji
   by_cases h:o=cH
   ·simp[h]
   simp[h,hR.dom o]
  used:=λ o p' h=>by
   by_cases hne:o=cH
   ·exact KR hne
   unfold ji at h
   rw[aeV hne]at h
   exact .inl (hR.used o p' h)
  objs:=λ o ob' p' h h'=>by
   by_cases hne:o=cH
   ·subst hne
    rw[hH,afc rfl]at h
    unfold ji at h'
    rw[afc rfl]at h'
    cases h;cases h'
    exact⟨rfl,rfl,λ i hi=>absurd hi om,.inl ⟨rfl,rfl⟩⟩
   rw[hH,aeV hne]at h
   unfold ji at h'
   rw[aeV hne]at h'
   exact(hR.objs o ob' p' h h').mono (λ _ h=>h) (λ _ _=>rfl) (λ _ ho=>.inl (Ep hn ho)) (λ _ h=>.inl h) hR.used (λ _ _ _ _=>rfl)
  inj:=λ o o' p1 p2 b1 Jg Jh b2 bo2 sz2 h1 h2 h3 h4 h5=>hR.inj o o' p1 p2 b1 Jg Jh b2 bo2 sz2 (old h1 h3) (old h2 h4) h3 h4 h5
  lz:=λ o p1 b1 Jg Jh h1 h2 h3=>hR.lz o p1 b1 Jg Jh (old h1 h2) h2 h3
  lt:=λ o p1 b1 Jg Jh h1 h2=>hR.lt o p1 b1 Jg Jh (old h1 h2) h2
  uX:=hR.uX
  size:=hR.size
  frame:=hR.frame
  env:=hR.env
  new:=λ o p1 b1 Jg Jh h1 h2=>hR.new o p1 b1 Jg Jh (old h1 h2) h2
  glob:=hR.glob
  Jf:=hR.Jf
  KQ:=hR.KQ
  NH:=λ o h=>by
   have hne:o≠cH:=λ e=>hn (e ▸ hR.Dm o h)
   unfold ji
   rw[aeV hne]
   exact hR.NH o h
  Dm:=λ o h=>.inl (hR.Dm o h) }
theorem Rel.aat (hR:Rel cfg cx H D w I O) (he:Am cx w') {ob:Nat} {p:Own} (x:cI) (ho:O ob=some p) (hp:p.pl=some (b,bo,sz)) (hb:∀b',b'≠b->w'.heap[b']? = w.heap[b']?) (hs:w'.heap.size=w.heap.size)
  (lg:eV w' I O D p x):Rel cfg cx (jJ H [(ob,some x)]) D w' I O:=by
 have hnI:=hR.lz ob p b bo sz ho hp;have KX:∀b',I b'->w'.heap[b']? = w.heap[b']? := λ b' h=>hb b' (λ e=>hnI (e ▸ h));have hH:∀o,jJ H [(ob,some x)] o=if o=ob then some x else H o:=by
  intro o;simp only[jJ,look];cases hb:Nat.beq ob o with
  | true=>have:=aeK hb;subst this;simp
  | false=>
   have:o≠ob:=λ e=>by subst e;simp at hb
   simp[this]
 exact { hR with
  dom:=λ o=>by
   rw[hH]
   by_cases h:o=ob
   ·subst h;simp[ho]
   simp[h,hR.dom o]
  objs:=λ o ob' p' h h'=>by
   by_cases hne:o=ob
   ·subst hne
    rw[hH,afc rfl]at h
    rw[ho]at h'
    cases h;cases h'
    exact lg
   rw[hH,aeV hne]at h
   exact(hR.objs o ob' p' h h').mono (λ _ h=>h) KX (λ _ _=>.inl rfl) (λ _ h=>h) hR.used (λ b' la sz' hpl=>hb b' (hR.inj o ob p' p b' la sz' b bo sz h' ho hpl hp hne))
  lt:=λ o p1 b1 Jg Jh h1 h2=>by rw[hs];exact hR.lt o p1 b1 Jg Jh h1 h2
  uX:=λ b' h=>by rw[hs];exact hR.uX b' h
  size:=by rw[hs];exact hR.size
  env:=he
  frame:=λ b' h1 h2=>by
   rw[hb b' (λ e=>by subst e;rcases hR.new ob p b' bo sz ho hp with h | h;omega;exact h2 h)]
   exact hR.frame b' h1 h2
  glob:=λ g cs h=>(hR.glob g cs h).mono (λ _ h=>h) KX }
def Rel.write (hR:Rel cfg cx H D w I O) (he:eK w' w) {ob:Nat} {p:Own} (x:cI) (ho:O ob=some p) (hp:p.pl=some (b,bo,sz)) (hb:∀b',b'≠b->w'.heap[b']? = w.heap[b']?) (hs:w'.heap.size=w.heap.size)
  (lg:eV w' I O D p x) (hnm:∀kd z f,x≠.map kd z f:=by intro _ _ _ h;cases h):Rel cfg cx (jJ H [(ob,some x)]) D w' I O:=
 hR.aat (hR.env.step he) x ho hp hb hs lg
def eK.setCell (w:World) (a:Addr) (v:Value):eK (w.setCell a v) w:=⟨rfl,rfl,rfl,λ i o hi ho=>by
 unfold World.setCell;simp only[aov];split
 ·rw[hi];cases o with
  | cells c t f=>cases ho
  | _=>rfl
 exact hi⟩
theorem lB (b:Nat):∀(vs:List Value) (off:Nat) (w:World),eK (w.setCells b off vs) w
 | [],_,w=>eK.refl w
 | v::r,off,w=>(lB b r (off+1) (w.setCell ⟨b,off,none⟩ v)).trans (eK.setCell w _ v)
theorem kh (b:Nat):∀(vs:List Value) (off:Nat) (w:World),(w.setCells b off vs).heap.size=w.heap.size/\∀b',b'≠b->(w.setCells b off vs).heap[b']? = w.heap[b']?
 | [],_,_=>⟨rfl,λ _ _=>rfl⟩
 | v::r,off,w=>by
  obtain⟨h1,h2⟩:=kh b r (off+1) (w.setCell ⟨b,off,none⟩ v);have e1:(w.setCell ⟨b,off,none⟩ v).heap.size=w.heap.size:=by simp[World.setCell]
  refine⟨by rw[World.setCells,h1,e1],λ b' hb=>?_⟩;rw[World.setCells,h2 b' hb];simp[World.setCell,aov,Ne.symm hb]
theorem CE (b:Nat):∀(vs:List Value) (off:Nat) (w:World) (j:Nat),(w.setCells b off vs).frozen? ⟨b,j,none⟩=w.frozen? ⟨b,j,none⟩
 | [],_,_,_=>rfl
 | v::r,off,w,j=>by
  rw[World.setCells,CE b r (off+1) _ j];unfold World.frozen? World.setCell;simp only[aov];cases hb:w.heap[b]? with
  | none=>simp
  | some ob=>cases ob<;>simp
def iD (h:CC w b sz) (off:Nat) (vs:List Value) (hle:off+vs.length<=sz):CC (w.setCells b off vs) b sz/\
  ∀j,j<sz->cellAt (w.setCells b off vs) b j=if off<=j/\j<off+vs.length then vs.getD (j - off) Go.undef else cellAt w b j:=by
 have hin:=World.cell?_setCells_in b vs off w (λ j hj=>(h (off+j) om).1);have key:∀j,j<sz->(w.setCells b off vs).cell? ⟨b,j,none⟩=some (if off<=j/\j<off+vs.length then vs.getD (j - off) Go.undef else cellAt w b j):=by
  intro j hj;by_cases hc:off<=j/\j<off+vs.length
  ·rw[afc hc];have:=hin (j - off) om;rw[show off+(j - off)=j by omega]at this;rw[this];simp[show j - off<vs.length by omega]
  rw[aeV hc,World.cell?_setCells_out b vs off w ⟨b,j,none⟩ (λ _ _=>by simp;omega)];exact qa h hj
 refine⟨λ j hj=>⟨by rw[key j hj];rfl,by rw[CE];exact(h j hj).2⟩,λ j hj=>by rw[cellAt,key j hj];rfl⟩
def l6 (h:qZ w b bo sz) (off:Nat) (vs:List Value) (hle:off+vs.length<=sz) (h1:∀q,q<vs.length->(vs.getD q Go.undef).oneCell'=true):qZ (w.setCells b off vs) b bo sz:=
 ⟨(iD h.al off vs hle).1,λ j hb hj=>by
  rw[(iD h.al off vs hle).2 j hj];split
  ·exact h1 _ om
  exact h.one j hb hj⟩
end
end Go.Ab
namespace Go.Ab
section
variable {P:Program} {cfg:qX} {cx:Ctx} {H:Nat->Option cI} {D:Nat->Prop} {w:World} {I:Nat->Prop} {O:OM} {Sp:lk}
variable {cH:Nat} {o:Oper} {a:Act} {ρ:Operand->AV} {v:AV} {ups:ic} {r:ap0}
def run_store {t:TypeId} {i:TypeInfo} (hi:P.info? t=some i) {b off sz:Nat} (hal:CC w b sz) (x:Value) (hs:x.cells.size=i.size) (hle:off+x.cells.size<=sz) (h1:∀j,j<x.cells.size->(x.cells.getD j Go.undef).oneCell'=true):
  (Instr.storeAt t (.pointer (some ⟨b,off,none⟩)) x).run P w=.ok () (w.setCells b off x.cells.toList):=by
 have:=run_storeCells_cells (P:=P) b off x.cells.toList 0 w (λ j hj=>(hal (off+0+j) (by simp at hj;omega)).1) (λ j hj=>(hal (off+0+j) (by simp at hj;omega)).2)
  (λ u hu=>by
    obtain⟨j,hj,rfl⟩:=ahZ.1 hu
    have hj':j<x.cells.size:=by simpa using hj
    simpa[hj']using h1 j hj')
 rw[ajT]at this;have hne:¬ x.cells.size≠i.size:=by omega
 simp only[Instr.storeAt,Instr.sureAddr,Sem.run_bind,Sem.run_pure,Result.andThen,storeVar,dG hi,aeV hne,this]
def Js {w':World} {next:Act->World->Prop} {Q:Exit->Act->World->Prop} (h:(execOp a.eval o).run P w=.ok .skip w') (hn:next (a.put o.dst Go.undef) w'):o.wp P a w next Q:=by
 unfold Oper.wp;rw[h];exact hn
def th {x:Nat} {l:ap0} (h:vR x l=false):x ∉ l:=by
 induction l with
 | nil=>simp
 | cons b l ih=>
  unfold vR at h;cases hb:Nat.beq x b with
  | true=>simp[hb]at h
  | false=>
   simp only[hb]at h;have hne:x≠b:=λ e=>by subst e;simp at hb
   simp[hne,ih h]
theorem aau (hc:ej P cfg) (hR:Rel cfg cx H D w I O) {t:TypeId} {x y:Operand} (ho:o.op=.store t x y) (hx:cQ w I O D (ρ x) (a.eval x)) (hy:cQ w I O D (ρ y) (a.eval y))
  (h:dg Sp H (dV cfg cH (.store t x y) ρ) v ups r):dh P cfg cx H D w I O cH o a v ups:=by
 simp only[dV]at h;obtain⟨ti,ht,h1⟩:=h.iT;obtain⟨i,d,hi,hu,hd,hs⟩:=hc.agg ht;split at h1
 ·rename_i ob k off e;rw[e]at hx;obtain⟨obj,_,lg,h2⟩:=h1.kg;obtain⟨p,hp,hO⟩:=hR.live lg;obtain⟨b,bo,sz,hpl,hk,hxv⟩:=hx.lA hp;cases obj with
  | map=>exact(dg.ba h2).elim
  | box cs=>
   obtain⟨hn,b',la,sz',hpl',hal,hle,hcs⟩:=hO;rw[hpl]at hpl';cases hpl';have hk0:k=0:=by omega
   subst hk0;obtain⟨hok,h3⟩:=h2.wQ;obtain⟨hsz,h4⟩:=h3.bK;obtain⟨hin,h5⟩:=h4.bK;obtain⟨rfl,rfl⟩:=h5.ik;have hsz:(ρ y).cells.length=ti.size:=aeK hsz;have hin:off+(ρ y).cells.length<=cs.length:=ahk hin;obtain⟨hcl,hcc⟩:=hy.cells hok;have hrun:=run_store (P:=P) hi hal (a.eval y) (off:=bo+off) om om (λ j hj=>(hcc j om).2);obtain⟨Og,hcell⟩:=iD hal (bo+off) (a.eval y).cells.toList (by simp;omega);obtain⟨Yw,PU⟩:=kh b (a.eval y).cells.toList (bo+off) w;have KX:∀b',I b'->(w.setCells b (bo+off) (a.eval y).cells.toList).heap[b']? = w.heap[b']? := λ b' hb=>PU b' (λ e=>hR.lz ob p b bo sz hp hpl (e ▸ hb));have keep:∀u z,cQ w I O D u z->cQ (w.setCells b (bo+off) (a.eval y).cells.toList) I O D u z:=λ u z hu=>hu.mono (λ _ h=>h) KX (λ _ _=>.inl rfl) (λ _ h=>h) hR.used;have Es:=hR.write (lB _ _ _ _) (.box (Ak off (ρ y).cells cs)) hp hpl PU Yw (by
    refine⟨hn,b,bo,sz,hpl,Og,by rw[uj];exact hle,λ j hj=>?_⟩
    rw[uj]at hj
    rw[Oe _ _ _ hin,hcell (bo+j) om]
    by_cases hc1:off<=j/\j<off+(ρ y).cells.length
    ·rw[afc hc1,afc (by simp;omega)]
     have:=keep _ _ (hcc (j - off) om).1
     have e2:bo+j - (bo+off)=j - off:=by omega
     rw[e2]
     have hlt:j - off<(a.eval y).cells.size:=by omega
     simpa[hlt]using this
    rw[aeV hc1,aeV (by simp;omega)]
    exact keep _ _ (hcs j hj))
   intro next Q hnx
   refine Js (w':=w.setCells b (bo+off) (a.eval y).cells.toList) ?_ (hnx Go.undef _ I O (Es.sI cH) (λ u z hu=>(keep u z hu).sI Es cH) (.pure (.undef _)));simp only[akJ,ahq]at hxv;simp only[execOp,ho,hxv,Sem.run_bind,hrun,Result.andThen,Sem.run_pure]
  | row es n g=>
   simp only at h2;split at h2
   ·obtain⟨x',ids,_,h3,af4⟩:=(An hR fuel).1 _ _ _ _ _ h2;obtain⟨hmem,h4⟩:=h3.bK;have hmem:ob ∉ ids:=th (by simpa using hmem);obtain⟨hok,h5⟩:=h4.wQ;obtain⟨hsz,h6⟩:=h5.bK;obtain⟨c1,h7⟩:=h6.bK;obtain⟨c2,h8⟩:=h7.bK;obtain⟨c3,h9⟩:=h8.bK;obtain⟨rfl,rfl⟩:=h9.ik;obtain⟨rfl,rfl⟩:=NI c3;have hsz:x'.cells.length=ti.size:=aeK hsz;have c1:es=1:=aeK c1;have c2:n=ti.size:=aeK c2;subst c1;have hyp:=af4 _ hy;have Jq:=hR.freeze ids;have hp1:kill O ids ob=some p:=by unfold kill;rw[aeV hmem];exact hp
    have hyr:cQ w (λ b=>I b\/yo O ids b) (kill O ids) D x' (a.eval y):=.pure hyp;obtain⟨hcl,hcc⟩:=hyr.cells hok;have hcp:∀j,j<x'.cells.length->eF w (λ b=>I b\/yo O ids b) (nth x'.cells j) ((a.eval y).cells.getD j Go.undef):=by
     have af5:cQ w (λ b=>I b\/yo O ids b) (λ _=>none) (λ _=>False) x' (a.eval y):=.pure hyp;exact λ j hj=>yE ((af5.cells hok).2 j hj).1
    obtain⟨hn,hes,hlen,hpl' | ⟨b',la,sz',hpl',hal,hle,hcs⟩⟩:=hO
    ·rw[hpl]at hpl';cases hpl'.2
    rw[hpl]at hpl';cases hpl';simp only[akJ,ajT]at hxv;have hrun:=run_store (P:=P) hi hal.al (a.eval y) (off:=bo) om om (λ j hj=>(hcc j om).2);have Og:=l6 hal bo (a.eval y).cells.toList (by simp;omega) (λ q hq=>by have hlt:q<(a.eval y).cells.size:=(by simpa using hq);simpa[hlt]using(hcc q om).2);obtain⟨_,hcell⟩:=iD hal.al bo (a.eval y).cells.toList (by simp;omega);obtain⟨Yw,PU⟩:=kh b (a.eval y).cells.toList bo w;have KX:∀b',(λ b=>I b\/yo O ids b) b'->(w.setCells b bo (a.eval y).cells.toList).heap[b']? = w.heap[b']? := λ b' hb=>PU b' (λ e=>Jq.lz ob p b bo sz hp1 hpl (e ▸ hb));have keep:∀u z,cQ w (λ b=>I b\/yo O ids b) (kill O ids) D u z->cQ (w.setCells b bo (a.eval y).cells.toList) (λ b=>I b\/yo O ids b) (kill O ids) D u z:=λ u z hu=>hu.mono (λ _ h=>h) KX (λ _ _=>.inl rfl) (λ _ h=>h) Jq.used;have Et:∀u z,eF w (λ b=>I b\/yo O ids b) u z->eF (w.setCells b bo (a.eval y).cells.toList) (λ b=>I b\/yo O ids b) u z:=λ u z hu=>hu.mono (λ _ h=>h) KX;have hone:∀q,q<n->(nth x'.cells q).cells=[nth x'.cells q]:=λ q hq=>by
     have:=Mk hok q om;cases hv:nth x'.cells q with
     | agg cs=>rw[hv]at this;cases this
     | _=>rfl
    have Es:=Jq.write (lB _ _ _ _) (.row 1 n (Me x'.cells)) hp1 hpl PU Yw (by
     refine⟨hn,hes,λ q hq=>by show(nth x'.cells q).cells.length=1;rw[hone q hq];rfl,.inr ⟨b,bo,sz,hpl,Og,hle,λ q j hq hj=>?_⟩⟩
     have hj0:j=0:=by omega
     subst hj0
     simp only[aoF,ajT]
     rw[hcell (bo+q) om,afc (by simp;omega)]
     have e2:bo+q - bo=q:=by omega
     rw[e2]
     have hlt:q<(a.eval y).cells.size:=by omega
     show eF _ _ (nth (nth x'.cells q).cells 0) _/\_
     rw[hone q hq]
     have:=Et _ _ (hcp q om)
     exact⟨by simpa[hlt,nth]using this,by simpa[hlt]using(hcc q om).2⟩)
    intro next Q hnx
    refine Js (w':=w.setCells b bo (a.eval y).cells.toList) ?_ (hnx Go.undef _ _ _ (by rw[wS];exact Es.sI cH) (λ u z hu=>(keep u z (hu.kill hR ids)).sI Es cH) (.pure (.undef _)));simp only[execOp,ho,hxv,Sem.run_bind,hrun,Result.andThen,Sem.run_pure]
   obtain⟨x',ids,_,h3,af4⟩:=(An hR fuel).1 _ _ _ _ _ h2;obtain⟨hmem,h4⟩:=h3.bK;have hmem:ob ∉ ids:=th (by simpa using hmem);obtain⟨hok,h5⟩:=h4.wQ;obtain⟨hsz,h6⟩:=h5.bK;obtain⟨hpos,h7⟩:=h6.bK;obtain⟨hin,h8⟩:=h7.bK;obtain⟨rfl,rfl⟩:=h8.ik;have hsz:x'.cells.length=ti.size:=aeK hsz;have hpos:0<ti.size:=by simpa using hpos
   have hin:off+x'.cells.length<=es:=ahk hin;have hyp:=af4 _ hy;have Jq:=hR.freeze ids;have hp1:kill O ids ob=some p:=by unfold kill;rw[aeV hmem];exact hp
   have hyr:cQ w (λ b=>I b\/yo O ids b) (kill O ids) D x' (a.eval y):=.pure hyp;obtain⟨hcl,hcc⟩:=hyr.cells hok;have hcp:∀j,j<x'.cells.length->eF w (λ b=>I b\/yo O ids b) (nth x'.cells j) ((a.eval y).cells.getD j Go.undef):=by
    have af5:cQ w (λ b=>I b\/yo O ids b) (λ _=>none) (λ _=>False) x' (a.eval y):=.pure hyp;exact λ j hj=>yE ((af5.cells hok).2 j hj).1
   obtain⟨hn,hes,hlen,hpl' | ⟨b',la,sz',hpl',hal,hle,hcs⟩⟩:=hO
   ·rw[hpl]at hpl';cases hpl'.2
   rw[hpl]at hpl';cases hpl';rw[hes]at hxv;have hkn:k<n:=by omega
   have hmul:(k+1)*es<=n*es:=afK _ hkn;rw[ah2]at hmul;have hrun:=run_store (P:=P) hi hal.al (a.eval y) (off:=bo+(k*es+off)) om om (λ j hj=>(hcc j om).2);have Og:=l6 hal (bo+(k*es+off)) (a.eval y).cells.toList (by simp;omega) (λ q hq=>by have hlt:q<(a.eval y).cells.size:=(by simpa using hq);simpa[hlt]using(hcc q om).2);obtain⟨_,hcell⟩:=iD hal.al (bo+(k*es+off)) (a.eval y).cells.toList (by simp;omega);obtain⟨Yw,PU⟩:=kh b (a.eval y).cells.toList (bo+(k*es+off)) w;have KX:∀b',(λ b=>I b\/yo O ids b) b'->(w.setCells b (bo+(k*es+off)) (a.eval y).cells.toList).heap[b']? = w.heap[b']? := λ b' hb=>PU b' (λ e=>Jq.lz ob p b bo sz hp1 hpl (e ▸ hb));have keep:∀u z,cQ w (λ b=>I b\/yo O ids b) (kill O ids) D u z->cQ (w.setCells b (bo+(k*es+off)) (a.eval y).cells.toList) (λ b=>I b\/yo O ids b) (kill O ids) D u z:=λ u z hu=>hu.mono (λ _ h=>h) KX (λ _ _=>.inl rfl) (λ _ h=>h) Jq.used;have Et:∀u z,eF w (λ b=>I b\/yo O ids b) u z->eF (w.setCells b (bo+(k*es+off)) (a.eval y).cells.toList) (λ b=>I b\/yo O ids b) u z:=λ u z hu=>hu.mono (λ _ h=>h) KX;have hel:∀gk,gk=g k->(match gk with | .agg cs=>AV.agg (Ak off x'.cells cs) | _=>x').cells.length=es/\
     ∀j,j<es->nth (match gk with | .agg cs=>AV.agg (Ak off x'.cells cs) | _=>x').cells j=if off<=j/\j<off+x'.cells.length then nth x'.cells (j - off)else nth gk.cells j:=by
    intro gk hgk
    have hl:=hlen k hkn
    rw[<- hgk]at hl
    have one:gk.cells=[gk]->x'.cells.length=es/\∀j,j<es->nth x'.cells j=if off<=j/\j<off+x'.cells.length then nth x'.cells (j - off)else nth gk.cells j:=by
     intro hc1
     rw[hc1]at hl
     simp at hl
     have:off=0:=by omega
     subst this
     exact⟨by omega,λ j hj=>by rw[afc om];rfl⟩
    cases gk with
    | agg cs=>
     simp only[AV.cells]at hl ⊢
     exact⟨by rw[uj];exact hl,λ j hj=>Oe cs x'.cells off om j⟩
    | _=>exact one rfl
   have akk:∀q:Bool,q=(Rq off&&Nat.beq x'.cells.length es)->(match q with | true=>x' | false=>match g k with | .agg cs=>AV.agg (Ak off x'.cells cs) | _=>x').cells.length=es/\
     ∀j,j<es->nth (match q with | true=>x' | false=>match g k with | .agg cs=>AV.agg (Ak off x'.cells cs) | _=>x').cells j=if off<=j/\j<off+x'.cells.length then nth x'.cells (j - off)else nth (g k).cells j:=by
    intro q hq
    cases q with
    | false=>exact hel (g k) rfl
    | true=>
     simp only[eq_comm (a:=true),aeP]at hq
     have h0:off=0:=by cases off with | zero=>rfl | succ n=>cases hq.1
     have hq1:=aeK hq.2
     subst h0
     exact⟨hq1,λ j hj=>by rw[afc om];rfl⟩
   obtain⟨akl,akm⟩:=akk _ rfl;have Es:=Jq.write (lB _ _ _ _) (.row es n (Tc g k (match Rq off&&Nat.beq x'.cells.length es with | true=>x' | false=>match g k with | .agg cs=>.agg (Ak off x'.cells cs) | _=>x'))) hp1 hpl PU Yw (by
    refine⟨hn,hes,λ j hj=>?_,.inr ⟨b,bo,sz,hpl,Og,hle,λ j q hj hq=>?_⟩⟩
    ·simp only[Tc]
     cases hb:Nat.beq j k with
     | true=>simp only[ahX];exact akl
     | false=>simp only[ags];exact hlen j hj
    have hmj:(j+1)*es<=n*es:=afK _ hj
    rw[ah2]at hmj
    rw[hcell (bo+(j*es+q)) om]
    simp only[Tc]
    cases hb:Nat.beq j k with
    | true=>
     have hjk:=aeK hb
     subst hjk
     simp only[ahX]
     rw[akm q hq]
     by_cases hc1:off<=q/\q<off+x'.cells.length
     ·rw[afc hc1,afc (by simp;omega)]
      have e2:bo+(j*es+q) - (bo+(j*es+off))=q - off:=by omega
      rw[e2]
      have hlt:q - off<(a.eval y).cells.size:=by omega
      have:=Et _ _ (hcp (q - off) om)
      exact⟨by simpa[hlt]using this,by simpa[hlt]using(hcc (q - off) om).2⟩
     rw[aeV hc1,aeV (by simp;omega)]
     exact⟨Et _ _ ((hcs j q hj hq).1.mono (λ _ h=>.inl h) (λ _ _=>rfl)),(hcs j q hj hq).2⟩
    | false=>
     have hjk:j≠k:=λ e=>by subst e;simp at hb
     simp only[ags]
     have hne:¬ (bo+(k*es+off)<=bo+(j*es+q)/\bo+(j*es+q)<bo+(k*es+off)+(a.eval y).cells.toList.length):=by
      simp only[aoH]
      rcases aol hjk with hlt' | hgt
      ·have:(j+1)*es<=k*es:=afK _ om
       rw[ah2]at this
       omega
      have:(k+1)*es<=j*es:=afK _ om
      rw[ah2]at this
      omega
     rw[aeV hne]
     exact⟨Et _ _ ((hcs j q hj hq).1.mono (λ _ h=>.inl h) (λ _ _=>rfl)),(hcs j q hj hq).2⟩)
   intro next Q hnx
   refine Js (w':=w.setCells b (bo+(k*es+off)) (a.eval y).cells.toList) ?_ (hnx Go.undef _ _ _ (by rw[wS];exact Es.sI cH) (λ u z hu=>(keep u z (hu.kill hR ids)).sI Es cH) (.pure (.undef _)));simp only[execOp,ho,hxv,Sem.run_bind,hrun,Result.andThen,Sem.run_pure]
 exact(dg.ba h1).elim
end
end Go.Ab
namespace Go.Ab
section
variable {P:Program} {cfg:qX} {cx:Ctx} {H:Nat->Option cI} {D:Nat->Prop} {w:World} {I:Nat->Prop} {O:OM} {Sp:lk}
variable {cH:Nat} {o:Oper} {a:Act} {ρ:Operand->AV} {v:AV} {ups:ic} {r:ap0}
def Reads (P:Program) (w:World) (I:Nat->Prop) (size n:Nat) (g:Nat->AV) (x:Value):Prop:=
 ∃cells:Array Value,BN w I size n g cells/\∀w':World,w'.heap=w.heap->(Builtin.firstCells size n x).run P w'=.ok cells w'
variable {size:Nat} {g:Nat->AV}
theorem iE {n:Nat} {aa:Option Addr} {n' cap:Nat} (b off:Nat) (vs:Nat->Nat->Value) (ha:n≠0->aa=some ⟨b,off,none⟩) (hes:∀i,i<n->(g i).cells.length=size)
  (hm:∀i j,i<n->j<size->w.cell? ⟨b,off+(i*size+j),none⟩=some (vs i j)) (h1:∀i j,i<n->j<size->(vs i j).oneCell'=true) (hr:∀i j,i<n->j<size->eF w I (nth (g i).cells j) (vs i j)) (hs:0<size):
  Reads P w I size n g (.slice aa n' cap):=by
 refine⟨((List.range (n*size)).map (λ k=>vs (k / size) (k % size))).toArray,⟨by simp,λ i hi=>⟨hes i hi,λ j hj=>?_⟩⟩,λ w' hw=>?_⟩
 ·have hlt:i*size+j<n*size:=by
   have:(i+1)*size<=n*size:=afK _ hi;rw[ah2]at this;omega
  have e1:(i*size+j) / size=i:=by
   rw[akN,Nat.mul_add_div hs,Nat.div_eq_of_lt hj,ajT]
  have e2:(i*size+j) % size=j:=by
   rw[akN,aph];exact ao5 hj
  exact⟨by simpa[hlt,e1,e2]using hr i j hi hj,by simpa[hlt,e1,e2]using h1 i j hi hj⟩
 by_cases hn:n=0
 ·subst hn;cases aa with
  | none=>simp[Builtin.firstCells]
  | some aa=>simp[Builtin.firstCells,loadCells,loadCellsFrom]
 rw[ha hn];simp only[Builtin.firstCells];have:=run_loadCells_list (P:=P) w' ⟨b,off,none⟩ ((List.range (n*size)).map (λ k=>vs (k / size) (k % size))) (λ k u hk=>by
  have hlt:k<n*size:=by
   rcases aiZ k (n*size)with h | h
   ·exact h
   simp[h]at hk
  simp[hlt]at hk;rw[<- hk,Addr.add_mid,cell?_of_heap (w:=w) (w':=w') (by rw[hw])];have h1:k / size<n:=(anQ hs).2 hlt;have h2:k % size<size:=anZ _ hs;have:=hm _ _ h1 h2;rwa [amb]at this)
 simpa using this
def Tw {es n:Nat} {full:Bool} {x:Value} (h:eF w I (.sl es n full g) x) (he:Il es n size=true) (hs:0<size):Reads P w I size n g x:=by
 cases h with
 | sl b off vs hcap hfull ha hes hm h11 hr=>
  by_cases hn:n=0
  ·subst hn;exact iE b off vs (λ h=>absurd rfl h) (λ i hi=>absurd hi om) (λ i j hi=>absurd hi om) (λ i j hi=>absurd hi om) (λ i j hi=>absurd hi om) hs
  have:=tg he hn;subst this;exact iE b off vs (λ h=>(ha h).1) hes hm h11 hr hs
def KY {m i n cap:Nat} {aa:Option Addr} {p:Own} {O':OM} {D':Nat->Prop} (hO:eV w I O' D' p (.row size m g)) (hi:i+n<=p.n) (hcap:n<=cap) (hs:0<size)
  (hpl:cap≠0->∃b bo sz,p.pl=some (b,bo,sz)/\aa=some ⟨b,bo+i*p.es,none⟩/\bo+(i+cap)*p.es<=sz):Reads P w I size n (lu i g) (.slice aa n cap):=by
 obtain⟨hn,hes,hlen,hpl'⟩:=hO;by_cases h0:n=0
 ·subst h0;exact iE 0 0 (λ _ _=>Go.undef) (λ h=>absurd rfl h) (λ i hi=>absurd hi om) (λ i j hi=>absurd hi om) (λ i j hi=>absurd hi om) (λ i j hi=>absurd hi om) hs
 obtain⟨b,bo,sz,h1,h2,h3⟩:=hpl om;rcases hpl' with⟨_,h4⟩ | ⟨b',la,sz',h4,hal,hle,hcs⟩
 ·rw[h1]at h4;cases h4
 rw[h1]at h4;cases h4;subst hn;refine iE b (bo+i*size) (λ k j=>cellAt w b (bo+((i+k)*size+j))) (λ _=>by rw[h2,hes]) (λ k hk=>by rw[wR];exact hlen _ om) (λ k j hk hj=>?_) (λ k j hk hj=>(hcs (i+k) j om hj).2) (λ k j hk hj=>?_) hs
 ·have e:bo+i*size+(k*size+j)=bo+((i+k)*size+j):=by rw[aip];omega
  rw[e];refine qa hal.al ?_;have:(i+k+1)*size<=p.n*size:=afK _ om;rw[ah2]at this;omega
 rw[wR];exact(hcs (i+k) j om hj).1
def run_append_grow {t t' e e' ty:TypeId} {i:TypeInfo} {z:Value} (hu:P.underlying t=some (.slice e)) (hu':P.underlying t'=some (.slice e')) (hi:P.info? e=some i) (hz:i.zero=some z)
  {base base':Option Addr} {cap n m c:Nat} {olds news:Array Value} (ho:∀w':World,w'.heap=w.heap->(Builtin.firstCells i.size n (.slice base n cap)).run P w'=.ok olds w')
  (hn:∀w':World,w'.heap=w.heap->(Builtin.firstCells i.size m (.slice base' m c)).run P w'=.ok news w') (hcap:cap<n+m) (hb:(n+m)*i.bytes<=140737488355328) (hb0:0<i.bytes):
  ∃c' rest,n+m<=c'/\rest=Builtin.zeroCells z.cells (c' - (n+m))/\(Builtin.append_ #[t,t'] ty #[.slice base n cap,.slice base' m c]).run P w=
   .ok (.slice (some ⟨w.heap.size,0,none⟩) (n+m) c') (w.drew.alloc (.cells (olds++news++rest) e)):=by
 refine⟨grownCap w (n+m) cap e,Builtin.zeroCells z.cells (grownCap w (n+m) cap e - (n+m)),grownCap_ge _ _ _ _,rfl,?_⟩;have hnm:n+m<=140737488355328:=af3 (ajS _ hb0) hb;have h1:¬ n+m<=cap:=by omega
 have h63':¬ (9223372036854775807<((n:Int)+(m:Int))):=by omega
 have h48':¬ (281474976710656<Builtin.nextslicecap (n+m) cap*i.bytes):=by have:=growslice_fits hcap hb;omega
 have ho':=ho w.drew rfl;have hn':=hn w.drew rfl;simp[Builtin.append_,run_underlying hu,run_underlying hu',sizeOf,typeInfo,zeroValue,hi,hz,Builtin.lenOf,h1,h63',h48',Question.forced,ho',hn',newRow,grownCap]
theorem oM {t t' e e' ty:TypeId} {i:TypeInfo} (hu:P.underlying t=some (.slice e)) (hu':P.underlying t'=some (.slice e')) (hi:P.info? e=some i)
  {base base':Option Addr} {cap n m c:Nat} {news:Array Value} (hn:(Builtin.firstCells i.size m (.slice base' m c)).run P w=.ok news w) (hcap:n+m<=cap) {w':World}
  (hst:∀ad,base=some ad->(storeCells (ad.add (n*i.size)) news.toList).run P w=.ok () w') (hno:base=none->w'=w):
  (Builtin.append_ #[t,t'] ty #[.slice base n cap,.slice base' m c]).run P w=.ok (.slice base (n+m) cap) w':=by
 cases base with
 | none=>
  have:=hno rfl;subst this;simp[Builtin.append_,run_underlying hu,run_underlying hu',sizeOf,typeInfo,hi,Builtin.lenOf,hcap,hn]
 | some ad=>
  have:=hst ad rfl;simp[Builtin.append_,run_underlying hu,run_underlying hu',sizeOf,typeInfo,hi,Builtin.lenOf,hcap,hn,this]
end
end Go.Ab
namespace Go.Ab
section
variable {P:Program} {cfg:qX} {cx:Ctx} {H:Nat->Option cI} {D:Nat->Prop} {w:World} {I:Nat->Prop} {O:OM} {Sp:lk}
variable {cH:Nat} {o:Oper} {a:Act} {ρ:Operand->AV} {v:AV} {ups:ic} {r:ap0}
variable {k:Nat}
def GD {n:Nat} (h:¬ k<n):Nat.blt k n=false:=by
 cases hb:Nat.blt k n with
 | false=>rfl
 | true=>exact absurd (by simpa using hb) h
variable {size:Nat} {g:Nat->AV} {h:Nat->AV}
def KZ {n m:Nat} {olds news rest:Array Value} (ho:BN w I size n g olds) (hn:BN w I size m h news):∀k,k<n+m->((appG n g h) k).cells.length=size/\
  ∀j,j<size->eF w I (nth ((appG n g h) k).cells j) ((olds++news++rest).getD (k*size+j) Go.undef)/\((olds++news++rest).getD (k*size+j) Go.undef).oneCell'=true:=by
 intro k hk;obtain⟨h1,h2⟩:=ho;obtain⟨h3,h4⟩:=hn;by_cases hkn:k<n
 ·have e:appG n g h k=g k:=by
   have:Nat.blt k n=true:=by simpa using hkn
   simp[appG,this]
  rw[e];refine⟨(h2 k hkn).1,λ j hj=>?_⟩;have hm:(k+1)*size<=n*size:=afK _ hkn;rw[ah2]at hm;have e2:(olds++news++rest).getD (k*size+j) Go.undef=olds.getD (k*size+j) Go.undef:=by
   have hlt:k*size+j<olds.size:=by omega
   simp[alZ hlt]
  rw[e2];exact(h2 k hkn).2 j hj
 have e:appG n g h k=h (k - n):=by
  have:Nat.blt k n=false:=GD hkn;simp[appG,this]
 rw[e];have hkm:k - n<m:=by omega
 refine⟨(h4 _ hkm).1,λ j hj=>?_⟩;have hm:(k - n+1)*size<=m*size:=afK _ hkm;rw[ah2]at hm;have hkk:k*size=n*size+(k - n)*size:=by rw[<- aip];congr 1;omega
 have e2:(olds++news++rest).getD (k*size+j) Go.undef=news.getD ((k - n)*size+j) Go.undef:=by
  have hge:olds.size<=k*size+j:=by omega
  have hlt2:(k - n)*size+j<news.size:=by omega
  have e3:k*size+j - olds.size=(k - n)*size+j:=by omega
  simp[aoy hge,e3,alZ hlt2]
 rw[e2];exact(h4 _ hkm).2 j hj
variable {e:TypeId}
def dh.adF (hR:Rel cfg cx H D w I O) (hn:¬ D cH) {x:Value} {c:Array Value} {ob:cI} {p:Own} (ids:ap0) {w1:World} (hw1:w1.heap=w.heap) (he1:eK w1 w) (hrun:(execOp a.eval o).run P w=.ok (.value x) (w1.alloc (.cells c e)))
  (hp:p.pl=some (w1.heap.size,0,c.size)) (lg:eV (w1.alloc (.cells c e)) I (ji (kill O ids) cH p) (xg D cH) p ob)
  (hv:∀I' O' D',O' cH=some p->cQ (w1.alloc (.cells c e)) I' O' D' v x):dh P cfg cx H D w I O cH o a v ((cH,some ob)::dead ids):=by
 intro next Q hnx
 have hR0:=hR.BO hw1 he1;have Jq:=hR0.drop ids;refine oy hrun (hnx x _ _ _ ?_ ?_ (hv I (ji (kill O ids) cH p) _ (by simp[ji])))
 ·rw[wS];exact Jq.push hn c e ob p hp lg
 intro u y hu;exact((hu.BO hw1 hR).drop hR0 ids).push Jq _ p hn
def dh.grown (hR:Rel cfg cx H D w I O) (hn:¬ D cH) (ids:ap0) {n m c':Nat} {olds news rest:Array Value} {e:TypeId} (ho:BN w I size n g olds) (hnw:BN w I size m h news)
  (hc':n+m<=c') (hrest:rest.size=(c' - (n+m))*size) (hr1:∀j,j<rest.size->(rest.getD j Go.undef).oneCell'=true) (hrun:(execOp a.eval o).run P w=.ok (.value (.slice (some ⟨w.heap.size,0,none⟩) (n+m) c')) (w.drew.alloc (.cells (olds++news++rest) e))):
  dh P cfg cx H D w I O cH o a (.bV cH 0 (n+m) false) ((cH,some (.row size (n+m) (appG n g h)))::dead ids):=by
 have hcells:=KZ (rest:=rest) ho hnw;have hsz:(olds++news++rest).size=c'*size:=by
  rw[anV,anV,ho.1,hnw.1,hrest,<- aip,<- aip];congr 1;omega
 have hle:(n+m)*size<=c'*size:=afK _ hc';refine dh.adF (p:=⟨size,n+m,some (w.drew.heap.size,0,(olds++news++rest).size)⟩) hR hn ids (w1:=w.drew) rfl (eK.heap rfl rfl rfl rfl) hrun rfl ?_ ?_
 ·have hone:∀j,j<(olds++news++rest).size->((olds++news++rest).getD j Go.undef).oneCell'=true:=λ j hj=>by
   have hsz2:(olds++news).size=(n+m)*size:=by rw[anV,ho.1,hnw.1,<- aip]
   rcases aiZ j ((n+m)*size)with hlt | hge
   ·rcases aj2 size with h0 | h0
    ·rw[h0,Nat.mul_zero]at hlt;exact absurd hlt (ag9 _)
    have q1:j / size<n+m:=aoz (by rw[akN];exact hlt);have:=((hcells _ q1).2 (j % size) (anZ _ h0)).2;rwa [amb]at this
   have e:(olds++news++rest).getD j Go.undef=rest.getD (j - (n+m)*size) Go.undef:=by
    rw[aiV, aiV, aoy om,hsz2]
   rw[e];exact hr1 _ (by rw[anV,hsz2]at hj;omega)
  refine⟨rfl,rfl,λ k hk=>(hcells k hk).1,.inr ⟨_,_,_,rfl,nH _ _ hone,by omega,λ k j hk hj=>?_⟩⟩;rw[ahq,kH];exact⟨eF.mono (w:=w) (λ _ h=>h) (λ b hb=>fZ (w:=w.drew) _ (hR.uX b hb)) ((hcells k hk).2 j hj).1,((hcells k hk).2 j hj).2⟩
 intro I' O' D' hO;refine .bV hO (by simp) hc' (λ h=>by cases h) (λ _=>⟨_,_,_,rfl,?_,?_⟩) (by simp;omega)
 ·simp
 simp only[ahq];omega
theorem RC {u:AV} {k:Nat->Nat->(Nat->AV)->Pg} {x:Value} (hR:Rel cfg cx H D w I O) (hx:cQ w I O D u x) (h:dg Sp H (Mf u k) v ups r):
  ∃es m g base c r',x=.slice base m c/\dg Sp H (k es m g) v ups r'/\∀size,Il es m size=true->0<size->Reads P w I size m g x:=by
 unfold Mf at h;split at h
 ·rename_i es n f g;have hp:=hx.xi;cases hp with
  | sl b off vs hcap hfull ha hes hm h1 hr=>exact⟨es,n,g,_,_,r,rfl,h,λ size he hs=>Tw (eF.sl b off vs hcap hfull ha hes hm h1 hr) he hs⟩
 ·rename_i ob i n f;obtain⟨obj,r',lg,h1⟩:=h.kg;obtain⟨p,hp,hO⟩:=hR.live lg;cases obj with
  | map=>exact(dg.ba h1).elim
  | box cs=>exact(dg.ba h1).elim
  | row es m g=>
   obtain⟨aa,cap,rfl,h2,h3,h4,h5⟩:=hx.jD hp;refine⟨es,n,lu i g,aa,cap,r',rfl,h1,λ size he hs=>?_⟩;by_cases hn:n=0
   ·subst hn;exact iE 0 0 (λ _ _=>Go.undef) (λ h=>absurd rfl h) (λ i hi=>absurd hi om) (λ i j hi=>absurd hi om) (λ i j hi=>absurd hi om) (λ i j hi=>absurd hi om) hs
   have:=tg he hn;subst this;exact KY hO h2 h3 hs h5
 exact(dg.ba h).elim
def aav {es:Nat} :Il es 0 size=true:=by unfold Il;cases Nat.beq es size<;>rfl
def K0 {ob:Nat} {x:cI} (h:H ob=some x):jJ H [(ob,some x)]=H:=by
 funext k;simp only[jJ,look];cases hb:Nat.beq ob k with
 | true=>have:=aeK hb;subst this;simp[h]
 | false=>rfl
def Oh (i:Nat) (g h:Nat->AV):Xe i 0 g h=g:=by
 funext j;unfold Xe;cases h1:Nat.ble i j with
 | false=>rfl
 | true=>
  have h1:=ahk h1;rw[GD om];rfl
def Oi {i j:Nat} (h1:i<=j) (h2:j<i+k):Xe i k g h j=h (j - i):=by
 unfold Xe;have a1:Nat.ble i j=true:=Nat.ble_eq_true_of_le h1;have a2:Nat.blt j (i+k)=true:=by simpa using h2
 rw[a1,a2];rfl
def Jt {i j:Nat} (hn:¬ (i<=j/\j<i+k)):Xe i k g h j=g j:=by
 unfold Xe;by_cases h1:i<=j
 ·rw[GD om];cases Nat.ble i j<;>rfl
 have a1:Nat.ble i j=false:=by
  cases hb:Nat.ble i j with
  | false=>rfl
  | true=>exact absurd (ahk hb) h1
 rw[a1];rfl
def Rel.aaw (hR:Rel cfg cx H D w I O) {ob es N i0 b bo sz:Nat} {g':Nat->AV} {p:Own} (hp:O ob=some p) (hO:eV w I O D p (.row es N g)) (hpl:p.pl=some (b,bo,sz)) (hpos:0<es) {cells:Array Value} (hcells:BN w I es k g' cells) (hle0:i0+k<=N):
  (storeCells ⟨b,bo+i0*es,none⟩ cells.toList).run P w=.ok () (w.setCells b (bo+i0*es) cells.toList)/\Rel cfg cx (jJ H [(ob,some (.row es N (Xe i0 k g g')))]) D (w.setCells b (bo+i0*es) cells.toList) I O/\
   ∀u z,cQ w I O D u z->cQ (w.setCells b (bo+i0*es) cells.toList) I O D u z:=by
 obtain⟨hn,adG,hlen,hpl' | ⟨b',la,sz',hpl',hal,hle,hcs⟩⟩:=hO
 ·rw[hpl]at hpl';cases hpl'.2
 rw[hpl]at hpl';cases hpl';have hmul:(i0+k)*es<=N*es:=afK _ hle0;rw[aip]at hmul;have hcsz:=hcells.1;have hone:∀j,j<cells.size->(cells.getD j Go.undef).oneCell'=true:=λ j hj=>by
  rw[hcsz]at hj;have h1:j / es<k:=(anQ hpos).2 hj;have h2:=((hcells.2 _ h1).2 (j % es) (anZ _ hpos)).2;rwa [amb]at h2
 have hst:=run_storeCells_cells (P:=P) b (bo+i0*es) cells.toList 0 w (λ j hj=>(hal (bo+i0*es+0+j) (by simp at hj;omega)).1) (λ j hj=>(hal (bo+i0*es+0+j) (by simp at hj;omega)).2)
  (λ u hu=>by
    obtain⟨j,hj,rfl⟩:=ahZ.1 hu
    have hj':j<cells.size:=by simpa using hj
    simpa[hj']using hone j hj')
 rw[ajT]at hst;have Og:=l6 hal (bo+i0*es) cells.toList (by simp;omega) (λ j hj=>by have hj':j<cells.size:=(by simpa using hj);simpa[hj']using hone j hj');obtain⟨_,hcell⟩:=iD hal.al (bo+i0*es) cells.toList (by simp;omega);obtain⟨Yw,PU⟩:=kh b cells.toList (bo+i0*es) w;have KX:∀b',I b'->(w.setCells b (bo+i0*es) cells.toList).heap[b']? = w.heap[b']? := λ b' hb=>PU b' (λ e=>hR.lz ob p b bo sz hp hpl (e ▸ hb));have keep:∀u z,cQ w I O D u z->cQ (w.setCells b (bo+i0*es) cells.toList) I O D u z:=λ u z hu=>hu.mono (λ _ h=>h) KX (λ _ _=>.inl rfl) (λ _ h=>h) hR.used;have Et:∀u z,eF w I u z->eF (w.setCells b (bo+i0*es) cells.toList) I u z:=λ u z hu=>hu.mono (λ _ h=>h) KX;refine⟨hst,hR.write (lB _ _ _ _) (.row es N (Xe i0 k g g')) hp hpl PU Yw ?_,keep⟩;refine⟨hn,adG,λ j hj=>?_,.inr ⟨b,bo,sz,hpl,Og,hle,λ j q hj hq=>?_⟩⟩
 ·by_cases hin:i0<=j/\j<i0+k
  ·rw[Oi hin.1 hin.2];exact(hcells.2 (j - i0) om).1
  rw[Jt hin];exact hlen j hj
 have hmj:(j+1)*es<=N*es:=afK _ hj;rw[ah2]at hmj;rw[hcell _ om];by_cases hin:i0<=j/\j<i0+k
 ·rw[Oi hin.1 hin.2];have q1:i0*es<=j*es:=afK _ hin.1;have q2:(j+1)*es<=(i0+k)*es:=afK _ hin.2;rw[ah2,aip]at q2;have q3:(j - i0)*es=j*es - i0*es:=Nat.sub_mul _ _ _;rw[afc (by simp;omega)];have e3:bo+(j*es+q) - (bo+i0*es)=(j - i0)*es+q:=by omega
  rw[e3];have hh:=(hcells.2 (j - i0) om).2 q hq;have e4:cells.toList.getD ((j - i0)*es+q) Go.undef=cells.getD ((j - i0)*es+q) Go.undef:=by
   have hlt:(j - i0)*es+q<cells.size:=by omega
   simp[hlt]
  rw[e4];exact⟨Et _ _ hh.1,hh.2⟩
 rw[Jt hin];rw[aeV ?_]
 ·exact⟨Et _ _ (hcs j q hj hq).1,(hcs j q hj hq).2⟩
 intro⟨r1,r2⟩;have r2:bo+(j*es+q)<bo+i0*es+cells.size:=by simpa using r2
 apply hin;constructor
 ·rcases aiZ j i0 with h | h
  ·have:(j+1)*es<=i0*es:=afK _ h;rw[ah2]at this;omega
  exact h
 rcases aiZ j (i0+k)with h | h
 ·exact h
 have:(i0+k)*es<=j*es:=afK _ h;rw[aip]at this;omega
theorem Oj (hR:Rel cfg cx H D w I O) {xd xs:Operand} {d s:AV} {t t' e e':TypeId} {ti:Gw} {i:TypeInfo} (hdr:cQ w I O D d (a.eval xd)) (hsr:cQ w I O D s (a.eval xs))
  (hu:P.underlying t=some (.slice e)) (hu':P.underlying t'=some (.slice e')) (hi:P.info? e=some i) (hsz:i.size=ti.size) (hpos:0<ti.size)
  (run:∀ {x' w'},(Builtin.append_ #[t,t'] o.type #[a.eval xd,a.eval xs]).run P w=.ok x' w'->(execOp a.eval o).run P w=.ok (.value x') w')
  (h:dg Sp H (Rr ti d s) v ups r):dh P cfg cx H D w I O cH o a v ups:=by
 unfold Rr at h;obtain⟨es',m,g',base',c',r1,hsv,h5,hreads⟩:=RC (P:=P) hR hsr h;obtain⟨hes',h6⟩:=h5.bK;obtain⟨news,hnews,yF⟩:=hreads ti.size hes' hpos;have yF:=yF w rfl;rw[hsv]at yF;rw[<- hsz]at yF;split at h6
 ·rename_i ob i0 n full;obtain⟨obj,_,lg,h7⟩:=h6.kg;obtain⟨p,hp,hO⟩:=hR.live lg;cases obj with
  | map=>exact(dg.ba h7).elim
  | box cs=>exact(dg.ba h7).elim
  | row es N g=>
   obtain⟨hes,h8⟩:=h7.bK;have hes:es=ti.size:=aeK hes;obtain⟨hle,h9⟩:=h8.rf;obtain⟨rfl,rfl⟩:=h9.ik;subst hes;have KT:p.es=ti.size:=hO.2.1;have hpn:p.n=N:=hO.1;obtain⟨aa,cap,hdv,a1,a2,a3,a4⟩:=hdr.jD hp;have hext:p.n<=i0+cap:=(hdv ▸ hdr).yD hp;have hcap:n+m<=cap:=by omega
   by_cases hz:cap=0
   ·have hm0:m=0:=by omega
    have hn0:n=0:=by omega
    subst hm0;have hce:news=#[]:=ajD (by have:=hnews.1;omega);rw[Oh];have hr:=oM (P:=P) (ty:=o.type) (base:=aa) hu hu' hi yF hcap (w':=w) (λ ad _=>by rw[hce];rfl) (λ _=>rfl);rw[<- hdv,<- hsv]at hr;intro next Q hnx
    refine oy (run hr) (hnx _ w I O (by rw[K0 lg];exact hR.sI cH) (λ u y hu=>hu.sI hR cH) ?_);have h2:=hdr.sI hR cH;rw[hdv]at h2;exact .bV hp om hcap (λ h=>by cases h) a4 hext
   obtain⟨b,bo,sz,hpl,VU,hcapz⟩:=a4 hz;have hR2:=hR;obtain⟨hst,Es,keep⟩:=hR.aaw (P:=P) (i0:=i0+n) (k:=m) hp hO hpl hpos hnews om;have hr:=oM (P:=P) (ty:=o.type) (base:=aa) hu hu' hi yF hcap (w':=w.setCells b (bo+(i0+n)*ti.size) news.toList) (λ ad had=>by
    rw[VU]at had;cases had;rw[KT,hsz,Addr.add_mid];have e1:bo+i0*ti.size+n*ti.size=bo+(i0+n)*ti.size:=by rw[aip];omega
    rw[e1];exact hst) (λ had=>by rw[VU]at had;cases had)
   rw[<- hdv,<- hsv]at hr;intro next Q hnx
   refine oy (run hr) (hnx _ _ I O (Es.sI cH) (λ u y hu=>(keep u y hu).sI Es cH) ?_);exact .bV hp om hcap (λ h=>by cases h) a4 hext
 exact(dg.ba h6).elim
end
end Go.Ab
namespace Go.Ab
section
variable {P:Program} {cfg:qX} {cx:Ctx} {H:Nat->Option cI} {D:Nat->Prop} {w:World} {I:Nat->Prop} {O:OM} {Sp:lk}
variable {cH:Nat} {o:Oper} {a:Act} {ρ:Operand->AV} {v:AV} {ups:ic} {r:ap0}
def VV {s:AV} {f:Int->Pg} {k:Pg} (h:¬ ∃kk n,s=.int kk n):ah4 s f k=k:=by
 cases s<;>first | rfl | exact absurd ⟨_,_,rfl⟩ h
theorem K1 {t t' e ty:TypeId} {i:TypeInfo} {z:Value} {kn kq:IntKind} (hu:P.underlying t=some (.slice e)) (hu':P.underlying t'=some (.int kn)) (hi:P.info? e=some i) (hz:i.zero=some z)
  {base:Option Addr} {k:Nat} (h0:0<k) (hs:0<i.size) (hb:k*i.bytes<=140737488355328) (hb0:0<i.bytes):
  ∃c' rest,0+k<=c'/\rest=Builtin.zeroCells z.cells (c' - (0+k))/\(Builtin.append_ #[t,t'] ty #[.slice base 0 0,.int kq k]).run P w=
   .ok (.slice (some ⟨w.heap.size,0,none⟩) (0+k) c') (w.drew.alloc (.cells (#[]++Builtin.zeroCells z.cells k++rest) e)):=by
 refine⟨grownCap w (0+k) 0 e,Builtin.zeroCells z.cells (grownCap w (0+k) 0 e - (0+k)),grownCap_ge _ _ _ _,rfl,?_⟩;have hnm:k<=140737488355328:=af3 (ajS _ hb0) hb;have hk:k≠0:=by omega
 have hw:IntKind.i64.wrap (k:Int)=k:=by rw[IntKind.wrap_i64];omega
 have h63':¬ (9223372036854775807<(k:Int)):=by omega
 have h48':¬ (281474976710656<Builtin.nextslicecap k 0*i.bytes):=by have:=growslice_fits (need:=k) (old:=0) h0 hb;omega
 have h48i:¬ (281474976710656<(k:Int)*(i.bytes:Int)):=by
  rw[<- anF];omega
 have hneg:¬ ((k:Int)<0):=by omega
 have hns:¬ (k*i.size=0):=Nat.mul_ne_zero hk om;have hold:(Builtin.firstCells i.size 0 (.slice base 0 0)).run P w.drew=.ok #[] w.drew:=by
  cases base with
  | none=>rfl
  | some a=>simp[Builtin.firstCells,loadCells,loadCellsFrom]
 simp[Builtin.append_,run_underlying hu,run_underlying hu',sizeOf,typeInfo,zeroValue,hi,hz,asInt,asIntOf,hw,hk,hneg,hns,h63',h48',h48i,Question.forced,hold,newRow,grownCap]
theorem MN (hc:ej P cfg) (hR:Rel cfg cx H D w I O) (hn:¬ D cH) {d:AV} {kk:IntKind} {k:Int} {t t':TypeId} {xd xs:Operand} (hdr:cQ w I O D d (a.eval xd)) (hsr:cQ w I O D (.int kk k) (a.eval xs))
  (run:∀ {x' w'},(Builtin.append_ #[t,t'] o.type #[a.eval xd,a.eval xs]).run P w=.ok x' w'->(execOp a.eval o).run P w=.ok (.value x') w')
  (h:dg Sp H (afS cfg cH t t' d k) v ups r):dh P cfg cx H D w I O cH o a v ups:=by
 unfold afS at h;obtain⟨ti',ht',h1⟩:=h.iT;obtain⟨tt,e,ti,p1,p2,p3,h2⟩:=h1.lZ;obtain⟨hu,i,z,hi,hz,hsz,hby,hzs⟩:=hc.slice p1 p2 p3;obtain⟨i',_,z',hi',_,Er,_,_,_,_,hzl,Jr,_⟩:=(hc.ty e ti p3).ex;rw[hi]at hi';cases hi';rw[hz]at Er;cases Er;obtain⟨_,dd,_,_,hud,_,_,_,_,_,_,_,hm⟩:=(hc.ty t' ti' ht').ex;split at h2
 ·rename_i kn es n full g hdd;rw[hdd]at hm;have hm:dd=.int kn:=hm;subst hm;obtain⟨c0,h3⟩:=h2.bK;obtain⟨c1,h4⟩:=h3.bK;obtain⟨c2,h5⟩:=h4.bK;obtain⟨c3,h6⟩:=h5.bK;obtain⟨⟨q0,q1⟩,h7⟩:=h6.rf;obtain⟨rfl,rfl⟩:=h7.ik;have c1:0<ti.size:=by simpa using c1
  have c2:0<ti.bytes:=by simpa using c2
  obtain⟨m,rfl⟩:=ahD (show 0<=k by omega);have hbig':m*ti.bytes<=140737488355328:=by
   have:((m*ti.bytes:Nat):Int)<=((140737488355328:Nat):Int):=by simpa[big]using q1
   exact_mod_cast this
  have hsv:=hsr.eP;have hp:=hdr.xi;generalize hdv:a.eval xd=dv at hp;unfold zf at c0;split at c0
  ·split at c0
   ·cases hp with
    | @sl _ _ _ _ aa cap b off vs hcap hfl ha af6 hm h11 hr=>
     have hcn:cap=0:=hfl rfl;subst hcn;obtain⟨c',rest,g1,g2,g3⟩:=K1 (P:=P) (w:=w) (ty:=o.type) (kq:=kk) (base:=aa) (k:=m) hu hud hi hz om om (by rw[hby];exact hbig') om;have hnew:BN w I ti.size m (λ _=>zeroOf ti) (Builtin.zeroCells z.cells m):=by
      have hzz:Builtin.zeroCells z.cells m=(Array.range (m*ti.size)).map (λ k=>z.cells[k % z.cells.size]!):=by unfold Builtin.zeroCells;rw[hzs]
      rw[hzz];refine⟨by simp,λ j hj=>?_⟩;rw[vU c3 hzl];refine⟨by rw[fa];exact hzl,λ q hq=>?_⟩;rw[oL z.cells m j q ti.size hzs hj hq];exact⟨ui _ _ ti.size hzl Jr q hq,oK _ _ ti.size Jr q hq⟩
     have hold:BN w I ti.size 0 (λ _=>zeroOf ti) #[]:=⟨by simp,λ k hk=>absurd hk (ag9 _)⟩;have key:=dh.grown (P:=P) (o:=o) (a:=a) (cH:=cH) (rest:=rest) hR hn [] hold hnew g1 (by rw[g2,size_zeroCells,hzs]) (by rw[g2];exact tL hzs (oK _ _ ti.size Jr)) (run (by rw[hdv,hsv];exact g3));have e3:appG 0 (λ _=>zeroOf ti) (λ _=>zeroOf ti)=(λ _=>zeroOf ti):=by
      funext k;simp[appG]
     rw[e3]at key;simpa[dead]using key
   cases c0
  cases c0
 exact(dg.ba h2).elim
theorem Yx (hc:ej P cfg) (hR:Rel cfg cx H D w I O) (hn:¬ D cH) {c:Call} (ho:o.op=.call c) (hcl:c.callee=.builtin .append) (hx:∀x∈c.args.toList,cQ w I O D (ρ x) (a.eval x))
  (h:dg Sp H (dV cfg cH (.call c) ρ) v ups r):dh P cfg cx H D w I O cH o a v ups:=by
 simp only[dV,hcl]at h;split at h
 ·rename_i d s t t' e1 e2;obtain⟨xd,xs,hargs,hd,hs⟩:=args2 e1;have hty:c.argTypes=#[t,t']:=by rw[<- akD];simpa using e2
  have hdr:cQ w I O D d (a.eval xd):=hd ▸ hx xd (by simp[hargs]);have hsr:cQ w I O D s (a.eval xs):=hs ▸ hx xs (by simp[hargs]);have run:∀ {x' w'},(Builtin.append_ #[t,t'] o.type #[a.eval xd,a.eval xs]).run P w=.ok x' w'->(execOp a.eval o).run P w=.ok (.value x') w':=by
   intro x' w' hr;simp only[execOp,ho,hcl,resolve,invoke,builtin,Sem.run_bind,Sem.run_pure,Result.andThen_ok,hargs,hty,apP,aiX,aoT,hr]
  by_cases hsi:∃kk n,s=.int kk n
  ·obtain⟨kk,n,rfl⟩:=hsi;exact MN hc hR hn hdr hsr run h
  rw[VV hsi]at h;obtain⟨tt',e',ti',q1,q2,q3,h1⟩:=h.lZ;obtain⟨tt,e,ti,p1,p2,p3,h2⟩:=h1.lZ;obtain⟨hpos,h3⟩:=h2.bK;obtain⟨hbp,h4⟩:=h3.bK;have hpos:0<ti.size:=by simpa using hpos
  have hbp:0<ti.bytes:=by simpa using hbp
  obtain⟨hu',_⟩:=hc.slice q1 q2 q3;obtain⟨hu,i,z,hi,hz,hsz,hby,hzs⟩:=hc.slice p1 p2 p3;obtain⟨i',_,z',hi',_,Er,_,_,_,_,hzl,Jr,_⟩:=(hc.ty e ti p3).ex;rw[hi]at hi';cases hi';rw[hz]at Er;cases Er;clear h h1 h2 h3;split at h4
  ·exact Oj hR hdr hsr hu hu' hi hsz hpos run h4
  rename_i hself;clear hself;unfold Te at h4;obtain⟨es',m,g',base',c',r1,hsv,h5,hreads⟩:=RC (P:=P) hR hsr h4;obtain⟨hes',h6⟩:=h5.bK;obtain⟨news,hnews,yF⟩:=hreads ti.size hes' hpos;rw[hsv]at yF;rw[<- hsz]at yF;clear h4 h5 hreads;split at h6
  ·rename_i es n full g;obtain⟨hfull,h7⟩:=h6.bK;have hes:Il es n ti.size=true:=by
    cases es with
    | zero=>
     simp only at h7;obtain⟨hz0,_⟩:=h7.bK;cases n with
     | zero=>exact aav
     | succ=>cases hz0
    | succ es1=>
     simp only at h7;exact h7.bK.1
   have hp:=hdr.xi;obtain⟨olds,holds,QM⟩:=Tw (P:=P) hp hes hpos;generalize hdv:a.eval xd=dv at hp QM;cases hp with
   | @sl _ _ _ _ aa cap b off vs hcap hfl ha af6 hm h11 hr=>
    have hcn:cap=n:=hfl hfull;subst hcn;rw[<- hsz]at QM;clear h6 hdr;have grow:∀(hm0:0<m) (hb:(cap+m)*ti.bytes<=140737488355328),∃c'' rest,cap+m<=c''/\(rest.size=(c'' - (cap+m))*ti.size/\∀j,j<rest.size->(rest.getD j Go.undef).oneCell'=true)/\
      (execOp a.eval o).run P w=.ok (.value (.slice (some ⟨w.heap.size,0,none⟩) (cap+m) c'')) (w.drew.alloc (.cells (olds++news++rest) e)):=by
     intro hm0 hb
     obtain⟨c'',rest,g1,g2,g3⟩:=run_append_grow (P:=P) (ty:=o.type) hu hu' hi hz QM yF om (by rw[hby];exact hb) om
     exact⟨c'',rest,g1,⟨by rw[g2,size_zeroCells,hzs],by rw[g2];exact tL hzs (oK _ _ ti.size Jr)⟩,run (by rw[hdv,hsv];exact g3)⟩
    have same:m=0->(execOp a.eval o).run P w=.ok (.value (.slice aa (cap+m) cap)) w:=by
     intro hm0;subst hm0;have hnz:news=#[]:=ajD (by have:=hnews.1;omega);refine run ?_;rw[hdv,hsv];exact oM hu hu' hi (yF w rfl) om (λ ad _=>by rw[hnz];rfl) (λ _=>rfl)
    cases hee:es with
    | zero=>
     rw[hee]at h7;simp only at h7;obtain⟨hz0,h8⟩:=h7.bK;have hcc:cap=0:=by cases hc0:cap with
      | zero=>rfl
      | succ=>rw[hc0]at hz0;cases hz0
     obtain⟨hbg,h9⟩:=h8.rf;obtain⟨rfl,rfl⟩:=h9.ik;by_cases hm0:m=0
     ·have hrun:=same hm0;subst hm0;intro next Q hnx
      have hR2:=hR.empty hn ti.size g';refine oy hrun (hnx _ w I _ hR2 (λ u y hu=>hu.place hR hn (λ _ _=>rfl)) ?_);rw[hcc];exact .bV (p:=⟨ti.size,0,none⟩) (by simp[ji]) (by simp) om (λ h=>by cases h) (λ h=>absurd rfl h) (ahU _)
     obtain⟨c'',rest,g1,g2,g3⟩:=grow om (by rw[hcc,ahq];simpa[big]using hbg);have ho0:BN w I ti.size 0 g' olds:=⟨by have:=holds.1;rw[hcc]at this;exact this,λ k hk=>absurd hk om⟩;rw[hcc]at g1 g2 g3;have key:=dh.grown (P:=P) (o:=o) (a:=a) hR hn [] (g:=g') ho0 hnews g1 g2.1 g2.2 g3;have e3:appG 0 g' g'=g':=by
      funext k;simp[appG]
     rw[e3]at key;simpa[dead]using key
    | succ es1=>
     rw[hee]at h7;simp only at h7;obtain⟨_,h8⟩:=h7.bK;obtain⟨hbg,rfl,rfl⟩:=h8.eZ;by_cases hm0:m=0
     ·refine dh.cT hR (same hm0) (.pure ?_);subst hm0;by_cases hc0:cap=0
      ·subst hc0;exact .sl 0 0 (λ _ _=>Go.undef) (afM _) (λ h=>by cases h) (λ h=>absurd rfl h) (λ i h=>absurd h om) (λ i j h=>absurd h om) (λ i j h=>absurd h om) (λ i j h=>absurd h om)
      have akn:=tg hes hc0;rw[akn]at af6 hm h11 hr;have e3:∀k,k<cap->appG cap g g' k=g k:=λ k hk=>by
       have:Nat.blt k cap=true:=by simpa using hk
       simp[appG,this]
      exact .sl b off vs om (λ h=>by cases h) (λ h=>ha om) (λ k hk=>by rw[e3 k om];exact af6 k om) (λ k j hk hj=>hm k j om hj) (λ k j hk hj=>h11 k j om hj) (λ k j hk hj=>by rw[e3 k om];exact hr k j om hj)
     obtain⟨c'',rest,g1,g2,g3⟩:=grow om (by simpa[big]using hbg);have hcells:=KZ (rest:=rest) holds hnews;have hsize:(olds++news++rest).size=c''*ti.size:=by
      rw[anV,anV,holds.1,hnews.1,g2.1,<- aip,<- aip];congr 1;omega
     have key:=dh.grown (P:=P) (o:=o) (a:=a) (cH:=cH) hR hn [] holds hnews g1 g2.1 g2.2 g3;intro next Q hnx
     have hR0:=Rel.BO (w:=w) (w':=w.drew) rfl (eK.heap rfl rfl rfl rfl) hR;have adH:∀b,I b->(w.drew.alloc (.cells (olds++news++rest) e)).heap[b]? = w.heap[b]? := λ b hb=>fZ (w:=w.drew) _ (hR.uX b hb);refine oy g3 (hnx _ _ (λ b=>I b\/b=w.heap.size) O ?_ ?_ (.pure ?_))
     ·rw[xh];have Jq:=(hR0.sI cH);exact { Jq with
       objs:=λ o ob p h1 h2=>((hR.sI cH).objs o ob p h1 h2).mono (λ _ h=>.inl h) adH (λ _ _=>.inl rfl) (λ _ h=>h) Jq.used (λ b bo sz hpl=>fZ (w:=w.drew) _ (hR.lt o p b bo sz h2 hpl))
       lz:=λ o p b bo sz h1 h2 h3=>by
        rcases h3 with h3 | h3
        ·exact hR.lz o p b bo sz h1 h2 h3
        have:=hR.lt o p b bo sz h1 h2;omega
       lt:=λ o p b bo sz h1 h2=>by rw[jQ];have:=hR.lt o p b bo sz h1 h2;exact Nat.lt_succ_of_lt this
       uX:=λ b h=>by
        rw[jQ]
        rcases h with h | h
        ·exact Nat.lt_succ_of_lt (hR.uX b h)
        subst h;exact ao6 _
       size:=by rw[jQ];exact Nat.le_succ_of_le hR.size
       env:=Jq.env.step (eK.alloc _ _)
       frame:=λ b h1 h2=>by rw[fZ (w:=w.drew) _ (ajM h1 hR.size)];exact hR.frame b h1 h2
       glob:=λ g cs h=>(hR.glob g cs h).mono (λ _ h=>.inl h) adH
       Jf:=λ b h=>.inl (hR.Jf b h)
       KQ:=λ b h=>by
        rcases h with h | h
        ·exact hR.KQ b h
        subst h;exact .inr (.inl hR.size) }
     ·intro u y hu;exact hu.mono (λ _ h=>.inl h) adH (λ _ _=>.inl rfl) (λ _ h=>.inl h) hR.used
     refine .sl w.heap.size 0 (λ k j=>(olds++news++rest).getD (k*ti.size+j) Go.undef) g1 (λ h=>by cases h) (λ _=>⟨rfl,.inr rfl⟩) (λ k hk=>(hcells k hk).1) (λ k j hk hj=>?_) (λ k j hk hj=>((hcells k hk).2 j hj).2) (λ k j hk hj=>((hcells k hk).2 j hj).1.mono (λ _ h=>.inl h) adH);have hlt:k*ti.size+j<(olds++news++rest).size:=by
      rw[hsize];have:(k+1)*ti.size<=c''*ti.size:=afK _ om;rw[ah2]at this;omega
     have:=ri (w:=w.drew) (olds++news++rest) e (k*ti.size+j);rw[ahq];refine Eq.trans this ?_;rw[aiV, ahY hlt];rfl
  ·rename_i ob k n full;obtain⟨obj,_,lg,h7⟩:=h6.kg;obtain⟨p,hp,hO⟩:=hR.live lg;cases obj with
   | map=>exact(dg.ba h7).elim
   | box cs=>exact(dg.ba h7).elim
   | row es n' g=>
    obtain⟨hes,h8⟩:=h7.bK;have hes:es=ti.size:=aeK hes;subst hes;obtain⟨hbg,h9⟩:=h8.rf;have hbg:(n+m)*ti.bytes<=140737488355328:=by simpa[big]using hbg
    obtain⟨aa,cap,hdv,hkn,hcap,hfl,hpl⟩:=hdr.jD hp;obtain⟨olds,holds,QM⟩:=KY (P:=P) hO hkn hcap hpos hpl;rw[<- hsz]at QM;have grow:∀(ids:ap0) (hm0:cap<n+m),dh P cfg cx H D w I O cH o a (.bV cH 0 (n+m) false) ((cH,some (.row ti.size (n+m) (appG n (lu k g) g')))::dead ids):=by
     intro ids hm0;obtain⟨c'',rest,g1,g2,g3⟩:=run_append_grow (P:=P) (ty:=o.type) hu hu' hi hz QM yF hm0 (by rw[hby];exact hbg) om;exact dh.grown (rest:=rest) hR hn ids holds hnews g1 (by rw[g2,size_zeroCells,hzs]) (by rw[g2];exact tL hzs (oK _ _ ti.size Jr)) (run (by rw[hdv,hsv];exact g3))
    have other:dh P cfg cx H D w I O cH o a (.bV cH 0 (n+m) false) [(cH,some (.row ti.size (n+m) (appG n (lu k g) g'))),(ob,none)]:=by
     by_cases hroom:n+m<=cap
     ·by_cases hcap0:cap=0
      ·have hn0:n=0:=by omega
       have hm0:m=0:=by omega
       subst hn0;subst hm0;have hnz:news=#[]:=ajD (by have:=hnews.1;omega);have hrun:=run (oM (P:=P) (ty:=o.type) hu hu' hi (base:=aa) (n:=0) (cap:=cap) (w':=w) (yF w rfl) om (λ ad _=>by rw[hnz];rfl) (λ _=>rfl) |> λ q=>by rw[hdv,hsv];exact q);intro next Q hnx
       have Jq:=hR.drop [ob];have hR2:=Jq.empty hn ti.size (appG 0 (lu k g) g');refine oy hrun (hnx _ w I _ (by rw[wS];exact hR2) (λ u y hu=>(hu.drop hR [ob]).place Jq hn (λ _ _=>rfl)) ?_);exact .bV (p:=⟨ti.size,0,none⟩) (by simp[ji]) (by simp) om (λ h=>by cases h) (λ h=>absurd hcap0 h) (ahU _)
      obtain⟨b,bo,sz,To,VU,hle⟩:=hpl hcap0;obtain⟨hpn,KT,hlen,hpl' | ⟨b',la,sz',hpl',hal,hle',hcs⟩⟩:=hO
      ·rw[To]at hpl';cases hpl'.2
      rw[To]at hpl';cases hpl';rw[KT]at VU hle;have anM:(k+cap)*ti.size=k*ti.size+cap*ti.size:=aip _ _ _;have ais:(n+m)*ti.size<=cap*ti.size:=afK _ hroom;rw[aip]at ais;have aoL:=hnews.1;have hst:=run_storeCells_cells (P:=P) b (bo+k*ti.size+n*ti.size) news.toList 0 w (λ j hj=>(hal _ (by simp at hj;omega)).1) (λ j hj=>(hal _ (by simp at hj;omega)).2)
       (λ u hu=>by
         obtain⟨q,hq,rfl⟩:=ahZ.1 hu
         have hq':q<news.size:=by simpa using hq
         have hdiv:q / ti.size<m:=(anQ hpos).2 om
         have:=((hnews.2 _ hdiv).2 (q % ti.size) (anZ _ hpos)).2
         rw[amb]at this
         simpa[hq']using this)
      rw[ajT]at hst;have hrun:=run (oM (P:=P) (ty:=o.type) hu hu' hi (base:=aa) (n:=n) (cap:=cap) (w':=w.setCells b (bo+k*ti.size+n*ti.size) news.toList) (yF w rfl) hroom
       (λ ad had=>by
         rw[VU]at had
         cases had
         rw[Addr.add_mid,hsz]
         exact hst) (λ hno=>by rw[VU]at hno;cases hno) |> λ q=>by rw[hdv,hsv];exact q)
      have Og:=(l6 hal (bo+k*ti.size+n*ti.size) news.toList (by simp;omega) (λ q hq=>by
       have hq':q<news.size:=by simpa using hq
       have hdiv:q / ti.size<m:=(anQ hpos).2 om;have:=((hnews.2 _ hdiv).2 (q % ti.size) (anZ _ hpos)).2;rw[amb]at this;simpa[hq']using this)).up (la:=bo+k*ti.size) om
      obtain⟨_,hcell⟩:=iD hal.al (bo+k*ti.size+n*ti.size) news.toList (by simp;omega);obtain⟨Yw,PU⟩:=kh b news.toList (bo+k*ti.size+n*ti.size) w;have hnI:=hR.lz ob p b bo sz hp To;have KX:∀b',I b'->(w.setCells b (bo+k*ti.size+n*ti.size) news.toList).heap[b']? = w.heap[b']? := λ b' hb=>PU b' (λ e=>hnI (e ▸ hb));have Jq:=hR.drop [ob];have hfree:∀o1 p1 b1 Jg Jh,kill O [ob] o1=some p1->p1.pl=some (b1,Jg,Jh)->b1≠b:=by
       intro o1 p1 b1 Jg Jh w1 w2;unfold kill at w1;by_cases hne:o1∈[ob]
       ·simp[hne]at w1
       rw[aeV hne]at w1;exact hR.inj o1 ob p1 p b1 Jg Jh b bo sz w1 hp w2 To (by simpa using hne)
      have happ:=KZ (rest:=#[]) holds hnews;have hR2:=Jq.place hn (w':=w.setCells b (bo+k*ti.size+n*ti.size) news.toList) (lB _ _ _ _) (.row ti.size (n+m) (appG n (lu k g) g')) ⟨ti.size,n+m,some (b,bo+k*ti.size,sz)⟩ rfl PU Yw (hR.lt ob p b bo sz hp To) (hR.new ob p b bo sz hp To) hnI hfree (by
       refine⟨rfl,rfl,λ q hq=>(happ q hq).1,.inr ⟨_,_,_,rfl,Og,?_,λ q j hq hj=>?_⟩⟩
       ·rw[aip];omega
       have hq2:(q+1)*ti.size<=(n+m)*ti.size:=afK _ hq
       rw[ah2,aip]at hq2
       rw[hcell _ om]
       by_cases hqn:q<n
       ·have hq3:(q+1)*ti.size<=n*ti.size:=afK _ hqn
        rw[ah2]at hq3
        rw[aeV om]
        have e3:appG n (lu k g) g' q=g (k+q):=by
         have:Nat.blt q n=true:=by simpa using hqn
         simp[appG,this,wR]
        rw[e3]
        have e4:bo+k*ti.size+(q*ti.size+j)=bo+((k+q)*ti.size+j):=by rw[aip];omega
        rw[e4]
        have:=hcs (k+q) j om hj
        exact⟨this.1.mono (λ _ h=>h) KX,this.2⟩
       have hq3:n*ti.size<=q*ti.size:=afK _ om
       rw[afc (by simp;omega)]
       have e3:appG n (lu k g) g' q=g' (q - n):=by
        have:Nat.blt q n=false:=GD hqn
        simp[appG,this]
       rw[e3]
       have hqq:q*ti.size=n*ti.size+(q - n)*ti.size:=by rw[<- aip];congr 1;omega
       have e4:bo+k*ti.size+(q*ti.size+j) - (bo+k*ti.size+n*ti.size)=(q - n)*ti.size+j:=by omega
       rw[e4]
       have hlt:(q - n)*ti.size+j<news.size:=by omega
       have:=(hnews.2 (q - n) om).2 j hj
       simp[hlt]at this
       simp[hlt]
       exact⟨this.1.mono (λ _ h=>h) KX,this.2⟩)
      intro next Q hnx
      refine oy hrun (hnx _ _ I _ (by rw[wS];exact hR2) (λ u y hu=>(hu.drop hR [ob]).place Jq hn KX) ?_);rw[VU];refine .bV (p:=⟨ti.size,n+m,some (b,bo+k*ti.size,sz)⟩) (by simp[ji]) (by simp) hroom (λ h=>by cases h) (λ _=>⟨_,_,_,rfl,by simp,?_⟩) (by simp;omega);simp only[ahq];omega
     exact grow [ob] om
    obtain⟨rfl,rfl⟩:=h9.ik;exact other
  exact(dg.ba h6).elim
 exact(dg.ba h).elim
theorem VW {u:AV} {k:Nat->Nat->(Nat->AV)->Pg} {x:Value} (hR:Rel cfg cx H D w I O) (hx:cQ w I O D u x) (h:dg Sp H (Mf u k) v ups r):
  ∃es n g base c r',x=.slice base n c/\dg Sp H (k es n g) v ups r'/\∀size,Il es n size=true->0<size->∀q,q<=n->Reads P w I size q g x:=by
 unfold Mf at h;split at h
 ·rename_i es n f g;have hp:=hx.xi;cases hp with
  | sl b off vs hcap hfull ha hes hm h1 hr=>
   refine⟨es,n,g,_,_,r,rfl,h,λ size he hs q hq=>?_⟩;by_cases hn:n=0
   ·have hq:q=0:=by omega
    subst hq;exact iE 0 0 (λ _ _=>Go.undef) (λ h=>absurd rfl h) (λ i hi=>absurd hi om) (λ i j hi=>absurd hi om) (λ i j hi=>absurd hi om) (λ i j hi=>absurd hi om) hs
   have:=tg he hn;subst this;exact iE b off vs (λ _=>(ha hn).1) (λ i hi=>hes i om) (λ i j hi=>hm i j om) (λ i j hi=>h1 i j om) (λ i j hi=>hr i j om) hs
 ·rename_i ob i n f;obtain⟨obj,r',lg,h1⟩:=h.kg;obtain⟨p,hp,hO⟩:=hR.live lg;cases obj with
  | map=>exact(dg.ba h1).elim
  | box cs=>exact(dg.ba h1).elim
  | row es m g=>
   obtain⟨aa,cap,rfl,h2,h3,h4,h5⟩:=hx.jD hp;refine⟨es,n,lu i g,aa,cap,r',rfl,h1,λ size he hs q hq=>?_⟩;by_cases hn:n=0
   ·have hq:q=0:=by omega
    subst hq;exact iE 0 0 (λ _ _=>Go.undef) (λ h=>absurd rfl h) (λ i hi=>absurd hi om) (λ i j hi=>absurd hi om) (λ i j hi=>absurd hi om) (λ i j hi=>absurd hi om) hs
   have:=tg he hn;subst this;obtain⟨cells,hc1,hc2⟩:=KY (P:=P) (n:=q) (cap:=cap) (aa:=aa) hO om om hs h5;exact⟨cells,hc1,λ w' hw=>by have:=hc2 w' hw;cases aa<;>exact this⟩
 exact(dg.ba h).elim
theorem adI (hc:ej P cfg) (hR:Rel cfg cx H D w I O) {c:Call} (ho:o.op=.call c) (hcl:c.callee=.builtin .copy) (hx:∀x∈c.args.toList,cQ w I O D (ρ x) (a.eval x))
  (h:dg Sp H (dV cfg cH (.call c) ρ) v ups r):dh P cfg cx H D w I O cH o a v ups:=by
 simp only[dV,hcl]at h;split at h
 ·rename_i d s t t' e1 e2;obtain⟨xd,xs,hargs,hd,hs⟩:=args2 e1;have hty:c.argTypes=#[t,t']:=by rw[<- akD];simpa using e2
  have hdr:cQ w I O D d (a.eval xd):=hd ▸ hx xd (by simp[hargs]);have hsr:cQ w I O D s (a.eval xs):=hs ▸ hx xs (by simp[hargs]);obtain⟨tt',e',ti',q1,q2,q3,h1⟩:=h.lZ;obtain⟨tt,e,ti,p1,p2,p3,h2⟩:=h1.lZ;obtain⟨hpos,h4⟩:=h2.bK;have hpos:0<ti.size:=by simpa using hpos
  obtain⟨hu,i,z,hi,hz,hsz,hby,hzs⟩:=hc.slice p1 p2 p3;have run:∀ {x' w'},(Builtin.copy_ #[t,t'] o.type #[a.eval xd,a.eval xs]).run P w=.ok x' w'->(execOp a.eval o).run P w=.ok (.value x') w':=by
   intro x' w' hr;simp only[execOp,ho,hcl,resolve,invoke,builtin,Sem.run_bind,Sem.run_pure,Result.andThen_ok,hargs,hty,apP,aiX,aoT,hr]
  clear h h1 h2;unfold ZV at h4;obtain⟨es',m,g',base',c',r1,hsv,h5,hreads⟩:=VW (P:=P) hR hsr h4;obtain⟨hes',h6⟩:=h5.bK;clear h4 h5;split at h6
  ·rename_i ob i0 n full;obtain⟨obj,r',lg,h7⟩:=h6.kg;obtain⟨p,hp,hO⟩:=hR.live lg;cases obj with
   | map=>exact(dg.ba h7).elim
   | box cs=>exact(dg.ba h7).elim
   | row es N g=>
    obtain⟨aa,cap,hdv,a1,a2,a3,a4⟩:=hdr.jD hp;obtain⟨hes,h8⟩:=h7.bK;have hes:es=ti.size:=aeK hes;obtain⟨rfl,rfl⟩:=h8.ik;obtain⟨cells,hcells,hrd⟩:=hreads ti.size hes' hpos (Nat.min m n) (agm _ _);have hrd:=hrd w rfl;rw[hsv,<- hsz]at hrd;have hkn:Nat.min m n<=n:=Nat.min_le_right _ _;generalize hk:Nat.min m n=k at hcells hrd hkn;have ait:∀ {w'},(∀ad,aa=some ad->(storeCells ad cells.toList).run P w=.ok () w')->(aa=none->w'=w)->(Builtin.copy_ #[t,t'] o.type #[a.eval xd,a.eval xs]).run P w=.ok (goInt k) w':=by
     intro w' hw1 hw2;rw[hdv,hsv];cases aa with
     | none=>
      have:=hw2 rfl;subst this;simp[Builtin.copy_,run_underlying hu,sizeOf,typeInfo,hi,Builtin.lenOf,hk,hrd]
     | some ad=>
      have:=hw1 ad rfl;simp[Builtin.copy_,run_underlying hu,sizeOf,typeInfo,hi,Builtin.lenOf,hk,hrd,this]
    by_cases hk0:k=0
    ·subst hk0;have hce:cells=#[]:=ajD (by have:=hcells.1;omega);have hrun:=run (ait (w':=w) (λ ad _=>by rw[hce];rfl) (λ _=>rfl));rw[Oh];intro next Q hnx
     have hR2:Rel cfg cx (jJ H [(ob,some (.row es N g))]) (xg D cH) w I O:=by
      rw[K0 lg];exact hR.sI cH
     exact oy hrun (hnx _ w I O hR2 (λ u y hu=>hu.sI hR cH) (.pure (.int _ _)))
    obtain⟨b,bo,sz,hpl,VU,hcapz⟩:=a4 om;obtain⟨hn,adG,hlen,hpl' | ⟨b',la,sz',hpl',hal,hle,hcs⟩⟩:=hO
    ·rw[hpl]at hpl';cases hpl'.2
    rw[hpl]at hpl';cases hpl';rw[adG]at VU hcapz;subst hes;have hmul:(i0+k)*ti.size<=N*ti.size:=afK _ om;rw[aip]at hmul;have hcsz:=hcells.1;have hone:∀j,j<cells.size->(cells.getD j Go.undef).oneCell'=true:=λ j hj=>by
     rw[hcsz]at hj;have h1:j / ti.size<k:=(anQ hpos).2 hj;have h2:=((hcells.2 _ h1).2 (j % ti.size) (anZ _ hpos)).2;rwa [amb]at h2
    have hst:=run_storeCells_cells (P:=P) b (bo+i0*ti.size) cells.toList 0 w (λ j hj=>(hal (bo+i0*ti.size+0+j) (by simp at hj;omega)).1) (λ j hj=>(hal (bo+i0*ti.size+0+j) (by simp at hj;omega)).2)
     (λ u hu=>by
       obtain⟨j,hj,rfl⟩:=ahZ.1 hu
       have hj':j<cells.size:=by simpa using hj
       simpa[hj']using hone j hj')
    rw[ajT]at hst;have hrun:=run (ait (w':=w.setCells b (bo+i0*ti.size) cells.toList) (λ ad h=>by rw[VU]at h;cases h;exact hst) (λ h=>by rw[VU]at h;cases h));have Og:=l6 hal (bo+i0*ti.size) cells.toList (by simp;omega) (λ j hj=>by have hj':j<cells.size:=(by simpa using hj);simpa[hj']using hone j hj');obtain⟨_,hcell⟩:=iD hal.al (bo+i0*ti.size) cells.toList (by simp;omega);obtain⟨Yw,PU⟩:=kh b cells.toList (bo+i0*ti.size) w;have KX:∀b',I b'->(w.setCells b (bo+i0*ti.size) cells.toList).heap[b']? = w.heap[b']? := λ b' hb=>PU b' (λ e=>hR.lz ob p b bo sz hp hpl (e ▸ hb));have keep:∀u z,cQ w I O D u z->cQ (w.setCells b (bo+i0*ti.size) cells.toList) I O D u z:=λ u z hu=>hu.mono (λ _ h=>h) KX (λ _ _=>.inl rfl) (λ _ h=>h) hR.used;have Et:∀u z,eF w I u z->eF (w.setCells b (bo+i0*ti.size) cells.toList) I u z:=λ u z hu=>hu.mono (λ _ h=>h) KX;have Es:=hR.write (lB _ _ _ _) (.row ti.size N (Xe i0 k g g')) hp hpl PU Yw (by
     refine⟨hn,adG,λ j hj=>?_,.inr ⟨b,bo,sz,hpl,Og,hle,λ j q hj hq=>?_⟩⟩
     ·by_cases hin:i0<=j/\j<i0+k
      ·rw[Oi hin.1 hin.2]
       exact(hcells.2 (j - i0) om).1
      rw[Jt hin]
      exact hlen j hj
     have hmj:(j+1)*ti.size<=N*ti.size:=afK _ hj
     rw[ah2]at hmj
     rw[hcell _ om]
     by_cases hin:i0<=j/\j<i0+k
     ·rw[Oi hin.1 hin.2]
      have q1:i0*ti.size<=j*ti.size:=afK _ hin.1
      have q2:(j+1)*ti.size<=(i0+k)*ti.size:=afK _ hin.2
      rw[ah2,aip]at q2
      have q3:(j - i0)*ti.size=j*ti.size - i0*ti.size:=Nat.sub_mul _ _ _
      rw[afc (by simp;omega)]
      have e3:bo+(j*ti.size+q) - (bo+i0*ti.size)=(j - i0)*ti.size+q:=by omega
      rw[e3]
      have hh:=(hcells.2 (j - i0) om).2 q hq
      have e4:cells.toList.getD ((j - i0)*ti.size+q) Go.undef=cells.getD ((j - i0)*ti.size+q) Go.undef:=by
       have hlt:(j - i0)*ti.size+q<cells.size:=by omega
       simp[hlt]
      rw[e4]
      exact⟨Et _ _ hh.1,hh.2⟩
     rw[Jt hin]
     rw[aeV ?_]
     ·exact⟨Et _ _ (hcs j q hj hq).1,(hcs j q hj hq).2⟩
     intro⟨r1,r2⟩
     have r2:bo+(j*ti.size+q)<bo+i0*ti.size+cells.size:=by simpa using r2
     apply hin
     constructor
     ·rcases aiZ j i0 with h | h
      ·have:(j+1)*ti.size<=i0*ti.size:=afK _ h
       rw[ah2]at this
       omega
      exact h
     rcases aiZ j (i0+k)with h | h
     ·exact h
     have:(i0+k)*ti.size<=j*ti.size:=afK _ h
     rw[aip]at this
     omega)
    intro next Q hnx
    exact oy hrun (hnx _ _ I O (Es.sI cH) (λ u z hu=>(keep u z hu).sI Es cH) (.pure (.int _ _)))
  exact(dg.ba h6).elim
 exact(dg.ba h).elim
end
end Go.Ab
namespace Go.Ab
section
variable {P:Program} {cfg:qX} {cx:Ctx} {H:Nat->Option cI} {D:Nat->Prop} {w:World} {I:Nat->Prop} {O:OM} {Sp:lk}
variable {cH:Nat} {o:Oper} {a:Act} {ρ:Operand->AV} {v:AV} {ups:ic} {r:ap0}
def Tx (g:Nat->AV) (ns:apU):∀(k i:Nat) (s:ByteArray),k+i=ns.length->(∀j,i<=j->j<ns.length->g j=.int .u8 (ns.getD j 0))->BJ k i g s=(ns.drop i).foldl (λ r n=>r.push (UInt8.ofNat n.toNat)) s:=by
 intro k;induction k with
 | zero=>intro i s h _;rw[ajU om];rfl
 | succ k ih=>
  intro i s h hg;rw[show ns.drop i=ns.getD i 0::ns.drop (i+1) by rw[aoN om,ad7,aeA om];rfl];simp only[BJ,anC];rw[hg i (afM _) om];exact ih (i+1) _ om (λ j hj hj'=>hg j om hj')
theorem aax (hc:ej P cfg) (hR:Rel cfg cx H D w I O) {src dst:TypeId} {x:Operand} (ho:o.op=.convert src dst x) (hx:cQ w I O D (ρ x) (a.eval x)) {td:Gw} (hd:look cfg.ty dst=some td) (hs:afQ td.desc=true)
  (h:dg Sp H (Ru cfg src (ρ x)) v ups r):dh P cfg cx H D w I O cH o a v ups:=by
 unfold Ru at h;obtain⟨tt,e,ei,p1,p2,p3,h1⟩:=h.lZ;obtain⟨hu8,h2⟩:=h1.bK;obtain⟨hu,i,z,hi,hiz,hsz,_⟩:=hc.slice p1 p2 p3;obtain⟨es,n,g,base,c,r1,hxv,h3,hreads⟩:=RC (P:=P) hR hx h2;obtain⟨hes,h4⟩:=h3.bK;obtain⟨hall,h5⟩:=h4.rf;obtain⟨rfl,rfl⟩:=h5.dp;obtain⟨cells,hcells,hrd⟩:=hreads 1 hes om;have hue:P.underlying e=some (.int .u8):=by
  obtain⟨_,d,_,_,hud,_,_,_,_,_,_,_,hm⟩:=(hc.ty e ei p3).ex;unfold u8D at hu8;split at hu8
  ·rename_i hdd;rw[hdd]at hm;have hm:d=.int .u8:=hm;rw[hud,hm]
  cases hu8
 have hdd:P.underlying dst=some .string:=by
  obtain⟨_,d,_,_,hud,_,_,_,_,_,_,_,hm⟩:=(hc.ty dst td hd).ex;unfold afQ at hs;split at hs
  ·rename_i hq;rw[hq]at hm;have hm:d=.string:=hm;rw[hud,hm]
  cases hs
 have Yy:∃ds,P.underlying src=some ds:=⟨_,hu⟩;let num:AV->Int:=λ u=>match u with | .int _ m=>m | _=>0
 have hg8:∀j,j<n->g j=.int .u8 (num (g j)):=λ j hj=>by
  have:=hall j hj;cases hgj:g j with
  | int k m=>rw[hgj]at this;cases k<;>first | rfl | cases this
  | _=>rw[hgj]at this;cases this
 obtain⟨ns,hns⟩:∃ns:apU,ns=(List.range n).map λ j=>num (g j):=⟨_,rfl⟩;have hnl:ns.length=n:=by rw[hns];simp
 have hng:∀j,j<n->ns.getD j 0=num (g j):=λ j hj=>by
  rw[hns,ad7,anW,aps hj];rfl
 have hce:cells=(ns.map (Value.int .u8)).toArray:=by
  apply Array.ext
  ·rw[hcells.1];simp[hnl]
  intro j h1 h2;have hj:j<n:=by have:=hcells.1;omega
  have h3:=((hcells.2 j hj).2 0 om).1;rw[hg8 j hj]at h3;have h4:eF w I (.int .u8 (num (g j))) (cells.getD (j*1+0) Go.undef):=h3;have h5:cells.getD (j*1+0) Go.undef=.int .u8 (num (g j)):=(cQ.pure (O:=λ _=>none) (D:=λ _=>False) h4).eP;rw[aoF,ajT]at h5;have h6:cells.getD j Go.undef=cells[j]:=by simp[h1]
  rw[h6]at h5;rw[h5];have:=hng j hj;rw[ad7,aeA om]at this;simp at this;simp[this]
 have hval:BJ n 0 g ByteArray.empty=ns.foldl (λ r n=>r.push (UInt8.ofNat n.toNat)) ByteArray.empty:=by
  have:=Tx g ns n 0 ByteArray.empty om (λ j _ hj=>by rw[hng j om];exact hg8 j om);rw[this,List.drop_zero]
 refine dh.cT (x:=.string (BJ n 0 g ByteArray.empty)) hR ?_ (.pure (.str _));rw[hval];simp only[execOp,ho,hxv,Sem.run_bind,run_convert_bytes_string w src dst e base n c hu hue hdd];cases base with
 | none=>
  have hn0:n=0:=by
   have h7:=hrd w rfl;rw[hxv]at h7;have h8:(#[]:Array Value)=cells:=by simpa[Builtin.firstCells]using h7
   have h9:=hcells.1;rw[<- h8]at h9;simpa using h9.symm
  have:ns=[]:=apq om;subst this;simp[Conv.bytesToString]
 | some ad=>
  have hload:(loadCells ad n).run P w=.ok (ns.map (Value.int .u8)).toArray w:=by
   have:=hrd w rfl;rw[hxv,hce]at this;have e1:Builtin.firstCells 1 n (.slice (some ad) n c)=loadCells ad (n*1):=rfl;rw[e1,aoF]at this;exact this
  rw[run_bytesToString w ad n c ns hload];rfl
def VX (hc:ej P cfg) (hR:Rel cfg cx H D w I O) {s d:TypeId} {x:Operand} (ho:o.op=.convert s d x) (hx:cQ w I O D (ρ x) (a.eval x))
  (h:dg Sp H (dV cfg cH (.convert s d x) ρ) v ups r):dh P cfg cx H D w I O cH o a v ups:=by
 simp only[dV]at h;obtain⟨ts,hs,h1⟩:=h.iT;obtain⟨td,hd,h2⟩:=h1.iT;obtain⟨_,ds,_,_,Yy,_⟩:=(hc.ty s ts hs).ex;obtain⟨_,dd,_,_,hud,_,_,_,_,_,_,_,hm⟩:=(hc.ty d td hd).ex;split at h2
 ·exact aax hc hR ho hx hd (by assumption) h2
 split at h2
 ·rename_i k k' n e1 e2;rw[e2]at hx;rw[e1]at hm;have hm:dd=.int k:=hm;subst hm;obtain⟨rfl,rfl⟩:=h2.dp;refine dh.cT (x:=.int k _) hR ?_ (.pure (.int _ _));simp[execOp,ho,hx.eP,convert,bG Yy,bG hud,Conv.intToInt]
 exact(dg.ba h2).elim
theorem aay (hc:ej P cfg) (hR:Rel cfg cx H D w I O) {c:Call} (ho:o.op=.call c) (hcl:c.callee=.builtin .clear) (hx:∀x∈c.args.toList,cQ w I O D (ρ x) (a.eval x))
  (h:dg Sp H (dV cfg cH (.call c) ρ) v ups r):dh P cfg cx H D w I O cH o a v ups:=by
 simp only[dV,hcl]at h;split at h
 ·rename_i ob i0 n full t e1 e2;obtain⟨x,hargs,hd⟩:∃x,c.args=#[x]/\ρ x=.bV ob i0 n full:=by
   have hl:c.args.toList.length=1:=by
    have:=ano List.length e1;simpa using this
   match hh:c.args.toList,hl with
   | [x],_=>
    refine⟨x,by rw[<- akD];simpa using hh,?_⟩
    rw[hh]at e1
    simpa using e1
  have hty:c.argTypes=#[t]:=by rw[<- akD];simpa using e2
  have hdr:cQ w I O D (.bV ob i0 n full) (a.eval x):=hd ▸ hx x (by simp[hargs]);obtain⟨tt,e,ti,p1,p2,p3,h1⟩:=h.lZ;obtain⟨hz,h2⟩:=h1.bK;obtain⟨hpos,_⟩:=Ao hz;obtain⟨hu,i,z,hi,hiz,hsz,hby,hzs⟩:=hc.slice p1 p2 p3;obtain⟨i',_,z',hi',_,Er,_,_,_,_,hzl,Jr,_⟩:=(hc.ty e ti p3).ex;rw[hi]at hi';cases hi';rw[hiz]at Er;cases Er;obtain⟨obj,_,lg,h3⟩:=h2.kg;obtain⟨p,hp,hO⟩:=hR.live lg;have run:∀ {x' w'},(Builtin.clear_ #[t] o.type #[a.eval x]).run P w=.ok x' w'->(execOp a.eval o).run P w=.ok (.value x') w':=by
   intro x' w' hr;simp only[execOp,ho,hcl,resolve,invoke,builtin,Sem.run_bind,Sem.run_pure,Result.andThen_ok,hargs,hty,apP,aiX,aoT,hr]
  cases obj with
  | map=>exact(dg.ba h3).elim
  | box cs=>exact(dg.ba h3).elim
  | row es N g=>
   obtain⟨hes,h4⟩:=h3.bK;have hes:es=ti.size:=aeK hes;obtain⟨rfl,rfl⟩:=h4.ik;subst hes;have KT:p.es=ti.size:=hO.2.1;have hpn:p.n=N:=hO.1;obtain⟨aa,cap,hdv,a1,a2,a3,a4⟩:=hdr.jD hp;by_cases hn0:n=0
   ·subst hn0;have hr:(Builtin.clear_ #[t] o.type #[a.eval x]).run P w=.ok (.tuple #[]) w:=by
     rw[hdv];cases aa<;>simp[Builtin.clear_,bG hu]
    intro next Q hnx
    refine oy (run hr) (hnx _ w I O (by rw[Oh,K0 lg];exact hR.sI cH) (λ u y hu=>hu.sI hR cH) (.pure (.undef _)))
   obtain⟨b,bo,sz,hpl,VU,hcapz⟩:=a4 om;have hcells:BN w I ti.size n (λ _=>zeroOf ti) ((Array.range (n*ti.size)).map (λ k=>z.cells[k % z.cells.size]!)):=by
    refine⟨by simp,λ j hj=>?_⟩;rw[vU hz hzl];refine⟨by rw[fa];exact hzl,λ q hq=>?_⟩;rw[oL z.cells n j q ti.size hzs hj hq];exact⟨ui _ _ ti.size hzl Jr q hq,oK _ _ ti.size Jr q hq⟩
   obtain⟨hst,Es,keep⟩:=hR.aaw (P:=P) (i0:=i0) (k:=n) hp hO hpl hpos hcells om;have hzc:Builtin.zeroCells z.cells n=(Array.range (n*ti.size)).map (λ k=>z.cells[k % z.cells.size]!):=by
    unfold Builtin.zeroCells;rw[hzs]
   have hr:(Builtin.clear_ #[t] o.type #[a.eval x]).run P w=.ok (.tuple #[]) (w.setCells b (bo+i0*ti.size) ((Array.range (n*ti.size)).map (λ k=>z.cells[k % z.cells.size]!)).toList):=by
    rw[hdv,VU,KT];rw[<- hzc]at hst ⊢;cases n with
    | zero=>exact absurd rfl hn0
    | succ n=>
     simp only[Builtin.clear_,apb,aoX,Sem.run_bind,Sem.run_pure,bG hu,zeroValue,typeInfo,program,Sem.run,hi,hiz,Result.andThen]at hst ⊢;rw[hst]
   intro next Q hnx
   exact oy (run hr) (hnx _ _ I O (Es.sI cH) (λ u y hu=>(keep u y hu).sI Es cH) (.pure (.undef _)))
 exact(dg.ba h).elim
end
end Go.Ab
namespace Go.Ab
section
variable {P:Program} {cfg:qX} {cx:Ctx} {H:Nat->Option cI} {D:Nat->Prop} {w:World} {I:Nat->Prop} {O:OM} {Sp:lk}
variable {cH:Nat} {o:Oper} {a:Act} {ρ:Operand->AV} {v:AV} {ups:ic} {r:ap0}
def cQ.uk {u:AV} {x:Value} (h:cQ w I O D u x) (hp:lY u=true):eF w I u x:=by
 cases h with
 | pure h=>exact h
 | _=>cases hp
def P2 {l:ap2} (h:tc l=true):∀j,j<l.length->lY (nth l j)=true:=by
 induction l with
 | nil=>intro j hj;cases hj
 | cons u l ih=>
  intro j hj;unfold tc at h;cases hv:lY u with
  | false=>simp[hv]at h
  | true=>
   simp only[hv]at h;cases j with
   | zero=>exact hv
   | succ j=>exact ih h j (by simpa using hj)
def Ap:∀(l:ap0) (x k j:Nat),pI l x k=some j->k<=j/\j - k<l.length/\dZ l (j - k)=x:=by
 intro l;induction l with
 | nil=>intro x k j h;cases h
 | cons y l ih=>
  intro x k j h;unfold pI at h;cases hb:Nat.beq y x with
  | true=>
   simp only[hb]at h;cases h;exact⟨afM _,by simp,by simp[dZ,aeK hb]⟩
  | false=>
   simp only[hb]at h;obtain⟨h1,h2,h3⟩:=ih x (k+1) j h;refine⟨by omega,by simp;omega,?_⟩;have:j - k=(j - (k+1))+1:=by omega
   rw[this];exact h3
def Ty:∀(sg:ap0) (k:ap9->Pg) (r:ap0),dg Sp H (Xg sg k) v ups r->∃obs r',dg Sp H (k obs) v ups r'/\obs.length=sg.length/\∀j,j<sg.length->∃x,hof obs j=some x/\H (dZ sg j)=some x:=by
 intro sg;induction sg with
 | nil=>intro k r h;exact⟨[],r,h,rfl,λ j hj=>by cases hj⟩
 | cons x sg ih=>
  intro k r h;simp only[Xg]at h;obtain⟨ob,r1,lg,h1⟩:=h.kg;obtain⟨obs,r2,h2,h3,h4⟩:=ih _ _ h1;refine⟨ob::obs,r2,h2,by simp[h3],λ j hj=>?_⟩;cases j with
  | zero=>exact⟨ob,rfl,lg⟩
  | succ j=>exact h4 j (by simpa using hj)
def l7 (O:OM) (sg:ap0):OM:=λ j=>if j<sg.length then O (dZ sg j)else none
variable {sg:ap0}
def tj (hR:Rel cfg cx H D w I O) (hlive:∀j,j<sg.length->∃x,H (dZ sg j)=some x) {o j:Nat} (h:pI sg o 0=some j):j<sg.length/\∃p,O o=some p/\l7 O sg j=some p:=by
 obtain⟨_,h2,h3⟩:=Ap sg o 0 j h;simp only[apm]at h2 h3;obtain⟨y,hy⟩:=hlive j h2;rw[h3]at hy;obtain⟨p,hp,_⟩:=hR.live hy;exact⟨h2,p,hp,by unfold l7;rw[afc h2,h3];exact hp⟩
theorem Tz (hR:Rel cfg cx H D w I O) (hlive:∀j,j<sg.length->∃x,H (dZ sg j)=some x) {u:AV} {k:AV->Pg} {r:ap0} (h:dg Sp H (ZW sg u k) v ups r):
  ∃u',dg Sp H (k u') v ups r/\∀(I':Nat->Prop) (_:∀b,I b->I' b) x,cQ w I O D u x->cQ w I' (l7 O sg) (λ o=>o<sg.length) u' x:=by
 have Ok:lY u=true->∀(I':Nat->Prop) (_:∀b,I b->I' b) x,cQ w I O D u x->cQ w I' (l7 O sg) (λ o=>o<sg.length) u x:=λ hp I' hI x hx=>.pure ((hx.uk hp).mono hI (λ _ _=>rfl));unfold ZW at h;split at h
 ·rename_i ob i off;cases hi:pI sg ob 0 with
  | none=>rw[hi]at h;exact(dg.ba h).elim
  | some j=>
   rw[hi]at h;obtain⟨h1,p,h2,h3⟩:=tj hR hlive hi;refine⟨_,h,λ I' hI x hx=>?_⟩;obtain⟨b,bo,sz,q1,q2,rfl⟩:=hx.lA h2;exact .ptr h3 q1 q2
 ·rename_i ob i n f;cases hi:pI sg ob 0 with
  | none=>rw[hi]at h;exact(dg.ba h).elim
  | some j=>
   rw[hi]at h;obtain⟨h1,p,h2,h3⟩:=tj hR hlive hi;refine⟨_,h,λ I' hI x hx=>?_⟩;obtain⟨aa,cap,rfl,q1,q2,q3,q4⟩:=hx.jD h2;exact .bV h3 q1 q2 q3 q4 (hx.yD h2)
 ·rename_i ob;cases hi:pI sg ob 0 with
  | none=>rw[hi]at h;exact(dg.ba h).elim
  | some j=>
   rw[hi]at h;obtain⟨h1,p,h2,h3⟩:=tj hR hlive hi;refine⟨_,h,λ I' hI x hx=>?_⟩;obtain⟨b,bo,sz,q1,rfl⟩:=hx.rb h2;exact .mref h3 q1
 obtain⟨hp,h⟩:=h.bK;exact⟨_,h,Ok hp⟩
theorem Ol (hR:Rel cfg cx H D w I O) (hlive:∀j,j<sg.length->∃x,H (dZ sg j)=some x):∀(l:ap2) (k:ap2->Pg) (r:ap0),dg Sp H (VF sg l k) v ups r->
  ∃l',dg Sp H (k l') v ups r/\l'.length=l.length/\∀j,j<l.length->∀(I':Nat->Prop) (_:∀b,I b->I' b) x,cQ w I O D (nth l j) x->cQ w I' (l7 O sg) (λ o=>o<sg.length) (nth l' j) x:=by
 intro l;induction l with
 | nil=>intro k r h;exact⟨[],h,rfl,λ j hj=>by cases hj⟩
 | cons u l ih=>
  intro k r h;simp only[VF]at h;obtain⟨u',h1,h2⟩:=Tz hR hlive h;obtain⟨l',h3,h4,h5⟩:=ih _ _ h1;refine⟨u'::l',h3,by simp[h4],λ j hj I' hI x hx=>?_⟩;cases j with
  | zero=>exact h2 I' hI x hx
  | succ j=>exact h5 j (by simpa using hj) I' hI x hx
def Om (hR:Rel cfg cx H D w I O) (hlive:∀j,j<sg.length->∃x,H (dZ sg j)=some x) {f:FuncId} {cs:ap2} {k:ap2->Pg} {r:ap0} (h:dg Sp H (VF sg cs k) v ups r):
  ∃cs',dg Sp H (k cs') v ups r/\∀(I':Nat->Prop) (_:∀b,I b->I' b) x,cQ w I O D (.fn f cs) x->cQ w I' (l7 O sg) (λ o=>o<sg.length) (.fn f cs') x:=by
 obtain⟨cs',h1,h2,h3⟩:=Ol hR hlive cs _ _ h;refine⟨cs',h1,λ I' hI x hx=>?_⟩;obtain⟨xs,rfl,hl,hr⟩:=hx.En;exact .fn (by rw[h2];exact hl) λ j hj=>h3 j om I' hI _ (hr j om)
theorem HF (hR:Rel cfg cx H D w I O) (hlive:∀j,j<sg.length->∃x,H (dZ sg j)=some x) {u:AV} {k:AV->ap0->Pg} (h:dg Sp H (Gy sg u k) v ups r):
  ∃u' ids r',dg Sp H (k u' ids) v ups r'/\∀x,cQ w I O D u x->cQ w (λ b=>I b\/yo O ids b) (l7 O sg) (λ o=>o<sg.length) u' x:=by
 have dflt:∀ {u:AV} {r:ap0},dg Sp H (PT fuel u k) v ups r->∃u' ids r',dg Sp H (k u' ids) v ups r'/\∀x,cQ w I O D u x->cQ w (λ b=>I b\/yo O ids b) (l7 O sg) (λ o=>o<sg.length) u' x:=by
  intro u r h;obtain⟨u',ids,r',h1,h2⟩:=(An hR fuel).1 _ _ _ _ _ h;exact⟨u',ids,r',h1,λ x hx=>.pure (h2 x hx)⟩
 unfold Gy at h;split at h
 ·rename_i ob i off;cases hi:pI sg ob 0 with
  | none=>rw[hi]at h;exact dflt h
  | some j=>
   rw[hi]at h;obtain⟨_,h2,h3⟩:=Ap sg ob 0 j hi;simp only[apm]at h2 h3;refine⟨_,_,r,h,λ x hx=>?_⟩;obtain⟨y,hy⟩:=hlive j h2;rw[h3]at hy;obtain⟨p,hp,_⟩:=hR.live hy;obtain⟨b,bo,sz,q1,q2,rfl⟩:=hx.lA hp;exact .ptr (by unfold l7;rw[afc h2,h3];exact hp) q1 q2
 ·rename_i ob i n f;cases hi:pI sg ob 0 with
  | none=>rw[hi]at h;exact dflt h
  | some j=>
   rw[hi]at h;obtain⟨_,h2,h3⟩:=Ap sg ob 0 j hi;simp only[apm]at h2 h3;refine⟨_,_,r,h,λ x hx=>?_⟩;obtain⟨y,hy⟩:=hlive j h2;rw[h3]at hy;obtain⟨p,hp,_⟩:=hR.live hy;obtain⟨aa,cap,rfl,q1,q2,q3,q4⟩:=hx.jD hp;exact .bV (by unfold l7;rw[afc h2,h3];exact hp) q1 q2 q3 q4 (hx.yD hp)
 ·rename_i ob;cases hi:pI sg ob 0 with
  | none=>rw[hi]at h;exact dflt h
  | some j=>
   rw[hi]at h;obtain⟨_,p,h2,h3⟩:=tj hR hlive hi;refine⟨_,_,r,h,λ x hx=>?_⟩;obtain⟨b,bo,sz,q1,rfl⟩:=hx.rb h2;exact .mref h3 q1
 ·rename_i f cs;cases hi:Xf sg (Mg cs)with
  | false=>rw[hi]at h;exact dflt h
  | true=>
   rw[hi]at h;obtain⟨cs',h1,h2⟩:=Om (f:=f) hR hlive h;exact⟨_,_,r,h1,λ x hx=>h2 _ (λ b hb=>.inl hb) x hx⟩
 ·rename_i cs;cases hi:Xf sg (Mg cs)with
  | false=>rw[hi]at h;exact dflt h
  | true=>
   rw[hi]at h;obtain⟨cs',h1,h2,h3⟩:=Ol hR hlive cs _ _ h;refine⟨_,_,r,h1,λ x hx=>?_⟩;obtain⟨xs,rfl,hl,hr⟩:=hx.nG;exact .agg (by rw[h2];exact hl) λ j hj=>h3 j om _ (λ b hb=>.inl hb) _ (hr j om)
 exact dflt h
theorem Eu (hR:Rel cfg cx H D w I O) (hlive:∀j,j<sg.length->∃x,H (dZ sg j)=some x):∀(l:ap2) (k:ap2->ap0->Pg) (r:ap0),dg Sp H (Al sg l k) v ups r->
  ∃l' ids r',dg Sp H (k l' ids) v ups r'/\l'.length=l.length/\∀j,j<l.length->∀x,cQ w I O D (nth l j) x->cQ w (λ b=>I b\/yo O ids b) (l7 O sg) (λ o=>o<sg.length) (nth l' j) x:=by
 intro l;induction l with
 | nil=>intro k r h;exact⟨[],[],r,h,rfl,λ j hj=>by cases hj⟩
 | cons u l ih=>
  intro k r h;simp only[Al]at h;obtain⟨u',i1,r1,h1,h2⟩:=HF hR hlive h;obtain⟨l',i2,r2,h3,h4,h5⟩:=ih _ _ h1;have fK:∀o p,l7 O sg o=some p->o<sg.length:=λ o p h=>by
   unfold l7 at h;split at h
   ·assumption
   cases h
  refine⟨u'::l',i1++i2,r2,h3,by simp[h4],λ j hj x hx=>?_⟩;cases j with
  | zero=>exact(h2 x hx).mono (λ b h=>h.elim .inl λ h=>.inr h.VP) (λ _ _=>rfl) (λ _ _=>.inl rfl) (λ _ h=>h) fK
  | succ j=>exact(h5 j (by simpa using hj) x hx).mono (λ b h=>h.elim .inl λ h=>.inr h.VQ) (λ _ _=>rfl) (λ _ _=>.inl rfl) (λ _ h=>h) fK
def BP:∀(l:ap0),lx l=true->∀i j,i<l.length->j<l.length->dZ l i=dZ l j->i=j:=by
 have mem:∀(l:ap0) (j:Nat),j<l.length->dZ l j∈l:=by
  intro l;induction l with
  | nil=>intro j hj;cases hj
  | cons x l ih=>intro j hj;cases j with
   | zero=>simp[dZ]
   | succ j=>exact ahV _ (ih j (by simpa using hj))
 intro l;induction l with
 | nil=>intro _ i j hi;cases hi
 | cons x l ih=>
  intro h i j hi hj he;unfold lx at h;cases hm:vR x l with
  | true=>simp[hm]at h
  | false=>
   simp only[hm]at h;have hx:=th hm;cases i with
   | zero=>cases j with
    | zero=>rfl
    | succ j=>simp only[dZ]at he;exact absurd (he ▸ mem l j (by simpa using hj)) hx
   | succ i=>cases j with
    | zero=>simp only[dZ]at he;exact absurd (he ▸ mem l i (by simpa using hi)) hx
    | succ j=>simp only[dZ]at he;rw[ih h i j (by simpa using hi) (by simpa using hj) he]
def mS:∀(l:ap0) (j:Nat),j<l.length->dZ l j∈l:=by
 intro l;induction l with
 | nil=>intro j hj;cases hj
 | cons x l ih=>intro j hj;cases j with
  | zero=>simp[dZ]
  | succ j=>exact ahV _ (ih j (by simpa using hj))
def Oo:∀(l:ap0) (x:Nat),x∈l->∃j,j<l.length/\dZ l j=x:=by
 intro l;induction l with
 | nil=>intro x h;cases h
 | cons y l ih=>
  intro x h;rcases ah0.1 h with h | h
  ·exact⟨0,by simp,h.symm⟩
  obtain⟨j,h1,h2⟩:=ih x h;exact⟨j+1,by simp;omega,h2⟩
def Iq:∀(l m:ap0),Ej l m=true->∀x∈l,x ∉ m:=by
 intro l;induction l with
 | nil=>intro m _ x hx;cases hx
 | cons y l ih=>
  intro m h x hx;unfold Ej at h;cases hm:vR y m with
  | true=>simp[hm]at h
  | false=>
   simp only[hm]at h;rcases ah0.1 hx with hx | hx
   ·subst hx;exact th hm
   exact ih m h x hx
theorem VY (hR:Rel cfg cx H D w I O) (hlive:∀j,j<sg.length->∃x,H (dZ sg j)=some x) {u:AV} {k:AV->Pg} {r:ap0} (h:dg Sp H (inv1 sg u k) v ups r):
  ∃u',dg Sp H (k u') v ups r/\∀(I':Nat->Prop) (_:∀b,I b->I' b) x,cQ w I O D u x->cQ w I' (l7 O sg) (λ o=>o<sg.length) u' x:=by
 have Ok:lY u=true->∀(I':Nat->Prop) (_:∀b,I b->I' b) x,cQ w I O D u x->cQ w I' (l7 O sg) (λ o=>o<sg.length) u x:=λ hp I' hI x hx=>.pure ((hx.uk hp).mono hI (λ _ _=>rfl));unfold inv1 at h;split at h
 ·rename_i ob i off;cases hi:pI sg ob 0 with
  | none=>rw[hi]at h;exact(dg.ba h).elim
  | some j=>
   rw[hi]at h;obtain⟨h1,p,h2,h3⟩:=tj hR hlive hi;refine⟨_,h,λ I' hI x hx=>?_⟩;obtain⟨b,bo,sz,q1,q2,rfl⟩:=hx.lA h2;exact .ptr h3 q1 q2
 ·rename_i ob i n f;cases hi:pI sg ob 0 with
  | none=>rw[hi]at h;exact(dg.ba h).elim
  | some j=>
   rw[hi]at h;obtain⟨h1,p,h2,h3⟩:=tj hR hlive hi;refine⟨_,h,λ I' hI x hx=>?_⟩;obtain⟨aa,cap,rfl,q1,q2,q3,q4⟩:=hx.jD h2;exact .bV h3 q1 q2 q3 q4 (hx.yD h2)
 ·rename_i ob;cases hi:pI sg ob 0 with
  | none=>rw[hi]at h;exact(dg.ba h).elim
  | some j=>
   rw[hi]at h;obtain⟨h1,p,h2,h3⟩:=tj hR hlive hi;refine⟨_,h,λ I' hI x hx=>?_⟩;obtain⟨b,bo,sz,q1,rfl⟩:=hx.rb h2;exact .mref h3 q1
 ·rename_i f cs;obtain⟨cs',h1,h2⟩:=Om (f:=f) hR hlive h;exact⟨_,h1,h2⟩
 obtain⟨hp,h⟩:=h.bK;exact⟨_,h,Ok hp⟩
theorem VZ (hR:Rel cfg cx H D w I O) (hlive:∀j,j<sg.length->∃x,H (dZ sg j)=some x):∀(l:ap2) (k:ap2->Pg) (r:ap0),dg Sp H (adk sg l k) v ups r->
  ∃l',dg Sp H (k l') v ups r/\l'.length=l.length/\∀j,j<l.length->∀(I':Nat->Prop) (_:∀b,I b->I' b) x,cQ w I O D (nth l j) x->cQ w I' (l7 O sg) (λ o=>o<sg.length) (nth l' j) x:=by
 intro l;induction l with
 | nil=>intro k r h;exact⟨[],h,rfl,λ j hj=>by cases hj⟩
 | cons u l ih=>
  intro k r h;simp only[adk]at h;obtain⟨u',h1,h2⟩:=VY hR hlive h;obtain⟨l',h3,h4,h5⟩:=ih _ _ h1;refine⟨u'::l',h3,by simp[h4],λ j hj I' hI x hx=>?_⟩;cases j with
  | zero=>exact h2 I' hI x hx
  | succ j=>exact h5 j (by simpa using hj) I' hI x hx
theorem V0 (hR:Rel cfg cx H D w I O) (hlive:∀j,j<sg.length->∃x,H (dZ sg j)=some x) {ob:cI} {k:cI->Pg} {r:ap0} (h:dg Sp H (ah8 sg ob k) v ups r):
  ∃ob',dg Sp H (k ob') v ups r/\∀(I':Nat->Prop) (_:∀b,I b->I' b) p,eV w I O D p ob->eV w I' (l7 O sg) (λ o=>o<sg.length) p ob':=by
 cases ob with
 | map=>exact⟨_,h,λ I' hI p hp=>hp⟩
 | box cs=>
  obtain⟨cs',h1,h2,h3⟩:=VZ hR hlive cs _ _ h;refine⟨_,h1,λ I' hI p hp=>?_⟩;obtain⟨q1,b,bo,sz,q2,q3,q4,q5⟩:=hp;exact⟨q1,b,bo,sz,q2,q3,by rw[h2];exact q4,λ j hj=>h3 j om I' hI _ (q5 j om)⟩
 | row es n g=>
  refine⟨_,h,λ I' hI p hp=>?_⟩;obtain⟨q1,q2,q3,q4⟩:=hp;refine⟨q1,q2,q3,?_⟩;rcases q4 with q4 | ⟨b,bo,sz,e1,e2,e3,e4⟩
  ·exact .inl q4
  exact .inr ⟨b,bo,sz,e1,e2,e3,λ i j hi hj=>⟨(e4 i j hi hj).1.mono hI (λ _ _=>rfl),(e4 i j hi hj).2⟩⟩
theorem TA (hR:Rel cfg cx H D w I O) (hlive:∀j,j<sg.length->∃x,H (dZ sg j)=some x):∀(l:ap9) (k:ap9->Pg) (r:ap0),dg Sp H (Xh sg l k) v ups r->
  ∃l',dg Sp H (k l') v ups r/\l'.length=l.length/\∀j x,hof l j=some x->∃y,hof l' j=some y/\∀(I':Nat->Prop) (_:∀b,I b->I' b) p,eV w I O D p x->eV w I' (l7 O sg) (λ o=>o<sg.length) p y:=by
 intro l;induction l with
 | nil=>intro k r h;exact⟨[],h,rfl,λ j x hx=>by cases hx⟩
 | cons ob l ih=>
  intro k r h;simp only[Xh]at h;obtain⟨y,h1,h2⟩:=V0 hR hlive h;obtain⟨l',h3,h4,h5⟩:=ih _ _ h1;refine⟨y::l',h3,by simp[h4],λ j x hx=>?_⟩;cases j with
  | zero=>cases hx;exact⟨y,rfl,h2⟩
  | succ j=>exact h5 j x hx
def RD:∀(f:Nat) (todo sg:ap0) (k:ap0->Pg) (r:ap0),dg Sp H (N0 f todo sg k) v ups r->∃sg' r',dg Sp H (k sg') v ups r':=by
 intro f;induction f with
 | zero=>intro todo sg k r h;exact(dg.ba h).elim
 | succ f ih=>
  intro todo sg k r h;cases todo with
  | nil=>exact⟨sg,r,h⟩
  | cons o todo=>
   simp only[N0]at h;cases hm:vR o sg with
   | true=>rw[hm]at h;exact ih _ _ _ _ h
   | false=>
    rw[hm]at h;cases h with
    | rd ho h=>exact ih _ _ _ _ h
theorem Rel.sub (hR:Rel cfg cx H D w I O) {ids:ap0} {obs:ap9} (hnd:lx sg=true) (hdj:Ej ids sg=true) (hl:obs.length=sg.length) (P3:∀j,j<sg.length->∃x y,hof obs j=some y/\H (dZ sg j)=some x/\∀p,eV w I O D p x->eV w (λ b=>I b\/yo O ids b) (l7 O sg) (λ o=>o<sg.length) p y):
  Rel cfg (DY w (λ b=>I b\/yo O ids b) (l7 O sg) obs.length) (hof obs) (λ o=>o<obs.length) w (λ b=>I b\/yo O ids b) (l7 O sg):=by
 have hsub:∀ {j p},l7 O sg j=some p->j<sg.length/\O (dZ sg j)=some p:=λ h=>by
  unfold l7 at h;split at h
  ·exact⟨by assumption,h⟩
  cases h
 have Ju:∀(l:ap9) (j:Nat),l.length<=j->hof l j=none:=by
  intro l;induction l with
  | nil=>intro j _;rfl
  | cons x l ih=>intro j hj;cases j with
   | zero=>simp at hj
   | succ j=>exact ih j (by simpa using hj)
 exact {
  dom:=λ j=>by
   unfold l7
   by_cases hj:j<sg.length
   ·obtain⟨x,y,h1,h2,_⟩:=P3 j hj
    obtain⟨p,hp,_⟩:=hR.live h2
    simp[hj,h1,hp]
   rw[aeV hj,Ju obs j om]
   simp
  used:=λ j p h=>by have:=(hsub h).1;omega
  objs:=λ j ob p h h'=>by
   obtain⟨h1,h2⟩:=hsub h'
   obtain⟨x,y,h3,h4,h5⟩:=P3 j h1
   rw[h]at h3
   cases h3
   rw[hl]
   exact h5 p (hR.objs _ _ p h4 h2)
  inj:=λ j j' p p' b bo sz b' la sz' h1 h2 h3 h4 h5=>by
   obtain⟨q1,q2⟩:=hsub h1
   obtain⟨q3,q4⟩:=hsub h2
   exact hR.inj _ _ p p' b bo sz b' la sz' q2 q4 h3 h4 (λ e=>h5 (BP sg hnd j j' q1 q3 e))
  lz:=λ j p b bo sz h1 h2 h3=>by
   obtain⟨q1,q2⟩:=hsub h1
   rcases h3 with h3 | ⟨o',p',la,sz',q3,q4,q5⟩
   ·exact hR.lz _ p b bo sz q2 h2 h3
   exact hR.inj _ o' p p' b bo sz b la sz' q2 q4 h2 q5 (λ e=>Iq ids sg hdj o' q3 (e ▸ mS sg j q1)) rfl
  lt:=λ j p b bo sz h1 h2=>hR.lt _ p b bo sz (hsub h1).2 h2
  uX:=(hR.freeze ids).uX
  size:=afM _
  frame:=λ _ _ _=>rfl
  env:=⟨eK.refl _,λ _ _ h=>h.elim⟩
  new:=λ j p b bo sz h1 h2=>.inr ⟨j,p,bo,sz,h1,h2⟩
  glob:=(hR.freeze ids).glob
  Jf:=λ _ h=>h
  KQ:=λ _ h=>.inl h
  NH:=λ _ _=>.inl rfl
  Dm:=λ _ h=>h }
end
end Go.Ab

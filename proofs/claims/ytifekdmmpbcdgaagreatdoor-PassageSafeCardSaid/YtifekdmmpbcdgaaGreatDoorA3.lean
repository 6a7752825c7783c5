/- A part of the proof. -/
import Derived.Test.YtifekdmmpbcdgaaGreatDoorA2
import Derived.RangeFuncLeaves
import Derived.RangeFuncNested
import Derived.LoopNIn
import Derived.Laws.Cover3
set_option linter.defProp false
set_option linter.unusedVariables false
set_option linter.unusedSimpArgs false
namespace Go.Ab
section
variable {P:Program} {cfg:qX} {cx:Ctx} {N:Nat}
def kJ (ρ:List (Nat×Option Nat)) (H':ic) (O:OM):OM:=λ o'=>match hget H' o' with
 | none=>none
 | some y=>match oJ ρ o' with
  | some o=>O o
  | none=>match y with
   | .row es _ _=>some ⟨es,0,none⟩
   | .box _=>none
   | .map .. => none
variable {H:ic}
def QR {o:Nat}:N6 H o=true↔∃x,hget H o=some x:=by
 unfold N6;cases hget H o with
 | none=>simp
 | some x=>simp
def As {α:Type}:∀(l:List (Nat×α)) (k:Nat) (x:α),look l k=some x->(k,x)∈l:=by
 intro l;induction l with
 | nil=>intro k x h;cases h
 | cons p l ih=>
  intro k x h;obtain⟨k',y⟩:=p;simp only[look]at h;cases hb:Nat.beq k' k with
  | true=>simp only[hb]at h;cases h;rw[aeK hb];simp
  | false=>simp only[hb]at h;exact ahV _ (ih k x h)
def wT {o:Nat} {x:cI} (h:hget H o=some x):look H o=some (some x):=by
 unfold hget at h;split at h
 ·rename_i y hy;cases h;exact hy
 cases h
variable {ρ:List (Nat×Option Nat)} {H':ic}
theorem Xz:∀(l:ic),aad ρ H' H l->∀o' y,(o',some y)∈l->
  (match oJ ρ o' with
  | some o=>∃x,hget H o=some x/\Tk ρ H' x y
  | none=>∃es g,y=.row es 0 g):=by
 intro l;induction l with
 | nil=>intro _ o' y h;cases h
 | cons p l ih=>
  intro h o' y hm;obtain⟨k,z⟩:=p;cases z with
  | none=>
   rcases ah0.1 hm with e | e
   ·cases e
   exact ih h o' y e
  | some z=>
   obtain⟨h1,h2⟩:=h;rcases ah0.1 hm with e | e
   ·cases e;split
    ·rename_i o ho;rw[ho]at h1;simp only at h1;split at h1
     ·rename_i x hx;exact⟨x,hx,h1⟩
     exact h1.elim
    rename_i ho;rw[ho]at h1;simp only at h1;split at h1
    ·rename_i es n g;subst h1;exact⟨es,g,rfl⟩
    exact h1.elim
   exact ih h2 o' y e
structure adQ (ρ:List (Nat×Option Nat)) (H' H:ic):Prop where
 ren:∀o' y o,hget H' o'=some y->oJ ρ o'=some o->∃x,hget H o=some x
 ghost:∀o' y,hget H' o'=some y->oJ ρ o'=none->∃es g,y=.row es 0 g
structure adR (ρ:List (Nat×Option Nat)) (H' H:ic):Prop where
 ren:∀o' y o,hget H' o'=some y->oJ ρ o'=some o->∃x,hget H o=some x/\Tk ρ H' x y
 ghost:∀o' y,hget H' o'=some y->oJ ρ o'=none->∃es g,y=.row es 0 g
def XA (h:aad ρ H' H H'):adR ρ H' H where
 ren:=λ o' y o hy ho=>by
  have:=Xz H' h o' y (As _ _ _ (wT hy));rw[ho]at this;exact this
 ghost:=λ o' y hy ho=>by
  have:=Xz H' h o' y (As _ _ _ (wT hy));rw[ho]at this;exact this
def adR.x (h:adR ρ H' H):adQ ρ H' H where
 ren:=λ o' y o h1 h2=>let⟨x,h3,_⟩:=h.ren o' y o h1 h2;⟨x,h3⟩
 ghost:=h.ghost
def K6:∀(f:Nat) (l m:ap2),jI.Jm ρ H' f l m->l.length=m.length/\∀j,j<m.length->∃f',f'<f/\jI ρ H' f' (nth l j) (nth m j):=by
 intro f;induction f with
 | zero=>intro l m h;exact absurd h (by simp[jI.Jm])
 | succ f ih=>
  intro l m h;cases l with
  | nil=>cases m with
   | nil=>exact⟨rfl,λ j hj=>by cases hj⟩
   | cons v m=>exact absurd h (by simp[jI.Jm])
  | cons u l=>cases m with
   | nil=>exact absurd h (by simp[jI.Jm])
   | cons v m=>
    simp only[jI.Jm]at h
    obtain⟨h1,h2⟩:=ih l m h.2
    refine⟨by simp[h1],λ j hj=>?_⟩
    cases j with
    | zero=>exact⟨f,ao6 _,h.1⟩
    | succ j=>
     obtain⟨f',h3,h4⟩:=h2 j (by simpa using hj)
     exact⟨f',by omega,h4⟩
theorem JA {w:World} {I:Nat->Prop} {O:OM} {D D':Nat->Prop} (hd:∀o,O o=none↔hget H o=none) (hW:adQ ρ H' H):
  ∀(f:Nat) (u v:AV) (x:Value),cQ w I O D u x->jI ρ H' f u v->cQ w I (kJ ρ H' O) D' v x:=by
 have live:∀o' o,N6 H' o'=true->oJ ρ o'=some o->∃p,O o=some p/\kJ ρ H' O o'=some p:=by
  intro o' o h1 h2;obtain⟨y,hy⟩:=QR.1 h1;obtain⟨z,hz⟩:=hW.ren o' y o hy h2;cases ho:O o with
  | none=>rw[(hd o).1 ho]at hz;cases hz
  | some p=>exact⟨p,rfl,by unfold kJ;rw[hy,h2];exact ho⟩
 intro f;induction f using Nat.strongRecOn with
 | ind f ih=>
  intro u v x hr he;cases f with
  | zero=>exact absurd he (by simp[jI])
  | succ f=>
   have many:∀(cs cs':ap2) (vs:Array Value),vs.size=cs.length->(∀j,j<cs.length->cQ w I O D (nth cs j) (vs.getD j Go.undef))->jI.Jm ρ H' f cs cs'->
     vs.size=cs'.length/\∀j,j<cs'.length->cQ w I (kJ ρ H' O) D' (nth cs' j) (vs.getD j Go.undef):=by
    intro cs cs' vs h1 h2 h3
    obtain⟨h4,h5⟩:=K6 f cs cs' h3
    refine⟨by omega,λ j hj=>?_⟩
    obtain⟨f',h6,h7⟩:=h5 j hj
    exact ih f' om _ _ _ (h2 j om) h7
   cases v with
   | undef=>exact .pure (.undef x)
   | bool b'=>
    cases u<;>simp only[jI]at he;subst he;rw[hr.je];exact .pure (.bool _)
   | int k n=>
    cases u<;>simp only[jI]at he;obtain⟨rfl,rfl⟩:=he;rw[hr.eP];exact .pure (.int _ _)
   | str s=>
    cases u<;>simp only[jI]at he;subst he;rw[hr.vS];exact .pure (.str _)
   | yp=>
    cases u<;>simp only[jI]at he;cases hr with | pure h=>exact .pure h
   | pm a' b' c'=>
    cases u<;>simp only[jI]at he;obtain⟨rfl,rfl,rfl⟩:=he;cases hr with | pure h=>exact .pure h
   | ro cs=>
    cases u<;>simp only[jI]at he;exact(Le.roL he).rep (.pure hr.Ob)
   | sl es' n' f' g'=>
    cases u<;>simp only[jI]at he;rename_i es n fu g;obtain⟨h0,h1,h2,h3⟩:=he;exact(Le.sl h0 h1 h2 h3).rep (.pure hr.xi)
   | ptr o' i' off'=>
    cases u<;>simp only[jI]at he;rename_i o i off;obtain⟨h1,h2,rfl,rfl⟩:=he;obtain⟨p,hp,hp'⟩:=live o' o h1 h2;obtain⟨b,bo,sz,h3,h4,rfl⟩:=hr.lA hp;exact .ptr hp' h3 h4
   | bV o' i' n' f'=>
    cases u<;>simp only[jI]at he
    ·rename_i es n fu g;obtain⟨h1,aiH,rfl,rfl,rfl,rfl⟩:=he;obtain⟨y,hy⟩:=QR.1 h1;obtain⟨es',g',rfl⟩:=hW.ghost o' y hy aiH;have hp:kJ ρ H' O o'=some ⟨es',0,none⟩:=by unfold kJ;rw[hy,aiH]
     cases hr.xi with
     | sl b off vs hcap hfull ha hes hm hone hrr=>
      have hc:=hfull rfl;exact .bV hp (afM _) hcap (λ _=>hc) (λ h=>absurd hc h) (ahU _)
    rename_i o i n fu;obtain⟨h1,h2,rfl,rfl,h3⟩:=he;obtain⟨p,hp,hp'⟩:=live o' o h1 h2;obtain⟨a,cap,rfl,h4,h5,h6,h7⟩:=hr.jD hp;exact .bV hp' h4 h5 (λ h=>h6 (h3 h)) h7 (hr.yD hp)
   | mref o'=>
    cases u<;>simp only[jI]at he;rename_i o;obtain⟨h1,h2⟩:=he;obtain⟨p,hp,hp'⟩:=live o' o h1 h2;obtain⟨b,bo,sz,h3,rfl⟩:=hr.rb hp;exact .mref hp' h3
   | agg cs'=>
    cases u<;>simp only[jI]at he;obtain⟨vs,rfl,h1,h2⟩:=hr.nG;obtain⟨h3,h4⟩:=many _ cs' vs h1 h2 he;exact .agg h3 h4
   | fP cs'=>
    cases u<;>simp only[jI]at he;obtain⟨vs,rfl,h1,h2⟩:=hr.BM;obtain⟨h3,h4⟩:=many _ cs' vs h1 h2 he;exact .fP h3 h4
   | fn g cs'=>
    cases u<;>simp only[jI]at he;obtain⟨rfl,he⟩:=he;obtain⟨vs,rfl,h1,h2⟩:=hr.En;obtain⟨h3,h4⟩:=many _ cs' vs h1 h2 he;exact .fn h3 h4
variable {I:Nat->Prop}
theorem adS {w:World} {O:OM} {D D':Nat->Prop} (hd:∀o,O o=none↔hget H o=none) (hW:adR ρ H' H) {x y:cI} {p:Own} (h:eV w I O D p x) (he:Tk ρ H' x y):
  eV w I (kJ ρ H' O) D' p y:=by
 cases x with
 | box cs=>
  cases y with
  | row es n g=>exact he.elim
  | map kd z f=>exact he.elim
  | box cs'=>
   obtain⟨h1,b,bo,sz,hp,ha,hl,hr⟩:=h;obtain⟨h2,h3⟩:=K6 _ cs cs' he;refine⟨h1,b,bo,sz,hp,ha,by omega,λ j hj=>?_⟩;obtain⟨f',_,h4⟩:=h3 j hj;exact JA hd hW.x f' _ _ _ (hr j om) h4
 | row es n g=>
  cases y with
  | box cs'=>exact he.elim
  | map kd z f=>exact he.elim
  | row es' n' g'=>
   have hO:eV w I (kJ ρ H' O) D' p (.row es n g):=by
    obtain⟨h1,h2,h3,h4⟩:=h;refine⟨h1,h2,h3,?_⟩;rcases h4 with h4 | ⟨b,bo,sz,hp,ha,hl,hr⟩
    ·exact .inl h4
    exact .inr ⟨b,bo,sz,hp,ha,hl,hr⟩
   exact LeO.rep (x:=.row es n g) (y:=.row es' n' g') he hO
 | map kd z f=>
  cases y with
  | box cs'=>exact he.elim
  | row es n g=>exact he.elim
  | map kd' z' f'=>
   obtain⟨rfl,rfl,rfl⟩:=he;exact h
def T2 {m nx:Nat} :∀(H:ic),Io m nx ρ H=true->∀p∈H,p.1<nx/\(p.1<m->oJ ρ p.1=some p.1):=by
 intro H;induction H with
 | nil=>intro _ p h;cases h
 | cons q H ih=>
  intro h p hp;obtain⟨o',z⟩:=q;unfold Io at h;cases h1:Nat.blt o' nx with
  | false=>simp[h1]at h
  | true=>
   simp only[h1]at h;have hlt:o'<nx:=by simpa using h1
   have rest:Io m nx ρ H=true/\(o'<m->oJ ρ o'=some o'):=by
    split at h
    ·rename_i o ho;split at h
     ·rename_i hb;have:=aeK hb;subst this;exact⟨h,λ _=>ho⟩
     split at h
     ·rename_i hle;have hle':=ahk hle;exact⟨h,λ hlt=>by omega⟩
     cases h
    split at h
    ·rename_i hle;have hle':=ahk hle;exact⟨h,λ hlt=>by omega⟩
    cases h
   rcases ah0.1 hp with e | e
   ·subst e;exact⟨hlt,rest.2⟩
   exact ih rest.1 p e
def T3:∀(H:ic) (o' o:Nat) (y:cI),(o',some y)∈H->oJ ρ o'=some o->o∈N7 ρ H:=by
 intro H;induction H with
 | nil=>intro o' o y h;cases h
 | cons q H ih=>
  intro o' o y h hr;obtain⟨k,z⟩:=q;rcases ah0.1 h with e | e
  ·cases e;simp only[N7,hr];simp
  have:=ih o' o y e hr;cases z with
  | none=>exact this
  | some z=>
   simp only[N7];split
   ·exact ahV _ this
   exact this
def aaP:∀(H:ic),lx (N7 ρ H)=true->∀o1 o2 o y1 y2,(o1,some y1)∈H->(o2,some y2)∈H->oJ ρ o1=some o->oJ ρ o2=some o->o1=o2:=by
 intro H;induction H with
 | nil=>intro _ o1 o2 o y1 y2 h;cases h
 | cons q H ih=>
  intro hnd o1 o2 o y1 y2 h1 h2 hr1 hr2;obtain⟨k,z⟩:=q;have tail:lx (N7 ρ H)=true/\∀y,z=some y->∀o,oJ ρ k=some o->o ∉ N7 ρ H:=by
   cases z with
   | none=>exact⟨hnd,λ y h=>by cases h⟩
   | some z=>
    simp only[N7]at hnd;split at hnd
    ·rename_i oo hoo;unfold lx at hnd;split at hnd
     ·cases hnd
     rename_i hm;refine⟨hnd,λ y _ o ho=>?_⟩;rw[hoo]at ho;cases ho;exact th hm
    rename_i hnone;exact⟨hnd,λ y _ o ho=>by rw[hnone]at ho;cases ho⟩
  rcases ah0.1 h1 with e1 | e1<;>rcases ah0.1 h2 with e2 | e2
  ·cases e1;cases e2;rfl
  ·cases e1;exact absurd (T3 H o2 o y2 e2 hr2) (tail.2 _ rfl o hr1)
  ·cases e2;exact absurd (T3 H o1 o y1 e1 hr1) (tail.2 _ rfl o hr2)
  exact ih tail.1 o1 o2 o y1 y2 e1 e2 hr1 hr2
def aaQ {T:List (Nat×AV)}:∀(l:List (Nat×AV)),afV ρ H' T l->∀t,eH l t=.undef\/jI ρ H' fuel (eH T t) (eH l t):=by
 intro l;induction l with
 | nil=>intro _ t;exact .inl rfl
 | cons p l ih=>
  intro h t;obtain⟨k,v⟩:=p;obtain⟨h1,h2⟩:=h;unfold eH;simp only[look];cases hb:Nat.beq k t with
  | true=>
   have:=aeK hb;subst this;exact .inr h1
  | false=>exact ih h2 t
def Au {m:Nat} {s s':St} {a:Act} {w:World} {O:OM} (hS:fD cfg N m cx s a w I O) (h:Emb m ρ s s'):fD cfg N m cx s' a w I (kJ ρ s'.heap O):=by
 obtain⟨K3,htm,hhp⟩:=h;obtain⟨hm,hR,hT,hMk⟩:=hS;have hW:=XA hhp;unfold VK at K3;split at K3
 ·rename_i hk hnd hun;have hle:m<=s'.nx:=ahk K3;have hkeys:=T2 _ hk;have inv:∀o' p,kJ ρ s'.heap O o'=some p->∃y,hget s'.heap o'=some y/\((∃o,oJ ρ o'=some o/\O o=some p)\/p.pl=none):=by
   intro o' p hp;unfold kJ at hp;split at hp
   ·cases hp
   rename_i y hy;refine⟨y,hy,?_⟩;split at hp
   ·rename_i o ho;exact .inl ⟨o,ho,hp⟩
   split at hp
   ·cases hp;exact .inr rfl
   ·cases hp
   cases hp
  refine⟨hm,⟨?_,?_,?_,?_,?_,?_,hR.uX,hR.size,hR.frame,?_,hR.glob,hR.Jf,hR.KQ,?_,?_,hR.env⟩,⟨rfl,hT.size,λ t _=>?_,λ t h=>by cases h⟩,hMk⟩
  ·intro o';constructor
   ·intro h;cases hy:hget s'.heap o' with
    | none=>rfl
    | some y=>
     exfalso;unfold kJ at h;rw[hy]at h;simp only at h;split at h
     ·rename_i o ho;obtain⟨x,hx,_⟩:=hW.ren o' y o hy ho;rw[(hR.dom o).1 h]at hx;cases hx
     rename_i ho;obtain⟨es,g,rfl⟩:=hW.ghost o' y hy ho;cases h
   intro h;unfold kJ;rw[h]
  ·intro o' p hp;obtain⟨y,hy,_⟩:=inv o' p hp;exact(hkeys _ (As _ _ _ (wT hy))).1
  ·intro o' y p hy hp;unfold kJ at hp;rw[hy]at hp;simp only at hp;split at hp
   ·rename_i o ho;obtain⟨x,hx,he⟩:=hW.ren o' y o hy ho;exact adS hR.dom hW (hR.objs o x p hx hp) he
   rename_i ho;obtain⟨es,g,rfl⟩:=hW.ghost o' y hy ho;cases hp;exact⟨rfl,rfl,λ i hi=>absurd hi (ag9 i),.inl ⟨rfl,rfl⟩⟩
  ·intro o1 o2 p1 p2 b bo sz b' la sz' h1 h2 hp1 hp2 hne;obtain⟨y1,hy1,e1⟩:=inv o1 p1 h1;obtain⟨y2,hy2,e2⟩:=inv o2 p2 h2;rcases e1 with⟨q1,hr1,ho1⟩ | e1
   ·rcases e2 with⟨q2,hr2,ho2⟩ | e2
    ·refine hR.inj q1 q2 p1 p2 b bo sz b' la sz' ho1 ho2 hp1 hp2 λ e=>?_;subst e;exact hne (aaP _ hnd o1 o2 q1 y1 y2 (As _ _ _ (wT hy1)) (As _ _ _ (wT hy2)) hr1 hr2)
    rw[e2]at hp2;cases hp2
   rw[e1]at hp1;cases hp1
  ·intro o p b bo sz h hp;obtain⟨y,hy,⟨q,hr,ho⟩ | e⟩:=inv o p h
   ·exact hR.lz q p b bo sz ho hp
   rw[e]at hp;cases hp
  ·intro o p b bo sz h hp;obtain⟨y,hy,⟨q,hr,ho⟩ | e⟩:=inv o p h
   ·exact hR.lt q p b bo sz ho hp
   rw[e]at hp;cases hp
  ·intro o p b bo sz h hp;obtain⟨y,hy,⟨q,hr,ho⟩ | e⟩:=inv o p h
   ·exact hR.new q p b bo sz ho hp
   rw[e]at hp;cases hp
  ·intro o hlt;rw[hm]at hlt;cases hy:hget s'.heap o with
   | none=>exact .inr (by unfold kJ;rw[hy])
   | some y=>
    have:=(hkeys _ (As _ _ _ (wT hy))).2 hlt;have e:kJ ρ s'.heap O o=O o:=by unfold kJ;rw[hy,this]
    rw[e];exact hR.NH o (by rw[hm];exact hlt)
  ·intro o hlt;rw[hm]at hlt;exact ajM hlt hle
  rcases aaQ _ htm t with e | e
  ·rw[e];exact .pure (.undef _)
  exact JA hR.dom hW.x _ _ _ _ (hT.rep t rfl) e
 cases K3
end
end Go.Ab
namespace Go.Ab
section
variable {P:Program} {cfg:qX} {N:Nat} {cx:Ctx}
structure nJ (w' w:World):Prop where
 cell:∀a v,w.cell? a=some v->w'.cell? a=some v
 frozen:∀a,(w.cell? a).isSome=true->w'.frozen? a=w.frozen? a
 size:w.heap.size<=w'.heap.size
 maps:∀(b:Nat) (es:Array MapEntry) (c:Nat),w.heap[b]? = some (Obj.map es c)->w'.heap[b]? = some (Obj.map es c)
variable {w:World} {w':World} {I:Nat->Prop}
def eF.turn (h:nJ w' w) {v:AV} {x:Value} (hp:eF w I v x):eF w' I v x:=by
 induction hp with
 | undef x=>exact .undef x
 | bool b=>exact .bool b
 | int k n=>exact .int k n
 | str s=>exact .str s
 | yp=>exact .yp
 | pm b es clock h1 h2 h3=>exact .pm b es clock h1 (h.maps _ _ _ h2) h3
 | sl b off vs hcap hfull ha hes hm h1 hr ih=>exact .sl b off vs hcap hfull ha hes (λ i j hi hj=>h.cell _ _ (hm i j hi hj)) h1 ih
 | ro b off vs hI hm hr ih=>exact .ro b off vs hI (λ j hj=>h.cell _ _ (hm j hj)) ih
 | agg hl hr ih=>exact .agg hl ih
 | fn hl hr ih=>exact .fn hl ih
 | fP hl hr ih=>exact .fP hl ih
variable {D:Nat->Prop}
def cQ.turn (h:nJ w' w) {O:OM} {v:AV} {x:Value} (hp:cQ w I O D v x):cQ w' I O D v x:=by
 induction hp with
 | pure hp=>exact .pure (hp.turn h)
 | ptr ho hp hi=>exact .ptr ho hp hi
 | bV ho hi hcap hfull hpl hext=>exact .bV ho hi hcap hfull hpl hext
 | uh ho hd h1=>exact .uh ho hd h1
 | qY ho hd h1=>exact .qY ho hd h1
 | mref ho hp=>exact .mref ho hp
 | ue ho hd h1=>exact .ue ho hd h1
 | agg hl hr ih=>exact .agg hl ih
 | fn hl hr ih=>exact .fn hl ih
 | fP hl hr ih=>exact .fP hl ih
def eV.turn (h:nJ w' w) {O:OM} {p:Own} {x:cI} (hp:eV w I O D p x):eV w' I O D p x:=by
 have hal:∀b sz,CC w b sz->CC w' b sz:=λ b sz ha j hj=>by
  obtain⟨h1,h2⟩:=ha j hj;obtain⟨v,hv⟩:=ai3.1 h1;rw[h.cell _ _ hv,h.frozen _ h1];exact⟨rfl,h2⟩
 have hca:∀b sz j,CC w b sz->j<sz->cellAt w' b j=cellAt w b j:=λ b sz j ha hj=>by
  obtain⟨v,hv⟩:=ai3.1 (ha j hj).1;unfold cellAt;rw[h.cell _ _ hv,hv]
 cases x with
 | box cs=>
  obtain⟨h1,b,bo,sz,h2,h3,h4,h5⟩:=hp;exact⟨h1,b,bo,sz,h2,hal b sz h3,h4,λ j hj=>by rw[hca b sz _ h3 om];exact(h5 j hj).turn h⟩
 | row es n g=>
  obtain⟨h1,h2,h3,h4⟩:=hp;refine⟨h1,h2,h3,h4.imp id ?_⟩;rintro ⟨b,bo,sz,q1,q2,q3,q4⟩;exact⟨b,bo,sz,q1,⟨hal b sz q2.al,λ j hb hj=>by rw[hca b sz j q2.al hj];exact q2.one j hb hj⟩,q3,λ i j hi hj=>by
   have hlt:i*es+j<n*es:=by
    have:(i+1)*es<=n*es:=afK _ hi;rw[aip]at this;omega
   rw[hca b sz _ q2 om];exact⟨(q4 i j hi hj).1.turn h,(q4 i j hi hj).2⟩⟩
 | map kd z f=>
  obtain⟨h1,b,bo,sz,es,clock,q1,q2,q3⟩:=hp;exact⟨h1,b,bo,sz,es,clock,q1,h.maps b es clock q2,q3⟩
def Rel.turn {H:Nat->Option cI} {O:OM} (h:nJ w' w) (hfr:∀b,b<cx.w0.heap.size->w'.heap[b]? = w.heap[b]?) (he:Am cx w') (hR:Rel cfg cx H D w I O):Rel cfg cx H D w' I O where
 dom:=hR.dom
 used:=hR.used
 objs:=λ o ob p h1 h2=>(hR.objs o ob p h1 h2).turn h
 inj:=hR.inj
 lz:=hR.lz
 lt:=λ o p b bo sz h1 h2=>ajM (hR.lt o p b bo sz h1 h2) h.size
 uX:=λ b hb=>ajM (hR.uX b hb) h.size
 size:=af3 hR.size h.size
 frame:=λ b h1 h2=>by rw[hfr b h1];exact hR.frame b h1 h2
 new:=hR.new
 glob:=λ g cs hg=>(hR.glob g cs hg).turn h
 Jf:=hR.Jf
 KQ:=hR.KQ
 NH:=hR.NH
 Dm:=hR.Dm
 env:=he
def fD.turn {m:Nat} {s:St} {a a':Act} {O:OM} (h:nJ w' w) (hfr:∀b,b<cx.w0.heap.size->w'.heap[b]? = w.heap[b]?) (he:Am cx w') (ha:a'.tmps=a.tmps) (hm:Marks cx w' a'.defers) (hS:fD cfg N m cx s a w I O):fD cfg N m cx s a' w' I O:=
 ⟨hS.m,hS.rel.turn h hfr he,⟨rfl,by rw[ha];exact hS.tmps.size,λ t ht=>by rw[ha];exact(hS.tmps.rep t ht).turn h,λ t ht=>by cases ht⟩,hm⟩
def zG {D:Nat} {o o':Obj} (h:w.heap[D]? = some o) (ho:GB o=true) (hnm:∀es c,o≠.map es c:=by intro _ _ h;cases h):nJ (w.putObj D o') w:=by
 have hlt:D<w.heap.size:=by
  rcases aiZ D w.heap.size with h1 | h1
  ·exact h1
  rw[ajA h1]at h;cases h
 have hno:∀a:Addr,a.block=D->w.cell? a=none:=λ a e=>by
  unfold World.cell?;rw[e,h];cases o<;>first | rfl | exact absurd ho Bool.false_ne_true
 refine⟨λ a v hv=>?_,λ a hv=>?_,by simp[World.putObj],λ b es c hb=>?_⟩
 ·by_cases e:a.block=D
  ·rw[hno a e]at hv;cases hv
  unfold World.cell? at hv ⊢;rw[World.putObj_heap_other e];exact hv
 ·by_cases e:a.block=D
  ·rw[hno a e]at hv;cases hv
  unfold World.frozen?;rw[World.putObj_heap_other e]
 by_cases e:b=D
 ·subst e;rw[h]at hb;exact absurd (ah1 hb) (hnm es c)
 rw[World.putObj_heap_other e];exact hb
def adT {D:Nat} {o':Obj} (hD:cx.w0.heap.size<=D) (hK:∀k o,¬ cx.K k o) (he:Am cx w):Am cx (w.putObj D o'):=by
 refine⟨⟨he.same.os,he.same.tape,he.same.output,λ k o hk ho=>?_⟩,λ k o h=>absurd h (hK k o)⟩;have hlt:k<cx.w0.heap.size:=by
  rcases aiZ k cx.w0.heap.size with h1 | h1
  ·exact h1
  rw[ajA h1]at hk;cases hk
 rw[World.putObj_heap_other om];exact he.same.keep k o hk ho
theorem vV {F:Fence} {n m:Nat} {fn:Func} {s:St} {R:Ending->World->Prop} (hK:∀k o,¬ cx.K k o)
  (fin:∀(a:Act) (w:World) (I:Nat->Prop) (O:OM),fD cfg N m cx s a w I O->∃v,(results fn a.tmps).run P w=.ok v w/\R (.returned v) w):
  ∀(ms:ap0) (tmps:Array Value) (w:World) (I:Nat->Prop) (O:OM),ms.Nodup->(∀D∈ms,cx.w0.heap.size<=D/\w.heap[D]? = some (.deferred (some [])))->fD cfg N m cx s ⟨tmps,[]⟩ w I O->LeavesInM F n P fn tmps R (ms.map Ov) .returning w:=by
 intro ms;induction ms with
 | nil=>
  intro tmps w I O _ _ hS;exact fin _ w I O hS
 | cons D ms ih=>
  intro tmps w I O hnd hms hS;obtain⟨hD1,hD2⟩:=hms D (ajN ..);rw[aom]at hnd;refine⟨nofun,.inl ⟨D,w.putObj D (.deferred none),rfl,run_takeDeferred hD2,?_⟩⟩;refine ih tmps _ I O hnd.2 (λ D' hD'=>?_) ?_
  ·have hne:D'≠D:=λ e=>hnd.1 (e ▸ hD');rw[World.putObj_heap_other hne];exact hms D' (ahV _ hD')
  exact hS.turn (zG hD2 rfl) (λ b hb=>World.putObj_heap_other om) (adT hD1 hK hS.rel.env) rfl ⟨[],anq,λ _=>rfl,rfl,λ _ h=>by cases h⟩
end
end Go.Ab
namespace Go.Ab
section
variable {P:Program} {cfg:qX} {cx:Ctx} {N:Nat}
def T4 (tmps:Array Value):ResultVar->Sem Value
 | .tmp t=>pure (tmps.getD t undef)
 | .cell a t=>do loadVar t (<- asAddr (tmps.getD a undef))
variable {w:World} {I:Nat->Prop}
theorem T5 (hc:ej P cfg) {m:Nat} {s:St} {a:Act} {O:OM} (hS:fD cfg N m cx s a w I O):∀(rs:List ResultVar) (vs:ap2),CA cfg s rs=some vs->
  ∃xs:List Value,(rs.mapM (T4 a.tmps)).run P w=.ok xs w/\xs.length=vs.length/\∀j,j<vs.length->cQ w I O (λ o=>o<s.nx) (nth vs j) (xs.getD j Go.undef):=by
 intro rs;induction rs with
 | nil=>intro vs h;cases h;exact⟨[],by simp,rfl,λ j hj=>by cases hj⟩
 | cons q rs ih=>
  intro vs h;cases q with
  | tmp t=>
   simp only[CA]at h;split at h
   ·rename_i vs' hvs;cases h;obtain⟨xs,h1,h2,h3⟩:=ih vs' hvs;refine⟨a.tmps.getD t Go.undef::xs,?_,by simp[h2],λ j hj=>?_⟩
    ·rw[List.mapM_cons];simp[T4,h1]
    cases j with
    | zero=>exact hS.tmps.rep t rfl
    | succ j=>exact h3 j (by simpa using hj)
   cases h
  | cell ad ty=>
   simp only[CA]at h;split at h
   ·rename_i vs' o ti hvs had hty;have key:∀(cs:ap2) (b bo sz:Nat),a.tmps.getD ad Go.undef=.pointer (some ⟨b,bo,none⟩)->CC w b sz->bo+cs.length<=sz->(∀j,j<cs.length->cQ w I O (λ o=>o<s.nx) (nth cs j) (cellAt w b (bo+j)))->
      ∀v,dg (λ _ _ _ _ _=>True) (hget s.heap) (uY ti cs) v [] []->∃xs:List Value,((ResultVar.cell ad ty::rs).mapM (T4 a.tmps)).run P w=.ok xs w/\xs.length=(v::vs').length/\∀j,j<(v::vs').length->cQ w I O (λ o=>o<s.nx) (nth (v::vs') j) (xs.getD j Go.undef):=by
     intro cs b bo sz hgd hal hle hcs v hv
     obtain⟨xs,h1,h2,h3⟩:=ih vs' hvs
     obtain⟨_,x,hrun,hx⟩:=mR (w:=w) (I:=I) (O:=O) (D:=λ o=>o<s.nx) hc hty hv b bo (λ j=>cellAt w b (bo+j)) (λ j hj=>qa hal om) (λ j hj=>hcs j hj)
     have hrun':(loadVar ty ⟨b,bo,none⟩).run P w=.ok x w:=by
      have:=hrun
      simp[Instr.loadAt,Instr.sureAddr]at this
      exact this
     refine⟨x::xs,?_,by simp[h2],λ j hj=>?_⟩
     ·rw[List.mapM_cons,Sem.run_bind]
      have e:(T4 a.tmps (.cell ad ty)).run P w=.ok x w:=by
       unfold T4
       simp only
       rw[hgd]
       simp[asAddr,hrun']
      rw[e]
      simp[h1]
     cases j with
     | zero=>exact hx
     | succ j=>exact h3 j (by simpa using hj)
    have hrep:=hS.tmps.rep ad rfl;rw[had]at hrep;split at h
    ·rename_i cs lg;obtain⟨p,hp,hO⟩:=hS.rel.live lg;obtain⟨b,bo,sz,hpl,hi,hxv⟩:=hrep.lA hp;obtain⟨hn,b',la,sz',hpl',hal,hle,hcs⟩:=hO;rw[hpl]at hpl';cases hpl';simp only[akJ,ajT]at hxv;have key:=key cs b bo sz hxv hal hle hcs;split at h
     ·rename_i hag;split at h
      ·rename_i hsz;cases h;refine key _ ?_;unfold uY;rw[hag];simp only[dy,hsz];exact .ret _ _
      cases h
     rename_i hag;split at h
     ·cases h;refine key _ ?_;unfold uY;rw[hag];exact .ret _ _
     cases h
    ·rename_i es n g lg;obtain⟨p,hp,hO⟩:=hS.rel.live lg;obtain⟨b,bo,sz,hpl,hi,hxv⟩:=hrep.lA hp;obtain⟨hn,hes,hlen,hpl' | ⟨b',la,sz',hpl',hal,hle,hcs⟩⟩:=hO
     ·rw[hpl]at hpl';cases hpl'.2
     rw[hpl]at hpl';cases hpl';simp only[akJ,ajT]at hxv;obtain⟨hrl,hrr⟩:=Jo hlen hcs;have key:=key (iC n 0 g) b bo sz hxv hal om (λ j hj=>.pure (hrr j hj));split at h
     ·rename_i hag;split at h
      ·rename_i hsz;cases h;refine key _ ?_;unfold uY;rw[hag];simp only[dy,hsz];exact .ret _ _
      cases h
     cases h
    cases h
   cases h
theorem Ms (hc:ej P cfg) {m:Nat} {s:St} {a:Act} {O:OM} (hS:fD cfg N m cx s a w I O) {fn:Func} {vs:ap2} (h:CA cfg s fn.results.toList=some vs):
  ∃x,(results fn a.tmps).run P w=.ok x w/\cQ w I O (λ o=>o<s.nx) (oneOf vs) x:=by
 obtain⟨xs,h1,h2,h3⟩:=T5 hc hS _ _ h;have hrun:(results fn a.tmps).run P w=.ok (if h:xs.toArray.size=1 then xs.toArray[0]else .tuple xs.toArray) w:=by
  have e0:results fn a.tmps=(fn.results.mapM (T4 a.tmps)) >>= λ vs=>pure (if h:vs.size=1 then vs[0]else .tuple vs):=by
   unfold results;congr 1
  have e2:fn.results.mapM (T4 a.tmps)=Functor.map List.toArray (fn.results.toList.mapM (T4 a.tmps)):=by
   rw[<- List.mapM_toArray]
  rw[e0,Sem.run_bind,e2,Sem.run_map,h1];rfl
 refine⟨_,hrun,?_⟩;match xs,vs,h2,h3 with
 | [],[],_,_=>exact .fP rfl λ j hj=>by cases hj
 | [x],[v],_,h3=>exact h3 0 (by simp)
 | x::x'::xs,v::v'::vs,h2,h3=>
  have:¬ (x::x'::xs).toArray.size=1:=by simp
  rw[dif_neg this]
  exact .fP (by simpa using h2) λ j hj=>by simpa using h3 j hj
def T6:∀(obs:ap9) (i o:Nat),hget (BL.ly obs i) o=if i<=o then hof obs (o - i)else none:=by
 intro obs;induction obs with
 | nil=>intro i o;simp[BL.ly,hget,look,hof]
 | cons x l ih=>
  intro i o;unfold BL.ly hget;simp only[look];cases hb:Nat.beq i o with
  | true=>
   have:=aeK hb;subst this;simp[hof]
  | false=>
   have hne:i≠o:=λ e=>by subst e;simp at hb
   have:=ih (i+1) o;unfold hget at this;simp only;rw[this];by_cases hi:i<=o
   ·rw[afc hi,afc om,show o - i=(o - (i+1))+1 by omega];rfl
   rw[aeV hi,aeV om]
def BR (obs:ap9):hget (BL.ly obs 0)=hof obs:=by
 funext o;rw[T6];simp
def Ow:∀(l:ap2) (i t:Nat),eH (CB l i) t=if i<=t then nth l (t - i)else .undef:=by
 intro l;induction l with
 | nil=>intro i t;simp[CB,eH,look,nth]
 | cons v l ih=>
  intro i t;unfold CB eH;simp only[look];cases hb:Nat.beq i t with
  | true=>
   have:=aeK hb;subst this;simp[nth]
  | false=>
   have hne:i≠t:=λ e=>by subst e;simp at hb
   have:=ih (i+1) t;unfold eH at this;simp only;rw[this];by_cases hi:i<=t
   ·rw[afc hi,afc om,show t - i=(t - (i+1))+1 by omega];rfl
   rw[aeV hi,aeV om]
def YO:∀(n i:Nat),(upTo n i).length=n/\∀j,j<n->dZ (upTo n i) j=i+j:=by
 intro n;induction n with
 | zero=>intro i;exact⟨rfl,λ j hj=>by cases hj⟩
 | succ n ih=>
  intro i;obtain⟨h1,h2⟩:=ih (i+1);refine⟨by simp[upTo,h1],λ j hj=>?_⟩;cases j with
  | zero=>rfl
  | succ j=>show dZ (upTo n (i+1)) j=_;rw[h2 j om];omega
def P7 (l m:ap0) (j:Nat) (h:j<l.length):dZ (l++m) j=dZ l j:=by
 induction l generalizing j with
 | nil=>cases h
 | cons x l ih=>cases j with
  | zero=>rfl
  | succ j=>exact ih j (by simpa using h)
def T7 {H:ic}:∀(sg:ap0) (obs:ap9),N8 H sg obs->obs.length=sg.length/\∀j,j<sg.length->∃x y,hget H (dZ sg j)=some x/\hof obs j=some y/\NB x=true/\Tk [] [] x y:=by
 intro sg;induction sg with
 | nil=>intro obs h;cases obs with
  | nil=>exact⟨rfl,λ j hj=>by cases hj⟩
  | cons=>exact h.elim
 | cons o sg ih=>intro obs h;cases obs with
  | nil=>exact h.elim
  | cons y obs=>
   obtain⟨h1,h2⟩:=h
   obtain⟨h3,h4⟩:=ih obs h2
   refine⟨by simp[h3],λ j hj=>?_⟩
   cases j with
   | zero=>
    split at h1
    ·rename_i x hx
     split at h1
     ·rename_i hp;exact⟨x,y,hx,rfl,hp,h1⟩
     exact h1.elim
    exact h1.elim
   | succ j=>exact h4 j (by simpa using hj)
def aaR:adQ [] [] [] where
 ren:=λ _ _ _ h=>by cases h
 ghost:=λ _ _ h=>by cases h
def eV.agh {I':Nat->Prop} {O O':OM} {D D':Nat->Prop} {p:Own} {x y:cI} (hI:∀b,I b->I' b) (h:eV w I O D p x) (hp:NB x=true) (he:Tk [] [] x y):eV w I' O' D' p y:=by
 cases x with
 | box cs=>
  cases y with
  | row es n g=>exact he.elim
  | map kd z f=>exact he.elim
  | box cs'=>
   obtain⟨h1,b,bo,sz,hpl,ha,hl,hr⟩:=h;obtain⟨h2,h3⟩:=K6 _ cs cs' he;refine⟨h1,b,bo,sz,hpl,ha,by omega,λ j hj=>?_⟩;obtain⟨f',_,h4⟩:=h3 j hj;have hx:=(hr j om).uk (P2 hp j om);have hy:cQ w I (kJ [] [] λ _=>none) (λ _=>False) (nth cs' j) (cellAt w b (bo+j)):=JA (H:=[]) (O:=λ _=>none) (D:=λ _=>False) (λ o=>by simp[hget,look]) aaR f' _ _ _ (.pure hx) h4;have e:(kJ [] [] λ _=>none)=(λ _=>none:OM):=by funext o;simp[kJ,hget,look]
   rw[e]at hy;exact .pure ((yE hy).mono hI λ _ _=>rfl)
 | row es n g=>
  cases y with
  | box cs'=>exact he.elim
  | map kd z f=>exact he.elim
  | row es' n' g'=>
   have hO:eV w I' O' D' p (.row es n g):=by
    obtain⟨h1,h2,h3,h4⟩:=h;refine⟨h1,h2,h3,?_⟩;rcases h4 with h4 | ⟨b,bo,sz,hp,ha,hl,hr⟩
    ·exact .inl h4
    exact .inr ⟨b,bo,sz,hp,ha,hl,λ i j hi hj=>⟨(hr i j hi hj).1.mono hI λ _ _=>rfl,(hr i j hi hj).2⟩⟩
   exact LeO.rep (x:=.row es n g) (y:=.row es' n' g') he hO
 | map kd z f=>cases hp
variable {obs:ap9}
def Rel.home {H:Nat->Option cI} {D:Nat->Prop} {O:OM} (hR:Rel cfg cx H D w I O) {ex ids:ap0} (hnd:lx (upTo cx.m 0++ex)=true) (hdj:Ej ids (upTo cx.m 0++ex)=true) (hl:obs.length=(upTo cx.m 0++ex).length)
  (P3:∀j,j<(upTo cx.m 0++ex).length->∃x y,H (dZ (upTo cx.m 0++ex) j)=some x/\hof obs j=some y/\NB x=true/\Tk [] [] x y):
  Rel cfg cx (hof obs) (λ o=>o<obs.length) w (λ b=>I b\/yo O ids b) (l7 O (upTo cx.m 0++ex))/\∀o,o<cx.m->l7 O (upTo cx.m 0++ex) o=cx.O0 o:=by
 have hup:=YO cx.m 0;have agi:∀j,j<cx.m->j<(upTo cx.m 0++ex).length/\dZ (upTo cx.m 0++ex) j=j:=λ j hj=>by
  refine⟨by simp[hup.1];omega,?_⟩;rw[P7 _ _ _ (by rw[hup.1];exact hj),hup.2 j hj];simp
 generalize hsg:upTo cx.m 0++ex=sg at hnd hdj hl P3 agi;have hsub:∀ {j p},l7 O sg j=some p->j<sg.length/\O (dZ sg j)=some p:=λ h=>by
  unfold l7 at h;split at h
  ·exact⟨by assumption,h⟩
  cases h
 have hO0:∀o,o<cx.m->l7 O sg o=cx.O0 o:=λ o ho=>by
  obtain⟨h1,h2⟩:=agi o ho;obtain⟨x,y,h3,_⟩:=P3 o h1;rw[h2]at h3;unfold l7;rw[afc h1,h2];rcases hR.NH o ho with e | e
  ·exact e
  rw[(hR.dom o).1 e]at h3;cases h3
 refine⟨?_,hO0⟩;exact {
  dom:=λ j=>by
   unfold l7
   by_cases hj:j<sg.length
   ·obtain⟨x,y,h1,h2,_⟩:=P3 j hj
    obtain⟨p,hp,_⟩:=hR.live h1
    simp[hj,h2,hp]
   rw[aeV hj,Ju obs j om]
   simp
  used:=λ j p h=>by have:=(hsub h).1;omega
  objs:=λ j ob p h h'=>by
   obtain⟨h1,h2⟩:=hsub h'
   obtain⟨x,y,h3,h4,h5,h6⟩:=P3 j h1
   rw[h]at h4
   cases h4
   exact(hR.objs _ _ p h3 h2).agh (λ _ h=>.inl h) h5 h6
  inj:=λ j j' p p' b bo sz b' la sz' h1 h2 h3 h4 h5=>by
   obtain⟨q1,q2⟩:=hsub h1
   obtain⟨q3,q4⟩:=hsub h2
   exact hR.inj _ _ p p' b bo sz b' la sz' q2 q4 h3 h4 (λ e=>h5 (BP sg hnd j j' q1 q3 e))
  lz:=λ j p b bo sz h1 h2 h3=>by
   obtain⟨q1,q2⟩:=hsub h1
   rcases h3 with h3 | ⟨o',p',la,sz',q3,q4,q5⟩
   ·exact hR.lz _ p b bo sz q2 h2 h3
   exact hR.inj _ o' p p' b bo sz b la sz' q2 q4 h2 q5 (λ e=>Iq ids sg hdj o' q3 (e ▸ mS sg j q1)) rfl
  lt:=λ j p b bo sz h1 h2=>hR.lt _ p b bo sz (hsub h1).2 h2
  uX:=(hR.freeze ids).uX
  size:=hR.size
  frame:=hR.frame
  env:=hR.env
  new:=λ j p b bo sz h1 h2=>hR.new _ p b bo sz (hsub h1).2 h2
  glob:=(hR.freeze ids).glob
  Jf:=λ b h=>.inl (hR.Jf b h)
  KQ:=(hR.freeze ids).KQ
  NH:=λ o ho=>.inl (hO0 o ho)
  Dm:=λ o ho=>by have:=(agi o ho).1;omega }
theorem RQ (hc:ej P cfg) {f:FuncId} {fn:Func} {c:Code} {args:ap2} {obs:ap9} {r:AV} {dt:ap9} (hf:P.funcs[f]? = some fn) (hb:fn.body=some c) (hnm:(fn.name == "runtime.NumGoroutine")=false)
  (hN:args.length<=fn.ntmps) (hle:obs.length<=dt.length)
  (h:Good P cfg fn.ntmps none obs.length c ⟨CB args 0,BL.ly obs 0,obs.length⟩ (BL cfg (Spec P cfg) fn.results.toList obs.length r dt)):Spec P cfg f args obs r dt:=by
 refine⟨⟨fn,hf,by rw[hb];rfl,hnm⟩,hle,λ w I O vals hR hvs hrep=>?_⟩;refine(callsIn_wide (n:=0)).1 (callsIn_of_wp_marks hf hb trivial ?_);have hS:fD cfg fn.ntmps obs.length (DY w I O obs.length) ⟨CB args 0,BL.ly obs 0,obs.length⟩ { tmps:=vals++Array.replicate (fn.ntmps - vals.size) undef,defers:=[] } w I O:=by
  refine⟨rfl,?_,⟨rfl,by simp;omega,λ t _=>?_,λ t h=>by cases h⟩,⟨[],anq,λ _=>rfl,rfl,λ _ h=>by cases h⟩⟩
  ·rw[BR];exact hR
  rw[Ow];simp only[ahU,apa,apm];by_cases ht:t<args.length
  ·have e:(vals++Array.replicate (fn.ntmps - vals.size) undef).getD t Go.undef=vals.getD t Go.undef:=by
    have:t<vals.size:=by omega
    simp[alZ this]
   rw[e];exact hrep t ht
  have e:nth args t=.undef:=by
   rw[pJ];simp[anr (Nat.le_of_not_lt ht)]
  rw[e];exact .pure (.undef _)
 refine wpIn_mono (h 0 _ _ w I O hS rfl) ?_;intro e a0 w0 ⟨s,I0,O0,hK,hS0⟩;have main:∀(a':Act) (w':World) (I':Nat->Prop) (O':OM),fD cfg fn.ntmps obs.length (DY w I O obs.length) s a' w' I' O'->(∃vs,CA cfg s fn.results.toList=some vs/\ev (Spec P cfg) [] (hget s.heap) (Gy (upTo obs.length 0++Rx obs.length r (oneOf vs)) (oneOf vs) λ v' ids=>dy (lx (upTo obs.length 0++Rx obs.length r (oneOf vs))) (dy (Ej ids (upTo obs.length 0++Rx obs.length r (oneOf vs))) (iQ v'))) []
   λ v' _ _=>jI [] (BL.ly dt 0) fuel v' r/\N8 s.heap (upTo obs.length 0++Rx obs.length r (oneOf vs)) dt)->∃v,(results fn a'.tmps).run P w'=.ok v w'/\∃x Vu Vv,Ending.returned v=.returned x/\Rel cfg (DY w I O obs.length) (zE dt) (λ o=>o<dt.length) w' Vu Vv/\
   cQ w' Vu Vv (λ o=>o<dt.length) r x:=by
  rintro a' w' I' O' hS' ⟨vs,hvs,hev⟩
  obtain⟨x,hrun,hx⟩:=Ms hc hS' hvs
  refine⟨x,hrun,x,?_⟩
  obtain⟨v',ups,ud,⟨h1,h2⟩,_,h3⟩:=NK _ _ _ _ _ hev
  obtain⟨rr,h4,_⟩:=h3 (λ q hq=>by cases hq)
  obtain⟨h5,h6⟩:=T7 _ _ h2
  obtain⟨u',ids,r',h7,h8⟩:=HF hS'.rel (λ j hj=>let⟨x,y,h9,_⟩:=h6 j hj;⟨x,h9⟩) h4
  obtain⟨hnd,h7⟩:=h7.bK
  obtain⟨hdj,h7⟩:=h7.bK
  obtain⟨rfl,_⟩:=h7.dp
  obtain⟨h10,h11⟩:=Rel.home hS'.rel hnd hdj h5 h6
  have hgn:zE dt=hof dt:=adt λ j y hy=>by
   have hj:j<(upTo obs.length 0++Rx obs.length r (oneOf vs)).length:=by
    rcases aiZ j dt.length with h | h
    ·omega
    rw[Ju _ _ h]at hy;cases hy
   obtain⟨q,y',_,q2,q3,q4⟩:=h6 j hj
   rw[hy]at q2
   cases q2
   cases y with
   | map=>cases q<;>first | exact q4.elim | cases q3
   | _=>rfl
  refine⟨_,_,rfl,by rw[hgn];exact h10,?_⟩
  have hdom:=h10.dom
  rw[<- BR dt]at hdom
  have hX:adQ [] (BL.ly dt 0) (BL.ly dt 0):=⟨λ o' y o hy ho=>by cases ho;exact⟨y,hy⟩,λ o' y hy ho=>by cases ho⟩
  have:=JA (D':=λ o=>o<dt.length) hdom hX fuel _ _ x (h8 x hx) h1
  have e:kJ [] (BL.ly dt 0) (l7 O' (upTo obs.length 0++Rx obs.length r (oneOf vs)))=l7 O' (upTo obs.length 0++Rx obs.length r (oneOf vs)):=by
   funext o
   unfold kJ
   split
   ·rename_i hn;exact((hdom o).2 hn).symm
   rfl
  exact e ▸ this
 have hret:∀(a':Act) (w':World) (I':Nat->Prop) (O':OM),fD cfg fn.ntmps obs.length (DY w I O obs.length) s a' w' I' O'->∀vs,CA cfg s fn.results.toList=vs->(match vs with
   | some vs=>match oneOf vs with
    | v=>match upTo obs.length 0++Rx obs.length r v with
     | sg=>ev (Spec P cfg) [] (hget s.heap) (Gy sg v λ v' ids=>dy (lx sg) (dy (Ej ids sg) (iQ v'))) [] λ v' _ _=>jI [] (BL.ly dt 0) fuel v' r/\N8 s.heap sg dt
   | none=>False)->∃v,(results fn a'.tmps).run P w'=.ok v w'/\∃x Vu Vv,Ending.returned v=.returned x/\Rel cfg (DY w I O obs.length) (zE dt) (λ o=>o<dt.length) w' Vu Vv/\
   cQ w' Vu Vv (λ o=>o<dt.length) r x:=by
  intro a' w' I' O' hS' vs hvs h
  cases vs with
  | none=>exact h.elim
  | some vs=>exact main a' w' I' O' hS' ⟨vs,hvs,h⟩
 obtain⟨ms,hnd,_,hds,hms⟩:=hS0.marks;have hS1:=fD.turn (a:=a0) (w:=w0) (a':=⟨a0.tmps,[]⟩) ⟨λ _ _ h=>h,λ _ _=>rfl,afM _,λ _ _ _ h=>h⟩ (λ _ _=>rfl) hS0.rel.env rfl ⟨[],anq,λ _=>rfl,rfl,λ _ h=>by cases h⟩ hS0;cases e with
 | normal=>
  show LeavesInM _ _ _ _ _ _ a0.defers _ _;rw[hds];exact vV (cx:=DY w I O obs.length) (λ _ _ h=>h) (λ a w' I' O' hS'=>hret a w' I' O' hS' _ rfl hK) ms a0.tmps w0 I0 O0 hnd hms hS1
 | ret=>
  show LeavesInM _ _ _ _ _ _ a0.defers _ _;rw[hds];exact vV (cx:=DY w I O obs.length) (λ _ _ h=>h) (λ a w' I' O' hS'=>hret a w' I' O' hS' _ rfl hK) ms a0.tmps w0 I0 O0 hnd hms hS1
 | exit id=>exact hK.elim
 | goto l=>exact hK.elim
 | panic ch=>exact hK.elim
 | outgrown=>exact hK.elim
def YP (hc:ej P cfg) {f:FuncId} {fn:Func} {c:Code} {ct:ap0} {args:ap2} {obs:ap9} {r:AV} {dt:ap9} (hf:P.funcs[f]? = some fn) (hb:fn.body=some c) (hnm:(fn.name == "runtime.NumGoroutine")=false)
  (hN:args.length<=fn.ntmps) (hok:eY fn.ntmps c=true) (hle:obs.length<=dt.length)
  (h:ig cfg (Spec P cfg) ct (Loops P cfg fn.ntmps none obs.length) c ⟨CB args 0,BL.ly obs 0,obs.length⟩ (BL cfg (Spec P cfg) fn.results.toList obs.length r dt)):Spec P cfg f args obs r dt:=
 RQ hc hf hb hnm hN hle (fq hc c _ _ hok h)
end
end Go.Ab
namespace Go.Ab
section
variable {P:Program} {cfg:qX} {N:Nat} {cx:Ctx}
def aaS (o es:Nat) (g:Nat->AV) (v:AV):AV:=match v with
 | .bV o' i n f=>match Nat.beq o' o with
  | true=>.sl es n f (lu i g)
  | false=>.bV o' i n f
 | v=>v
def YQ (o es:Nat) (g:Nat->AV):ap2->ap2
 | []=>[]
 | v::l=>aaS o es g v::YQ o es g l
def aaT (o es:Nat) (g:Nat->AV) (v:AV):AV:=match v with
 | .agg cs=>.agg (YQ o es g cs)
 | v=>aaS o es g v
def T8 (o es:Nat) (g:Nat->AV):ap2->ap2
 | []=>[]
 | v::l=>aaT o es g v::T8 o es g l
def adV (o es:Nat) (g:Nat->AV) (v:AV):AV:=match v with
 | .fP cs=>.fP (T8 o es g cs)
 | v=>aaT o es g v
def JB (o es:Nat) (g:Nat->AV) (l:ap2):(YQ o es g l).length=l.length:=by
 induction l with
 | nil=>rfl
 | cons v l ih=>simp[YQ,ih]
def T9 (o es:Nat) (g:Nat->AV):∀(l:ap2) (j:Nat),nth (YQ o es g l) j=aaS o es g (nth l j):=by
 intro l;induction l with
 | nil=>intro j;rfl
 | cons v l ih=>intro j;cases j with
  | zero=>rfl
  | succ j=>exact ih j
def QS (o es:Nat) (g:Nat->AV) (l:ap2):(T8 o es g l).length=l.length:=by
 induction l with
 | nil=>rfl
 | cons v l ih=>simp[T8,ih]
def YR (o es:Nat) (g:Nat->AV):∀(l:ap2) (j:Nat),nth (T8 o es g l) j=aaT o es g (nth l j):=by
 intro l;induction l with
 | nil=>intro j;rfl
 | cons v l ih=>intro j;cases j with
  | zero=>rfl
  | succ j=>exact ih j
def aaU (o es:Nat) (g:Nat->AV):List (Nat×AV)->List (Nat×AV)
 | []=>[]
 | (t,v)::l=>(t,adV o es g v)::aaU o es g l
def YS (o es:Nat) (g:Nat->AV):∀(l:List (Nat×AV)) (t:Nat),eH (aaU o es g l) t=adV o es g (eH l t):=by
 intro l;induction l with
 | nil=>intro t;rfl
 | cons p l ih=>
  intro t;obtain⟨k,v⟩:=p;unfold aaU eH;simp only[look];cases hb:Nat.beq k t with
  | true=>rfl
  | false=>exact ih t
variable {H:Nat->Option cI} {D:Nat->Prop} {I:Nat->Prop} {g:Nat->AV}
theorem Ox {w:World} {O:OM} (hR:Rel cfg cx H D w I O) {o es n0:Nat} (ho:H o=some (.row es n0 g)) {v:AV} {x:Value} (h:cQ w I O D v x):
  cQ w (λ b=>I b\/yo O [o] b) (kill O [o]) D (aaS o es g v) x:=by
 have dflt:cQ w (λ b=>I b\/yo O [o] b) (kill O [o]) D v x:=
  h.mono (λ _ h=>.inl h) (λ _ _=>rfl) (λ o' _=>by unfold kill;by_cases h0:o'∈[o]<;>simp[h0]) (λ _ h=>h) hR.used
 unfold aaS;split
 ·rename_i o' i n f;split
  ·rename_i hb;have:=aeK hb;subst this;have he:dg (λ _ _ _ _ _=>True) H (PT 1 (.bV o' i n f) (λ u ids=>.ret u (dead ids))) (.sl es n f (lu i g)) (dead [o']) [o']:=.rd ho (.ret _ _);obtain⟨u,ids,r',h1,h2⟩:=(An hR 1).1 _ _ _ _ _ he;have hid:u=.sl es n f (lu i g)/\dead ids=dead [o']:=by
    have:=h1.ik;exact⟨this.1.symm,this.2.symm⟩
   have akE:ids=[o']:=by
    have h3:=hid.2;match ids,h3 with
    | [],h3=>cases h3
    | [a],h3=>simp[dead]at h3;rw[h3]
    | a::b::l,h3=>simp[dead]at h3
   rw[akE]at h2;rw[<- hid.1];exact .pure (h2 x h)
  exact dflt
 exact dflt
def Ua {w:World} {O:OM} (hR:Rel cfg cx H D w I O) {o es n0:Nat} (ho:H o=some (.row es n0 g)) {v:AV} {x:Value} (h:cQ w I O D v x):
  cQ w (λ b=>I b\/yo O [o] b) (kill O [o]) D (aaT o es g v) x:=by
 unfold aaT;split
 ·obtain⟨xs,rfl,hl,hr⟩:=h.nG;refine .agg (by rw[JB];exact hl) λ j hj=>?_;rw[JB]at hj;rw[T9];exact Ox hR ho (hr j hj)
 exact Ox hR ho h
def adW {w:World} {O:OM} (hR:Rel cfg cx H D w I O) {o es n0:Nat} (ho:H o=some (.row es n0 g)) {v:AV} {x:Value} (h:cQ w I O D v x):
  cQ w (λ b=>I b\/yo O [o] b) (kill O [o]) D (adV o es g v) x:=by
 unfold adV;split
 ·obtain⟨xs,rfl,hl,hr⟩:=h.BM;refine .fP (by rw[QS];exact hl) λ j hj=>?_;rw[QS]at hj;rw[YR];exact Ua hR ho (hr j hj)
 exact Ua hR ho h
end
end Go.Ab
namespace Go.Ab
section
variable {P:Program} {cfg:qX}
def Oy (P:Program) (cfg:qX) (N:Nat) (r:Option Nat) (m:Nat) (c:Code) (s:St) (K:Exit->St->Prop):Prop:=
 ∃e0 s0,K e0 s0/\Good P cfg N r m c s (λ e s=>e=e0/\s=s0)
structure akF (P:Program) (cfg:qX) (N:Nat) (r:Option Nat) (m:Nat) (c:Code) (s:St) (K:Exit->St->Prop):Prop where
 ok:Oy P cfg N r m c s K
def Oy.seq {N:Nat} {r:Option Nat} {m:Nat} {x y:Code} {s:St} {K:Exit->St->Prop} (h:Oy P cfg N r m x s λ e s'=>match e with | .normal=>Oy P cfg N r m y s' K | e=>K e s'):Oy P cfg N r m (.seq x y) s K:=by
 obtain⟨e1,s1,h1,h2⟩:=h;cases e1 with
 | normal=>
  obtain⟨e0,s0,h3,h4⟩:=h1;refine⟨e0,s0,h3,mT (h2.mono λ e s' h=>?_)⟩;obtain⟨rfl,rfl⟩:=h;exact h4
 | _=>
  refine⟨_,s1,h1,mT (h2.mono λ e s' h=>?_)⟩;obtain⟨rfl,rfl⟩:=h;exact⟨rfl,rfl⟩
end
end Go.Ab
namespace Go.Ab
section
variable {P:Program} {cfg:qX} {N:Nat} {cx:Ctx}
def aaV (o es:Nat) (g:Nat->AV):Option cI->Option cI
 | some (.box cs)=>some (.box (YQ o es g cs))
 | x=>x
def QT (o es:Nat) (g:Nat->AV):ic->ic
 | []=>[]
 | (k,x)::l=>(k,aaV o es g x)::QT o es g l
def agj (o:Nat) (s:St):St:=match hget s.heap o with
 | some (.row es _ g)=>⟨aaU o es g s.tmps,(o,none)::QT o es g s.heap,s.nx⟩
 | _=>s
def QU:ap0->St->St
 | [],s=>s
 | o::l,s=>QU l (agj o s)
def Wj (o es:Nat) (g:Nat->AV):∀(l:ic) (k:Nat),look (QT o es g l) k=(look l k).map (aaV o es g):=by
 intro l;induction l with
 | nil=>intro k;rfl
 | cons p l ih=>
  intro k;obtain⟨j,x⟩:=p;simp only[QT,look];cases Nat.beq j k with
  | true=>rfl
  | false=>exact ih k
def Wk (o es:Nat) (g:Nat->AV) (l:ic) (k:Nat):hget (QT o es g l) k=aaV o es g (hget l k):=by
 unfold hget;rw[Wj];cases look l k with
 | none=>rfl
 | some x=>cases x with
  | none=>rfl
  | some y=>cases y<;>rfl
def Wl {m:Nat} {s:St} {a:Act} {w:World} {I:Nat->Prop} {O:OM} (hS:fD cfg N m cx s a w I O) (o:Nat):∃I' O',fD cfg N m cx (agj o s) a w I' O':=by
 unfold agj;split
 ·rename_i es n0 g ho;obtain⟨hm,hR,hT,hMk⟩:=hS;refine⟨λ b=>I b\/yo O [o] b,kill O [o],hm,?_,⟨rfl,hT.size,λ t ht=>?_,hT.gone⟩,hMk⟩
  ·have hF:=hR.freeze [o];have e:∀o',hget ((o,none)::QT o es g s.heap) o'=if o'=o then none else aaV o es g (hget s.heap o'):=by
    intro o';rw[<- Wk];unfold hget;simp only[look];cases hb:Nat.beq o o' with
    | true=>have:=aeK hb;subst this;simp
    | false=>
     have:o'≠o:=λ e=>by subst e;simp at hb
     simp[this]
   have e2:∀o',jJ (hget s.heap) (dead [o]) o'=if o'=o then none else hget s.heap o':=by
    intro o';rw[GC];by_cases h:o'=o<;>simp[h]
   refine { hF with
    dom:=λ o'=>?_
    objs:=λ o' ob p lg hp=>?_ }
   ·rw[hF.dom o',e,e2];by_cases h:o'=o
    ·simp[h]
    rw[aeV h,aeV h];cases hget s.heap o' with
    | none=>exact apd
    | some y=>cases y<;>simp[aaV]
   rw[e]at lg;by_cases h:o'=o
   ·rw[afc h]at lg;cases lg
   rw[aeV h]at lg;have hk:kill O [o] o'=O o':=by unfold kill;simp[h]
   rw[hk]at hp;cases hy:hget s.heap o' with
   | none=>rw[hy]at lg;cases lg
   | some y=>
    rw[hy]at lg;have h2:=hF.objs o' y p (by rw[e2,aeV h];exact hy) (by rw[hk];exact hp);cases y with
    | row es' n' g'=>cases lg;exact h2
    | map kd z f=>cases lg;exact h2
    | box cs=>
     cases lg;obtain⟨h3,b,bo,sz,h4,h5,h6,h7⟩:=hR.objs o' (.box cs) p hy hp;refine⟨h3,b,bo,sz,h4,h5,by rw[JB];exact h6,λ j hj=>?_⟩;rw[JB]at hj;rw[T9];exact Ox hR ho (h7 j hj)
  show cQ w _ _ _ (eH (aaU o es g s.tmps) t) _;rw[YS];exact adW hR ho (hT.rep t ht)
 exact⟨I,O,hS⟩
def Mu {m:Nat}:∀(l:ap0) {s:St} {a:Act} {w:World} {I:Nat->Prop} {O:OM},fD cfg N m cx s a w I O->∃I' O',fD cfg N m cx (QU l s) a w I' O':=by
 intro l;induction l with
 | nil=>intro s a w I O h;exact⟨I,O,h⟩
 | cons o l ih=>
  intro s a w I O h;obtain⟨I',O',h'⟩:=Wl h o;exact ih h'
def G5 (m:Nat) (ρ:List (Nat×Option Nat)) (os:ap0) (s s':St):Prop:=Emb m ρ (QU os s) s'
def tn {m:Nat} {ρ:List (Nat×Option Nat)} {os:ap0} {s s':St} {a:Act} {w:World} {I:Nat->Prop} {O:OM} (hS:fD cfg N m cx s a w I O) (h:G5 m ρ os s s'):∃I' O',fD cfg N m cx s' a w I' O':=by
 obtain⟨I',O',h'⟩:=Mu os hS;exact⟨I',_,Au h' h⟩
end
end Go.Ab
namespace Go.Ab
section
variable {P:Program} {cfg:qX} {N:Nat} {cx:Ctx}
theorem P8 (hc:ej P cfg) {f:FuncId} {fn:Func} {c:Code} {args:ap2} {obs:ap9} {r:AV} {dt:ap9} {K:Exit->St->Prop} (hf:P.funcs[f]? = some fn) (hb:fn.body=some c) (hnm:(fn.name == "runtime.NumGoroutine")=false)
  (hN:args.length<=fn.ntmps) (hle:obs.length<=dt.length)
  (h:Good P cfg fn.ntmps none obs.length c ⟨CB args 0,BL.ly obs 0,obs.length⟩ K)
  (hend:∀e s,K e s->(e=.normal\/e=.ret)/\∀(cx:Ctx) (a':Act) (w':World) (I':Nat->Prop) (O':OM),cx.m=obs.length->fD cfg fn.ntmps obs.length cx s a' w' I' O'->∃v,(results fn a'.tmps).run P w'=.ok v w'/\∃Vu Vv,Rel cfg cx (zE dt) (λ o=>o<dt.length) w' Vu Vv/\
    cQ w' Vu Vv (λ o=>o<dt.length) r v):Spec P cfg f args obs r dt:=by
 refine⟨⟨fn,hf,by rw[hb];rfl,hnm⟩,hle,λ w I O vals hR hvs hrep=>?_⟩;refine(callsIn_wide (n:=0)).1 (callsIn_of_wp_marks hf hb trivial ?_);have hS:fD cfg fn.ntmps obs.length (DY w I O obs.length) ⟨CB args 0,BL.ly obs 0,obs.length⟩ { tmps:=vals++Array.replicate (fn.ntmps - vals.size) undef,defers:=[] } w I O:=by
  refine⟨rfl,?_,⟨rfl,by simp;omega,λ t _=>?_,λ t h=>by cases h⟩,⟨[],anq,λ _=>rfl,rfl,λ _ h=>by cases h⟩⟩
  ·rw[BR];exact hR
  rw[Ow];simp only[ahU,apa,apm];by_cases ht:t<args.length
  ·have e:(vals++Array.replicate (fn.ntmps - vals.size) undef).getD t Go.undef=vals.getD t Go.undef:=by
    have:t<vals.size:=by omega
    simp[alZ this]
   rw[e];exact hrep t ht
  have e:nth args t=.undef:=by
   rw[pJ];simp[anr (Nat.le_of_not_lt ht)]
  rw[e];exact .pure (.undef _)
 refine wpIn_mono (h 0 _ _ w I O hS rfl) ?_;intro e a0 w0 ⟨s,I0,O0,hK,hS0⟩;obtain⟨hex,hend⟩:=hend e s hK;have hret:∀(a':Act) (w':World) (I':Nat->Prop) (O':OM),fD cfg fn.ntmps obs.length (DY w I O obs.length) s a' w' I' O'->∃v,(results fn a'.tmps).run P w'=.ok v w'/\∃x Vu Vv,Ending.returned v=.returned x/\Rel cfg (DY w I O obs.length) (zE dt) (λ o=>o<dt.length) w' Vu Vv/\
   cQ w' Vu Vv (λ o=>o<dt.length) r x:=λ a' w' I' O' hS'=>by
  obtain⟨v,h1,Vu,Vv,h2,h3⟩:=hend _ a' w' I' O' rfl hS'
  exact⟨v,h1,v,Vu,Vv,rfl,h2,h3⟩
 obtain⟨ms,hnd,_,hds,hms⟩:=hS0.marks;have hS1:=fD.turn (a:=a0) (w:=w0) (a':=⟨a0.tmps,[]⟩) ⟨λ _ _ h=>h,λ _ _=>rfl,afM _,λ _ _ _ h=>h⟩ (λ _ _=>rfl) hS0.rel.env rfl ⟨[],anq,λ _=>rfl,rfl,λ _ h=>by cases h⟩ hS0;cases e with
 | normal=>
  show LeavesInM _ _ _ _ _ _ a0.defers _ _;rw[hds];exact vV (cx:=DY w I O obs.length) (λ _ _ h=>h) (λ a w' I' O' hS'=>hret a w' I' O' hS') ms a0.tmps w0 I0 O0 hnd hms hS1
 | ret=>
  show LeavesInM _ _ _ _ _ _ a0.defers _ _;rw[hds];exact vV (cx:=DY w I O obs.length) (λ _ _ h=>h) (λ a w' I' O' hS'=>hret a w' I' O' hS') ms a0.tmps w0 I0 O0 hnd hms hS1
 | exit id=>rcases hex with h | h<;>cases h
 | goto l=>rcases hex with h | h<;>cases h
 | panic ch=>rcases hex with h | h<;>cases h
 | outgrown=>rcases hex with h | h<;>cases h
def aaW (cfg:qX) (rs:List ResultVar) (m:Nat) (r:AV) (dt:ap9) (e:Exit) (s:St):Prop:=
 match (match e with | .normal=>true | .ret=>true | _=>false)with
 | true=>∃fz ρ,match QU fz s with
  | s'=>match CA cfg s' rs with
   | some vs=>Emb m ρ s' ⟨[],N9 dt 0,dt.length⟩/\jI ρ (N9 dt 0) fuel (oneOf vs) r
   | none=>False
 | false=>False
def YT:∀(obs:ap9) (i o:Nat),hget (N9 obs i) o=if i<=o then zE obs (o - i)else none:=by
 intro obs;induction obs with
 | nil=>intro i o;simp[N9,hget,look,zE]
 | cons x l ih=>
  intro i o;unfold N9 hget;simp only[look];cases hb:Nat.beq i o with
  | true=>
   have:=aeK hb;subst this;simp only[afM,apa,aow,zE];cases gz x<;>rfl
  | false=>
   have hne:i≠o:=λ e=>by subst e;simp at hb
   have:=ih (i+1) o;unfold hget at this;simp only;rw[this];by_cases h:i<=o
   ·rw[afc h,afc om];obtain⟨k,hk⟩:∃k,o - i=k+1:=⟨o - i - 1,by omega⟩;rw[hk,show o - (i+1)=k by omega];rfl
   rw[aeV h,aeV om]
def Wm (obs:ap9):hget (N9 obs 0)=zE obs:=by
 funext o;rw[YT];simp
variable {dt:ap9}
theorem aaX (hc:ej P cfg) {fn:Func} {m:Nat} {r:AV} {e:Exit} {s:St} (hm:m<=dt.length) (h:aaW cfg fn.results.toList m r dt e s):(e=.normal\/e=.ret)/\∀(cx:Ctx) (a':Act) (w':World) (I':Nat->Prop) (O':OM),cx.m=m->fD cfg fn.ntmps m cx s a' w' I' O'->
  ∃v,(results fn a'.tmps).run P w'=.ok v w'/\∃Vu Vv,Rel cfg cx (zE dt) (λ o=>o<dt.length) w' Vu Vv/\cQ w' Vu Vv (λ o=>o<dt.length) r v:=by
 unfold aaW at h;have he:(e=.normal\/e=.ret):=by
  cases e with
  | normal=>exact .inl rfl
  | ret=>exact .inr rfl
  | _=>exact h.elim
 refine⟨he,λ cx a' w' I' O' hcm hS=>?_⟩;have h:∃fz ρ,match QU fz s with
  | s'=>match CA cfg s' fn.results.toList with
   | some vs=>Emb m ρ s' ⟨[],N9 dt 0,dt.length⟩/\jI ρ (N9 dt 0) fuel (oneOf vs) r
   | none=>False:=by
  rcases he with rfl | rfl<;>exact h
 obtain⟨fz,ρ,h⟩:=h;obtain⟨I1,O1,hS1⟩:=Mu fz hS;generalize QU fz s=s' at h hS1;simp only at h;cases hv:CA cfg s' fn.results.toList with
 | none=>rw[hv]at h;exact h.elim
 | some vs=>
  rw[hv]at h;obtain⟨hE,hV⟩:=h;obtain⟨x,hrun,hx⟩:=Ms hc hS1 hv;have hS2:=Au hS1 hE;refine⟨x,hrun,I1,kJ ρ (N9 dt 0) O1,?_,?_⟩
  ·have:=hS2.rel;rw[show hget (N9 dt 0)=zE dt from Wm dt]at this;exact this
  exact JA hS1.rel.dom (XA hE.heap).x fuel _ _ x hx hV
def pK (hc:ej P cfg) {f:FuncId} {fn:Func} {c:Code} {ct:ap0} {args:ap2} {obs:ap9} {r:AV} {dt:ap9} (hf:P.funcs[f]? = some fn) (hb:fn.body=some c) (hnm:(fn.name == "runtime.NumGoroutine")=false)
  (hN:args.length<=fn.ntmps) (hok:eY fn.ntmps c=true) (hle:obs.length<=dt.length)
  (h:ig cfg (Spec P cfg) ct (Loops P cfg fn.ntmps none obs.length) c ⟨CB args 0,BL.ly obs 0,obs.length⟩ (aaW cfg fn.results.toList obs.length r dt)):Spec P cfg f args obs r dt:=
 P8 hc hf hb hnm hN hle (fq hc c _ _ hok h) (λ _ _ hk=>aaX hc hle hk)
end
end Go.Ab
namespace Go.Ab
section
variable {P:Program} {cfg:qX}
def agk:ZK->Value->Bool
 | .bool,.bool false=>true
 | .int k,.int k' n=>decide (k=k')&&decide (n=0)
 | .str,.string s=>s.data.isEmpty
 | .slice,.slice none 0 0=>true
 | .ptr,.pointer none=>true
 | .other,x=>x.oneCell'
 | _,_=>false
def XB:aqa->List Value->Bool
 | [],[]=>true
 | z::l,v::m=>agk z v&&XB l m
 | _,_=>false
def agl:TD->TypeDesc->Bool
 | .bool,.bool=>true
 | .int k,.int k'=>decide (k=k')
 | .str,.string=>true
 | .slice e,.slice e'=>Nat.beq e e'
 | .pointer e,.pointer e'=>Nat.beq e e'
 | .map k e,.map k' e'=>Nat.beq k k'&&Nat.beq e e'
 | .array n e,.array n' e'=>Nat.beq n n'&&Nat.beq e e'
 | .struct fs,.struct fields=>decide (fields.toList.map (λ f=>(f.offset,f.type))=fs)
 | .other,_=>true
 | _,_=>false
def fieldsB (P:Program):TypeDesc->Bool
 | .struct fields=>fields.toList.all λ f=>(P.info? f.type).isSome
 | _=>true
def XC (P:Program) (t:TypeId) (ti:Gw):Bool:=
 match P.info? t,P.underlying t with
 | some i,some d=>match i.zero with
  | some z=>Nat.beq i.size ti.size&&Nat.beq i.bytes ti.bytes&&decide (d.isRow=ti.agg)&&Nat.beq z.cells.size ti.size&&XB ti.zero z.cells.toList&&agl ti.desc d&&fieldsB P d&&(ti.agg||z.oneCell')
  | none=>false
 | _,_=>false
def RR (P:Program):List (Nat×Gw)->Bool
 | []=>true
 | (t,ti)::l=>XC P t ti&&RR P l
def YU {z:ZK} {v:Value} (h:agk z v=true):Em z v:=by
 unfold agk at h;split at h
 ·rfl
 ·simp only[aeP,ahQ]at h;obtain⟨rfl,rfl⟩:=h;rfl
 ·rename_i s;show Value.string s=.string ByteArray.empty;have:s.data=#[]:=by simpa using h
  cases s;simp only at this;rw[this];rfl
 ·rfl
 ·rfl
 ·exact h
 cases h
def Wn:∀(zs:aqa) (vs:List Value),XB zs vs=true->zs.length=vs.length/\∀j,j<zs.length->Em (zs.getD j .other) (vs.getD j Go.undef):=by
 intro zs;induction zs with
 | nil=>intro vs h;cases vs with
  | nil=>exact⟨rfl,λ j hj=>by cases hj⟩
  | cons=>cases h
 | cons z zs ih=>intro vs h;cases vs with
  | nil=>cases h
  | cons v vs=>
   simp only[XB,aeP]at h
   obtain⟨h1,h2⟩:=ih vs h.2
   refine⟨by simp[h1],λ j hj=>?_⟩
   cases j with
   | zero=>exact YU h.1
   | succ j=>simpa using h2 j (by simpa using hj)
def YV {t:TD} {d:TypeDesc} (h:agl t d=true):aaf t d:=by
 unfold agl at h;split at h
 ·rfl
 ·have:=afj h;subst this;rfl
 ·rfl
 ·have:=aeK h;subst this;rfl
 ·have:=aeK h;subst this;rfl
 ·simp only[aeP]at h;have h1:=aeK h.1;have h2:=aeK h.2;subst h1;subst h2;rfl
 ·simp only[aeP]at h;have h1:=aeK h.1;have h2:=aeK h.2;subst h1;subst h2;rfl
 ·exact⟨_,rfl,afj h⟩
 ·trivial
 cases h
def YW {z:Value} (h:z.oneCell'=true):z.cells=#[z]:=by cases z<;>first | rfl | cases h
variable {t:TypeId}
def Oz {ti:Gw} (h:XC P t ti=true):aib P t ti/\∀d,P.underlying t=some d->Mj P d:=by
 unfold XC at h;split at h
 ·rename_i i d hi hd;split at h
  ·rename_i z hz;simp only[aeP,ahQ]at h;obtain⟨⟨⟨⟨⟨⟨⟨h1,h2⟩,h3⟩,h4⟩,h5⟩,h6⟩,h7⟩,h10⟩:=h;have e1:=aeK h1;have e2:=aeK h2;have e4:=aeK h4;obtain⟨h8,h9⟩:=Wn _ _ h5;have hlen:ti.zero.length=ti.size:=by rw[h8,<- e4];simp
   refine⟨⟨⟨i,d,z,hi,hd,hz,e1,e2,h3,e4,hlen,λ j hj=>?_,YV h6⟩,λ ha i' z' hi' hz'=>?_⟩,λ d' hd'=>?_⟩
   ·have:=h9 j om;simpa using this
   ·rw[hi]at hi';cases hi';rw[hz]at hz';cases hz';rw[ha]at h10;exact YW h10
   rw[hd]at hd';cases hd';cases d with
   | struct fields=>
    simp only[fieldsB,ajL]at h7;exact h7
   | _=>trivial
  cases h
 cases h
def Mv:∀(l:List (Nat×Gw)),RR P l=true->∀t ti,look l t=some ti->XC P t ti=true:=by
 intro l;induction l with
 | nil=>intro _ t ti h;cases h
 | cons q l ih=>
  intro h t ti hl;obtain⟨k,tk⟩:=q;simp only[RR,aeP]at h;simp only[look]at hl;cases hb:Nat.beq k t with
  | true=>
   simp only[hb]at hl;cases hl;rw[<- aeK hb];exact h.1
  | false=>simp only[hb]at hl;exact ih h.2 t ti hl
def aaY (P:Program) (t:TypeId):Option ZK:=match P.underlying t with
 | some .bool=>some .bool
 | some (.int k)=>some (.int k)
 | some .string=>some .str
 | _=>none
def OA (P:Program) (fl:TypeId->Option aqa):List Field->Nat->Option aqa
 | [],_=>some []
 | f::fs,k=>match decide (f.name ≠ "_")&&Nat.beq f.offset k with
  | true=>match aaY P f.type with
   | some z=>match OA P fl fs (k+1)with
    | some l=>some (z::l)
    | none=>none
   | none=>match fl f.type with
    | some z1=>match Nat.beq (P.cellsOf f.type) z1.length,OA P fl fs (k+z1.length)with
     | true,some l=>some (z1++l)
     | _,_=>none
    | none=>none
  | false=>none
def XD (P:Program):Nat->TypeId->Option aqa
 | 0,_=>none
 | n+1,t=>match P.underlying t,P.stoodInHeld t with
  | some (.struct fields),false=>OA P (XD P n) fields.toList 0
  | _,_=>none
def XE (P:Program) (t:TypeId) (zs:aqa):Bool:=decide (XD P 4 t=some zs)&&!P.eqGuardType P.depth t
def RS (P:Program):List (Nat×aqa)->Bool
 | []=>true
 | (t,zs)::l=>XE P t zs&&RS P l
def Wo {z:ZK} (h:aaY P t=some z):∃d,P.underlying t=some d/\Ry z d:=by
 unfold aaY at h;split at h
 ·rename_i e;cases h;exact⟨_,e,rfl⟩
 ·rename_i e;cases h;exact⟨_,e,rfl⟩
 ·rename_i e;cases h;exact⟨_,e,rfl⟩
 cases h
def Ub {fl:TypeId->Option aqa} {ok:TypeId->aqa->Prop} (hfl:∀t zs,fl t=some zs->ok t zs):∀(fs:List Field) (zs:aqa) (k:Nat),OA P fl fs k=some zs->ads P ok fs zs k:=by
 intro fs;induction fs with
 | nil=>intro zs k h;cases h;trivial
 | cons f fs ih=>
  intro zs k h;unfold OA at h;split at h
  ·rename_i hb;simp only[aeP,ahQ]at hb;refine⟨hb.1,aeK hb.2,?_⟩;split at h
   ·rename_i z hz;split at h
    ·rename_i l hl;cases h;obtain⟨d,h1,h2⟩:=Wo hz;exact⟨[z],l,rfl,.inl ⟨z,d,rfl,h1,h2⟩,ih _ _ hl⟩
    cases h
   split at h
   ·rename_i z1 hz1;split at h
    ·rename_i l hs hl;cases h;exact⟨z1,l,rfl,.inr ⟨hfl _ _ hz1,aeK hs⟩,ih _ _ hl⟩
    cases h
   cases h
  cases h
def Wp:∀(n:Nat) (t:TypeId) (zs:aqa),XD P n t=some zs->EqT P n t zs:=by
 intro n;induction n with
 | zero=>intro t zs h;cases h
 | succ n ih=>
  intro t zs h;unfold XD at h;split at h
  ·rename_i fields hu hh;exact⟨fields,hu,hh,Ub ih _ _ _ h⟩
  cases h
def Wq {zs:aqa} (h:XE P t zs=true):aic P t zs:=by
 unfold XE at h;simp only[aeP,ahA,ahQ]at h;exact⟨Wp _ _ _ h.1,h.2⟩
def Uc:∀(l:List (Nat×aqa)),RS P l=true->∀t zs,look l t=some zs->XE P t zs=true:=by
 intro l;induction l with
 | nil=>intro _ t ti h;cases h
 | cons q l ih=>
  intro h t ti hl;obtain⟨k,tk⟩:=q;simp only[RS,aeP]at h;simp only[look]at hl;cases hb:Nat.beq k t with
  | true=>
   simp only[hb]at hl;cases hl;rw[<- aeK hb];exact h.1
  | false=>simp only[hb]at hl;exact ih h.2 t ti hl
def aaZ (h:RR P cfg.ty=true) (hm:P.follows .mixedOrders=true) (he:RS P cfg.eqs=true):ej P cfg where
 ty:=λ t ti hl=>(Oz (Mv _ h t ti hl)).1
 fields:=λ t ti d hl=>(Oz (Mv _ h t ti hl)).2 d
 mixed:=hm
 eqs:=λ t zs hl=>Wq (Uc _ he t zs hl)
def jV {c:Bool} {A B:Prop} (h1:c=true->A) (h2:c=false->B):N3 c A B:=by
 cases c
 ·exact h2 rfl
 exact h1 rfl
end
end Go.Ab
namespace Go.Ab
def KN.XF {l m:ap2} (h1:l.length=m.length) (h2:∀j,j<l.length->Le (nth l j) (nth m j)):KN l m:=by
 induction l generalizing m with
 | nil=>cases m with
  | nil=>trivial
  | cons=>simp at h1
 | cons u l ih=>cases m with
  | nil=>simp at h1
  | cons v m=>exact⟨h2 0 (by simp),ih (by simpa using h1) λ j hj=>h2 (j+1) (by simpa using hj)⟩
variable {ρ:List (Nat×Option Nat)}
def XG {H':ic} {f:Nat} {u v:AV} (h:Le u v) (hp:lY v=true):jI ρ H' (f+1) u v:=by
 cases h with
 | refl=>
  cases u<;>simp only[lY]at hp<;>first
   | (cases hp;done)
   | (unfold jI;exact trivial)
   | (unfold jI;exact rfl)
   | (unfold jI;exact⟨rfl,rfl⟩)
   | (unfold jI;exact⟨rfl,λ _=>rfl,λ h=>h,λ i _=>.refl _⟩)
   | (unfold jI;exact KN.refl _)
   | (unfold jI;exact⟨rfl,rfl,rfl⟩)
 | sl hn he hf h=>unfold jI;exact⟨hn,he,hf,h⟩
 | ro hl h=>unfold jI;exact KN.XF hl h
 | agg=>cases hp
 | fP=>cases hp
 | fn=>cases hp
def adX {H':ic}:∀(l m:ap2) (f:Nat),l.length+1<f->KN l m->tc m=true->jI.Jm ρ H' f l m:=by
 intro l;induction l with
 | nil=>
  intro m f hf h _;cases m with
  | nil=>cases f with
   | zero=>omega
   | succ f=>unfold jI.Jm;trivial
  | cons=>exact h.elim
 | cons u l ih=>
  intro m f hf h hp;cases m with
  | nil=>exact h.elim
  | cons v m=>
   cases f with
   | zero=>omega
   | succ f=>
    cases f with
    | zero=>simp at hf
    | succ f=>
     unfold tc at hp;split at hp
     ·rename_i hv;unfold jI.Jm;exact⟨XG h.1 hv,ih m (f+1) (by simp at hf;omega) h.2 hp⟩
     cases hp
abbrev iV (n:Int):AV:=.int .i64 n
def aS {α:Type} (f:α->AV) (d:α) (l:List α):Nat->AV:=λ i=>f (l.getD i d)
def aa0 (l:apU):AV:=.sl 1 l.length false (aS iV 0 l)
def I64 (l:apU):Prop:=∀x∈l,av x
def I64.get {l:apU} (h:I64 l) (i:Nat):av (l.getD i 0):=by
 rw[ad7];cases hi:l[i]? with
 | none=>exact⟨by decide,by decide⟩
 | some x=>exact h x (List.mem_of_getElem? hi)
structure Tp where
 l:apU
 pos:Nat
def Tp.ok (t:Tp):Prop:=I64 t.l/\t.l.length<=500/\t.pos<=t.l.length
def Tp.raw (t:Tp):Int×Tp:=if t.l.length<=t.pos then(0,t)else(t.l.getD t.pos 0,⟨t.l,t.pos+1⟩)
def akG (x n:Int):Int:=if n<1 then 0 else x % n
def Tp.n (t:Tp) (n:Int):Int×Tp:=(akG t.raw.1 n,t.raw.2)
def Tp.range (t:Tp) (lo hi:Int):Int×Tp:=(lo+(t.n (hi - lo+1)).1,(t.n (hi - lo+1)).2)
def Tp.pick (t:Tp) (l:apU):Int×Tp:=(l.getD (t.n l.length).1.toNat 0,(t.n l.length).2)
variable {α:Type} {i:Nat}
def drop_cons {l:List α} (d:α) (h:i<l.length):l.drop i=l.getD i d::l.drop (i+1):=by
 rw[ad7,aeA h];exact aoN h
def getD_take (l:List α) (d:α) {k:Nat} (h:i<k):(l.take k).getD i d=l.getD i d:=by
 rw[ad7,ad7,List.getElem?_take_of_lt h]
def getD_drop (l:List α) (d:α) (k i:Nat):(l.drop k).getD i d=l.getD (k+i) d:=by
 rw[ad7,ad7,aoU]
def eI {l:List α} (d:α) (h:i<l.length):l.take (i+1)=l.take i++[l.getD i d]:=by
 rw[ad7,aeA h];exact List.take_succ_eq_append_getElem h
def pL {β:Type} (f:β->α->β) (a:β) {l:List α} (d:α) (h:i<l.length):(l.take (i+1)).foldl f a=f ((l.take i).foldl f a) (l.getD i d):=by
 rw[eI d h,aoZ];rfl
def fe {l:List α} (d:α) (h:i<l.length):l.getD i d∈l:=by
 rw[ad7,aeA h];exact ai1 _
def take_len {l:List α} (h:i<=l.length):(l.take i).length=i:=by
 rw[afs,aok h]
def gT {l m:List α} (d:α) (h:i<l.length):(l++m).getD i d=l.getD i d:=by
 rw[ad7,ad7,aku h]
def gU {l:List α} {x:α} {m:List α} (d:α) (h:i=l.length):(l++x::m).getD i d=x:=by
 rw[ad7,ako om,h];simp
def EA {l:List α} (d:α) (h:l.length<=i):l.getD i d=d:=by
 rw[ad7,anr h];rfl
section
variable {P:Program} {cfg:qX} {N:Nat} {cx:Ctx}
def Ud {r:Option Nat} {n n':Nat} {c:Code} {Q:Exit->Act->World->Prop} {a:Act} {w:World} (h:c.wpIn (FW r) n P Q a w):c.wpIn (FW r) n' P Q a w:=
 λ b k cs hro hb _=>h b k cs hro hb (λ _ hd=>by cases hd)
def GI (W:World) (I:Nat->Prop) (O:OM) (m:Nat):Ctx:=⟨W,λ b=>∃o p bo sz,O o=some p/\p.pl=some (b,bo,sz),I,O,m,λ k o=>W.heap[k]? = some o/\GB o=true,true⟩
variable {H:Nat->Option cI} {D:Nat->Prop} {W:World} {I:Nat->Prop} {m:Nat}
def Rel.enter {O:OM} (hR:Rel cfg cx H D W I O) (hno:∀o kd z f,H o≠some (.map kd z f)) (hm:∀o,o<m->D o):Rel cfg (GI W I O m) H D W I O where
 dom:=hR.dom
 used:=hR.used
 objs:=hR.objs
 inj:=hR.inj
 lz:=hR.lz
 lt:=hR.lt
 uX:=hR.uX
 size:=afM _
 frame:=λ _ _ _=>rfl
 new:=λ o p _ bo sz h1 h2=>.inr ⟨o,p,bo,sz,h1,h2⟩
 glob:=hR.glob
 Jf:=λ _ h=>h
 KQ:=λ _ h=>.inl h
 NH:=λ _ _=>.inl rfl
 Dm:=hm
 env:=⟨eK.refl _,λ _ _ h=>h⟩
variable {H':Nat->Option cI} {D':Nat->Prop} {W':World} {I':Nat->Prop}
def Rel.back {O O':OM} (h0:Rel cfg cx H D W I O) (h1:Rel cfg (GI W I O m) H' D' W' I' O') (hm:∀o,o<cx.m->o<m):Rel cfg cx H' D' W' I' O' where
 dom:=h1.dom
 used:=h1.used
 objs:=h1.objs
 inj:=h1.inj
 lz:=h1.lz
 lt:=h1.lt
 uX:=h1.uX
 size:=af3 h0.size h1.size
 frame:=λ b hb hM=>by
  rw[h1.frame b (ajM hb h0.size) (λ⟨o,p,bo,sz,q1,q2⟩=>by
   rcases h0.new o p b bo sz q1 q2 with h | h
   ·omega
   exact hM h)]
  exact h0.frame b hb hM
 new:=λ o p b bo sz q1 q2=>by
  rcases h1.new o p b bo sz q1 q2 with h | ⟨o',p',la,sz',q3,q4⟩
  ·exact .inl (af3 h0.size h)
  exact h0.new o' p' b la sz' q3 q4
 glob:=h1.glob
 Jf:=λ b h=>h1.Jf b (h0.Jf b h)
 KQ:=λ b h=>by
  rcases h1.KQ b h with h | h | ⟨o',p',la,sz',q3,q4⟩
  ·exact h0.KQ b h
  ·exact .inr (.inl (af3 h0.size h))
  exact .inr (h0.new o' p' b la sz' q3 q4)
 NH:=λ o ho=>by
  rcases h1.NH o (hm o ho)with h | h
  ·rw[h];exact h0.NH o ho
  exact .inr h
 Dm:=λ o ho=>h1.Dm o (hm o ho)
 env:=h0.env.step h1.env.same
def Rel.Wr {O O':OM} (h0:Rel cfg cx H D W I O) (h1:Rel cfg (GI W I O m) H' D' W' I' O') (b:Nat) (hb:I b):W'.heap[b]? = W.heap[b]? :=
 h1.frame b (h0.uX b hb) (λ⟨o,p,bo,sz,q1,q2⟩=>h0.lz o p b bo sz q1 q2 hb)
def cQ.behind {O O':OM} (h0:Rel cfg cx H (λ o=>o<m) W I O) (h1:Rel cfg (GI W I O m) H' D' W' I' O') {v:AV} {x:Value} (h:cQ W I O (λ o=>o<m) v x):cQ W' I' O' D' v x:=
 h.mono h1.Jf (h0.Wr h1) h1.NH h1.Dm h0.used
def CF (w:World) (o:Obj):nJ (w.alloc o) w:=by
 have hlt:∀a:Addr,(w.cell? a).isSome=true->a.block<w.heap.size:=λ a h=>by
  obtain⟨v,hv⟩:=ai3.1 h;exact World.block_lt_of_cell? _ _ hv
 have hb:∀a:Addr,a.block<w.heap.size->(w.alloc o).heap[a.block]? = w.heap[a.block]? := λ a h=>by
  show(w.heap.push o)[a.block]? = _;rw[aoo h,ahY h]
 refine⟨λ a v hv=>?_,λ a hv=>?_,by simp,λ b es c hbb=>by
  have hlt2:b<w.heap.size:=by
   rcases aiZ b w.heap.size with h1 | h1
   ·exact h1
   rw[ajA h1]at hbb;cases hbb
  show(w.heap.push o)[b]? = _;rw[aoo hlt2,<- hbb,ahY hlt2]⟩
 ·rw[<- hv,World.cell?_of_block (hb a (hlt a (by rw[hv];rfl)))]
 exact World.frozen?_of_block (hb a (hlt a hv))
def Iu:ic->Bool
 | []=>true
 | (_,x)::l=>match x with
  | some (.map ..)=>false
  | _=>Iu l
def Mw:∀ {H:ic},Iu H=true->∀o kd z f,hget H o≠some (.map kd z f):=by
 intro H;induction H with
 | nil=>intro _ o kd z f h;cases h
 | cons u l ih=>
  intro h o kd z f;obtain⟨q,x⟩:=u;unfold Iu at h;unfold hget look;split at h
  ·cases h
  rename_i hx;cases hb:Nat.beq q o with
  | true=>
   simp only;cases x with
   | none=>intro h;cases h
   | some x=>
    intro h;cases h;exact hx kd z f rfl
  | false=>simp only;exact ih h o kd z f
def OB (P:Program) (gf:FuncId) (caps:ap2) (len:Nat) (e0 e1:Nat->AV):Prop:=
 (∀args w,(callFunc gf args).run P w=.ok (.enter gf args) w)/\
 ∀(w:World) (I:Nat->Prop) (lb:Array Value),(∀b,I b->b<w.heap.size)->lb.size=caps.length->(∀j,j<caps.length->eF w I (nth caps j) (lb.getD j Go.undef))->
  ∃v0 v1:Nat->Value,(∀k,k<len->eF w I (e0 k) (v0 k)/\eF w I (e1 k) (v1 k))/\
   ∀(l n:Nat) (J:Nat->World->Prop) (Jx:World->Prop) (W:World),(∀b,I b->W.heap[b]? = w.heap[b]?)->
    (∀k W1,k<len->J k W1->YieldAt (FW none) n P l #[v0 k,v1 k] W1 λ e W'=>(e=.returned (.bool true)/\J (k+1) W'/\∀b,I b->W'.heap[b]? = W1.heap[b]?)\/(e=.returned (.bool false)/\Jx W'))->
    J 0 W->CallsIn (FW none) n P gf (#[.func (.yield l) #[] #[]]++lb) W λ e W'=>(∃v,e=.returned v)/\(J len W'\/Jx W')
def akH {β:Type} (p0 p1:α) (v0 v1:β):(#[p0,p1]:Array α).zip #[v0,v1]=#[(p0,v0),(p1,v1)]:=by
 apply akD.1;simp
def wU (t:Nat):fc (λ _=>true) (some t) true=λ _=>true:=by
 funext k;unfold fc;simp
theorem YX (hc:ej P cfg) {m:Nat} {ct ct':ap0} {g:Operand} {p0 p1:Nat} {assign body:Code} {s:St} {K:Exit->St->Prop} (Ws:eY N assign=true) (agn:eY N body=true) (hp0:p0<N) (hp1:p1<N)
  {gf:FuncId} {caps:ap2} {len:Nat} {e0 e1:Nat->AV} (hit:OB P gf caps len e0 e1) (hg:ND cfg (eH s.tmps) g=.fn gf caps) (aa1:∀v∈caps,∃cs,v=.ro cs)
  {α:Type} (st:α->St) (st1:Nat->α->St) (hnm:∀k gx,Iu (st gx).heap=true/\Iu (st1 k gx).heap=true) (x0:α) (ρ0:List (Nat×Option Nat)) (h0:Emb m ρ0 s (st x0)) (inv:Nat->α->Prop) (hi0:inv 0 x0)
  (ha:∀k l gx,k<len->inv k gx->m<=(st gx).nx/\ig cfg (Spec P cfg) ct (Loops P cfg N (some l) (st gx).nx) assign ⟨(p1,e1 k)::(p0,e0 k)::(st gx).tmps,(st gx).heap,(st gx).nx⟩ (λ e s'=>match e with | .normal=>∃ρ,Emb (st gx).nx ρ s' (st1 k gx) | _=>False))
  (hb:∀k l gx,k<len->inv k gx->ig cfg (Spec P cfg) ct' (Loops P cfg N (some l) (st1 k gx).nx) body (st1 k gx) (λ e s'=>match e with | .normal=>∃x' ρ,inv (k+1) x'/\Emb m ρ ⟨(st gx).tmps,s'.heap,s'.nx⟩ (st x') | .ret=>K .ret ⟨(st gx).tmps,s'.heap,s'.nx⟩ | _=>False))
  (hK:∀gx,inv len gx->K .normal (st gx)):Loops P cfg N none m (.rangeFunc g #[p0,p1] assign body) s K:=by
 refine⟨λ n cx0 a w I O hS0 hrd=>Ud (n:=3) ?_⟩;obtain⟨ms,hnd,_,hds,hms⟩:=hS0.marks;obtain⟨cx,hcx⟩:∃cx,cx=cx0.also ms:=⟨_,rfl⟩;have hcw:cx.w0=cx0.w0:=by rw[hcx];rfl
 have hcm:cx.m=cx0.m:=by rw[hcx];rfl
 have hR0:Rel cfg cx (hget s.heap) (λ o=>o<s.nx) w I O:=by rw[hcx];exact hS0.rel.also (λ D hD=>(hms D hD).2)
 obtain⟨lb,hgv,hlb,hlr⟩:=(hg ▸ qb hS0.rel hS0.tmps g (λ _ _=>rfl)).En;have hcp:∀j,j<caps.length->eF w I (nth caps j) (lb.getD j Go.undef):=λ j hj=>by
  have hmem:nth caps j∈caps:=by rw[pJ];rw[ad7,aeA hj];exact ai1 _
  obtain⟨cs,hcs⟩:=aa1 _ hmem;have:=hlr j hj;rw[hcs]at this ⊢;cases this with
  | pure h=>exact h
 obtain⟨v0,v1,hel,hrun⟩:=hit.2 w I lb hR0.uX hlb hcp;refine wpIn_rangeFunc ?_;intro fn hfn;obtain⟨rc,hrc⟩:∃rc:LoopState->Option Code->Loop,rc=λ st pe=>{ state:=st,pending:=pe,fn,tmps:=a.tmps,params:=#[p0,p1],assign,body,defers:=w.heap.size }:=⟨_,rfl⟩;obtain⟨W1,hW1⟩:∃W1,W1=(w.alloc (.deferred (some []))).alloc (.loop (rc .ready none)):=⟨_,rfl⟩;have hsz1:W1.heap.size=w.heap.size+2:=by rw[hW1];simp
 have hD1:W1.heap[w.heap.size]? = some (.deferred (some [])):=by
  rw[hW1];show((w.heap.push _).push _)[w.heap.size]? = _;have hp:(w.heap.push (Obj.deferred (some []))).size=w.heap.size+1:=Array.size_push _;rw[Array.getElem?_push,aeV om,Array.getElem?_push_size]
 have hL1:W1.heap[w.heap.size+1]? = some (.loop (rc .ready none)):=by
  have:=World.alloc_heap_new (w.alloc (.deferred (some []))) (.loop (rc .ready none));rw[World.size_alloc]at this;rw[hW1];exact this
 have aa2:∀b,b<w.heap.size->W1.heap[b]? = w.heap[b]? := λ b hb=>by
  rw[hW1];show((w.heap.push _).push _)[b]? = _;rw[aoo (by simp;omega),Array.getElem_push_lt hb,ahY hb]
 have adY:nJ W1 w:=by
  rw[hW1];have q1:=CF w (.deferred (some []));have q2:=CF (w.alloc (.deferred (some []))) (.loop (rc .ready none));exact⟨λ x v h=>q2.cell x v (q1.cell x v h),λ x h=>by
   rw[q2.frozen x (by obtain⟨v,hv⟩:=ai3.1 h;rw[q1.cell x v hv];rfl),q1.frozen x h],af3 q1.size q2.size,λ b es c h=>q2.maps b es c (q1.maps b es c h)⟩
 have aiJ:Am cx W1:=by
  rw[hW1];exact(hR0.env.step (eK.alloc _ _)).step (eK.alloc _ _)
 have akI:∀k o,cx.K k o->k<w.heap.size:=λ k o h=>by
  have:=(hR0.env.kept k o h).1;rcases aiZ k w.heap.size with h1 | h1
  ·exact h1
  rw[ajA h1]at this;cases this
 have hw0:cx.w0.heap.size<=w.heap.size:=hR0.size;have aa3:∀(W:World) (k:Nat) (o:Obj),w.heap.size<=k->Am cx W->Am cx (W.putObj k o):=λ W k o hk he=>by
  refine⟨⟨he.same.os,he.same.tape,he.same.output,λ i x hi hx=>?_⟩,λ i x hi=>?_⟩
  ·have hlt:i<cx.w0.heap.size:=by
    rcases aiZ i cx.w0.heap.size with h1 | h1
    ·exact h1
    rw[ajA h1]at hi;cases hi
   rw[World.putObj_heap_other om];exact he.same.keep i x hi hx
  rw[World.putObj_heap_other (by have:=akI i x hi;omega)];exact he.kept i x hi
 have NM:∀(W:World),Marks cx W ([]:List Deferred):=λ W=>⟨[],anq,λ _=>rfl,rfl,λ _ h=>by cases h⟩
 have hS1:fD cfg N m cx s ⟨a.tmps,[]⟩ w I O:=⟨hcm.trans hS0.m,hR0,⟨rfl,hS0.tmps.size,hS0.tmps.rep,hS0.tmps.gone⟩,NM w⟩;have hS2:=Au hS1 h0;have RT:∀ {s':St} {W:World} {I':Nat->Prop} {O':OM} {o:Obj} (o':Obj),W.heap[w.heap.size+1]? = some o->GB o=true/\(∀es c,o≠.map es c)->fD cfg N m cx s' ⟨a.tmps,[]⟩ W I' O'->fD cfg N m cx s' ⟨a.tmps,[]⟩ (W.putObj (w.heap.size+1) o') I' O':=λ o' ho hn hS=>
  hS.turn (zG ho hn.1 hn.2) (λ b hb=>World.putObj_heap_other om) (aa3 _ _ _ om hS.rel.env) rfl (NM _)
 refine⟨w.heap.size+1,[Ov w.heap.size],W1,{ target:=.fn (.func gf) lb,args:=#[.func (.yield (w.heap.size+1)) #[] #[]] },W1,gf,#[.func (.yield (w.heap.size+1)) #[] #[]]++lb,W1,?_,?_,λ _ _=>trivial,?_,(λ h=>by cases h),?_⟩
 ·rw[hW1,hrc];exact run_enterLoop_outer _ _ _ _ _
 ·simp only[resolve,hgv];simp[go_sem]
 ·simp[invoke,go_sem,hit.1]
 refine(hrun (w.heap.size+1) (3 - 1)
  (λ k W=>∃gx,inv k gx/\∃I1 O1,fD cfg N m cx (st gx) ⟨a.tmps,[]⟩ W I1 O1/\(∀b,I b->I1 b)/\(∀b,I b->W.heap[b]? = w.heap[b]?)/\W.heap[w.heap.size+1]? = some (.loop (rc .ready none))/\W.heap[w.heap.size]? = some (.deferred (some [])))
  (λ W=>∃s' I1 O1,K .ret s'/\fD cfg N m cx s' ⟨a.tmps,[]⟩ W I1 O1/\W.heap[w.heap.size+1]? = some (.loop (rc .done (some .ret)))/\W.heap[w.heap.size]? = some (.deferred (some [])))
  W1 (λ b hb=>aa2 b (hR0.uX b hb)) ?_ ?_).mono ?_
 ·rintro k W hk ⟨gx,hiv,I1,O1,hS,hII,hkeep,hl,hD⟩;have hlW:w.heap.size+1<W.heap.size:=(ajR.1 hl).1;have hy:=run_yield (P:=P) (args:=#[v0 k,v1 k]) hl (by rw[hrc];rfl);rw[hrc]at hy;refine⟨fn,_,assign,body,hy,roundIn_of_wpIn hfn ?_⟩;clear hy;obtain⟨hnx,hxa⟩:=ha k (w.heap.size+1) gx hk hiv;have hmx:∀o,o<cx.m->o<(st gx).nx:=λ o ho=>ajM (by rw[hS.m]at ho;exact ho) hnx;have hRr:=hS.rel.enter (Mw (hnm k gx).1) (m:=(st gx).nx) (λ _ h=>h);have hwI:∀b,I b->W.heap[b]? = w.heap[b]? := hkeep;obtain⟨he0,he1⟩:=hel k hk;have hpe:∀ {v:AV} {x:Value},eF w I v x->cQ W I1 O1 (λ o=>o<(st gx).nx) v x:=λ h=>.pure (h.mono hII hwI);have hT1:=um.put hS.tmps (λ _ _ h=>h) (some p0) (λ _ h=>by cases h;exact hp0) (e0 k) (v0 k) true (λ _=>hpe he0) (λ h=>by cases h);have hT2:=um.put hT1 (λ _ _ h=>h) (some p1) (λ _ h=>by cases h;exact hp1) (e1 k) (v1 k) true (λ _=>hpe he1) (λ h=>by cases h);rw[wU,wU,<- kI,<- kI]at hT2;have hSa:fD cfg N (st gx).nx (GI W I1 O1 (st gx).nx) ⟨(p1,e1 k)::(p0,e0 k)::(st gx).tmps,(st gx).heap,(st gx).nx⟩ { tmps:=(a.tmps.setIfInBounds p0 (v0 k)).setIfInBounds p1 (v1 k),defers:=[] } W I1 O1:=
   ⟨rfl,hRr,hT2,⟨[],anq,λ _=>rfl,rfl,λ _ h=>by cases h⟩⟩
  have hga:=fq hc assign _ _ Ws hxa (3 - 1) _ _ W I1 O1 hSa rfl;have htm:((#[p0,p1]:Array Tmp).zip #[v0 k,v1 k]).foldl (λ tmps (t,a)=>tmps.setIfInBounds t a) a.tmps=(a.tmps.setIfInBounds p0 (v0 k)).setIfInBounds p1 (v1 k):=by rw[akH];rfl
  refine wpIn_mono (htm ▸ hga) ?_;rintro e a2 W2 ⟨s2,I2,O2,hk2,hSb⟩;cases e with
  | normal=>
   obtain⟨ρ,hE⟩:=hk2;have hSc:=Au hSb hE;have hRc:=hS.rel.back hSc.rel hmx;have hl2:=(hSc.rel.env.kept _ _ ⟨hl,rfl⟩).1;have hD2:=(hSc.rel.env.kept _ _ ⟨hD,rfl⟩).1;have akK:=λ b hb=>hS.rel.Wr hSc.rel b (hII b hb);refine⟨_,run_beginRound hl2 (by rw[hrc]),?_⟩;have akL:w.heap.size+1<W2.heap.size:=(ajR.1 hl2).1;obtain⟨W3,hW3⟩:∃W3,W3=W2.putObj (w.heap.size+1) (.loop { rc .ready none with state:=.busy }):=⟨_,rfl⟩;rw[<- hW3];have hl3:W3.heap[w.heap.size+1]? = some (.loop { rc .ready none with state:=.busy }):=by rw[hW3];exact World.putObj_heap_same akL
   have hD3:W3.heap[w.heap.size]? = some (.deferred (some [])):=by rw[hW3];exact(World.putObj_heap_other om).trans hD2
   have agp:nJ W3 W2:=by rw[hW3];exact zG hl2 rfl
   have hR3:Rel cfg cx (hget (st1 k gx).heap) (λ o=>o<(st1 k gx).nx) W3 I2 (kJ ρ (st1 k gx).heap O2):=hRc.turn agp (λ b hb=>by rw[hW3];exact World.putObj_heap_other om) (by rw[hW3];exact aa3 _ _ _ om hRc.env);have hnx1:(st gx).nx<=(st1 k gx).nx:=by
    have:=hE.BB;unfold VK at this;split at this
    ·exact ahk this
    cases this
   have hT0:∀t,cQ W3 I2 (kJ ρ (st1 k gx).heap O2) (λ o=>o<(st1 k gx).nx) (eH (st gx).tmps t) (a.tmps.getD t Go.undef):=λ t=>(cQ.behind hS.rel hSc.rel (hS.tmps.rep t rfl)).turn agp;have hRd:=hR3.enter (Mw (hnm k gx).2) (m:=(st1 k gx).nx) (λ _ ho=>ho);have hSd:fD cfg N (st1 k gx).nx (GI W3 I2 (kJ ρ (st1 k gx).heap O2) (st1 k gx).nx) (st1 k gx) a2 W3 I2 (kJ ρ (st1 k gx).heap O2):=by
    refine⟨rfl,hRd,⟨rfl,hSc.tmps.size,λ t ht=>(hSc.tmps.rep t ht).turn agp,λ t ht=>by cases ht⟩,?_⟩;have:a2.defers=[]:=by
     obtain⟨ms2,_,h1,h2,_⟩:=hSc.marks;rw[h1 rfl]at h2;exact h2
    rw[this];exact⟨[],anq,λ _=>rfl,rfl,λ _ h=>by cases h⟩
   have hgb:=fq hc body _ _ agn (hb k (w.heap.size+1) gx hk hiv) (3 - 1) _ _ W3 I2 _ hSd rfl;refine wpIn_mono hgb ?_;rintro e a4 W4 ⟨s4,I4,O4,hk4,hSe⟩;have hRe:=hR3.back hSe.rel (λ o ho=>ajM (hmx o ho) hnx1);have hl4:=(hSe.rel.env.kept _ _ ⟨hl3,rfl⟩).1;have hD4:=(hSe.rel.env.kept _ _ ⟨hD3,rfl⟩).1;have aiK:w.heap.size+1<W4.heap.size:=(ajR.1 hl4).1;have aiL:∀b,I b->I2 b:=λ b hb=>hSc.rel.Jf b (hII b hb);have aiM:∀b,I b->W4.heap[b]? = W.heap[b]? := λ b hb=>by
    have hbl:=hR0.uX b hb;rw[hR3.Wr hSe.rel b (aiL b hb),hW3,World.putObj_heap_other om];exact akK b hb
   have hT4:fD cfg N m cx ⟨(st gx).tmps,s4.heap,s4.nx⟩ ⟨a.tmps,[]⟩ W4 I4 O4:=
    ⟨hS.m,hRe,⟨rfl,hS.tmps.size,λ t _=>cQ.behind hR3 hSe.rel (hT0 t),λ t ht=>by cases ht⟩,NM _⟩
   cases e with
   | normal=>
    obtain⟨x4,ρ4,akM,hE4⟩:=hk4;have hSf:=Au hT4 hE4;refine⟨_,_,run_endRound none hl4,.inl ⟨rfl,⟨x4,akM,I4,_,RT _ hl4 ⟨rfl,nofun⟩ hSf,λ b hb=>hSe.rel.Jf b (aiL b hb),λ b hb=>?_,?_,?_⟩,λ b hb=>?_⟩⟩
    ·have hbl:=hR0.uX b hb;rw[World.putObj_heap_other om,aiM b hb];exact hkeep b hb
    ·rw[World.putObj_heap_same aiK,hrc];rfl
    ·rw[World.putObj_heap_other om];exact hD4
    have hbl:=hR0.uX b hb;rw[World.putObj_heap_other om];exact aiM b hb
   | ret=>
    refine⟨_,_,run_endRound (some .ret) hl4,.inr ⟨rfl,_,I4,O4,hk4,RT _ hl4 ⟨rfl,nofun⟩ hT4,?_,?_⟩⟩
    ·rw[World.putObj_heap_same aiK,hrc];rfl
    rw[World.putObj_heap_other om];exact hD4
   | exit id=>exact hk4.elim
   | goto t=>exact hk4.elim
   | panic ch=>exact hk4.elim
   | outgrown=>exact hk4.elim
  | ret=>exact hk2.elim
  | exit id=>exact hk2.elim
  | goto t=>exact hk2.elim
  | panic ch=>exact hk2.elim
  | outgrown=>exact hk2.elim
 ·exact⟨x0,hi0,I,_,hS2.turn adY (λ b hb=>aa2 b om) aiJ rfl (NM _),λ _ h=>h,λ b hb=>aa2 b (hR0.uX b hb),hL1,hD1⟩
 have fin:∀ {s':St} {W:World} {I':Nat->Prop} {O':OM} {o:Obj} (o':Obj),W.heap[w.heap.size+1]? = some o->GB o=true/\(∀es c,o≠.map es c)->W.heap[w.heap.size]? = some (.deferred (some []))->fD cfg N m cx s' ⟨a.tmps,[]⟩ W I' O'->
   fD cfg N m cx0 s' { a with defers:=Ov w.heap.size::a.defers } (W.putObj (w.heap.size+1) o') I' O':=by
  intro s' W I' O' o o' ho hn hD hS
  have hS':=RT o' ho hn hS
  have hRx:=hS'.rel
  rw[hcx]at hRx
  obtain⟨hRy,hmy⟩:=hRx.aaN
  refine⟨hS0.m,hRy,⟨rfl,hS'.tmps.size,hS'.tmps.rep,hS'.tmps.gone⟩,⟨w.heap.size::ms,?_,(λ h=>by rw[hrd]at h;cases h),?_,λ D hDm=>?_⟩⟩
  ·refine aom.2 ⟨λ hin=>?_,hnd⟩
   have:=(hms _ hin).2
   rw[ajA (afM _)]at this
   cases this
  ·show Ov w.heap.size::a.defers=_
   rw[hds]
   rfl
  rcases ah0.1 hDm with rfl | hDm
  ·exact⟨by rw[<- hcw];exact hw0,(World.putObj_heap_other om).trans hD⟩
  exact⟨(hms D hDm).1,hmy D hDm⟩
 rintro e W2 ⟨⟨v,rfl⟩,⟨gx,hiv,I2,O2,agq,_,_,hl2,hD2⟩ | ⟨s2,I2,O2,hk2,agq,hl2,hD2⟩⟩
 ·exact⟨none,_,by have:=run_endLoop (P:=P) hl2 (by rw[hrc];simp);rw[hrc]at this;exact this,st gx,I2,O2,hK gx hiv,fin _ hl2 ⟨rfl,nofun⟩ hD2 agq⟩
 exact⟨some .ret,_,by have:=run_endLoop (P:=P) hl2 (by rw[hrc];simp);rw[hrc]at this;exact this,wpIn_ret ⟨s2,I2,O2,hk2,fin _ hl2 ⟨rfl,nofun⟩ hD2 agq⟩⟩
end
end Go.Ab
namespace Go.Ab
inductive M:Type->Type 1 where
 | ret {R:Type} (v:R):M R
 | need {R:Type} (p:Prop) (d:Decidable p) (m:M R):M R
 | grd {R:Type} (p:Prop) (d:Decidable p) (m:M R) (z:R):M R
 | bnd {A R:Type} (m:M A) (k:A->M R):M R
 | sup {R:Type} (f:Nat->M R):M R
 | bot {R:Type}:M R
def M.den:{R:Type}->M R->R->Prop
 | _,.ret v,r=>r=v
 | _,.need p _ m,r=>p/\den m r
 | _,.grd p _ m _,r=>p->den m r
 | _,.bnd m k,r=>∃v,den m v/\den (k v) r
 | _,.sup f,r=>∃n,den (f n) r
 | _,.bot,_=>False
instance {R:Type}:CoeFun (M R) λ _=>R->Prop:=⟨M.den⟩
instance {x:Int}:Decidable (av x):=by unfold av;infer_instance
def need {R:Type} (p:Prop) [d:Decidable p] (m:M R):M R:=.need p d m
def grd {R:Type} [Inhabited R] (p:Prop) [d:Decidable p] (m:M R):M R:=.grd p d m default
def bnd {A R:Type} (m:M A) (k:A->M R):M R:=.bnd m k
def ret {R:Type} (v:R):M R:=.ret v
def itM {σ R:Type} (F:(σ->M R)->σ->M R):Nat->σ->M R
 | 0=>λ _=>.bot
 | n+1=>F (itM F n)
def bU {σ R:Type} (F:(σ->M R)->σ->M R) (s:σ):M R:=.sup λ n=>itM F n s
noncomputable def M.ex (n:Nat) {R:Type} (m:M R):Option R:=
 @M.rec (λ R _=>Option R) (λ v=>some v) (λ _ d _ ih=>match d with | .isTrue _=>ih | .isFalse _=>none) (λ _ d _ z ih=>match d with | .isTrue _=>ih | .isFalse _=>some z)
  (λ _ _ ih ihk=>match ih with | some v=>ihk v | none=>none) (λ _ ih=>ih n) none R m
variable {R:Type}
def M.agr (n:Nat) (m:M R):∀r,m.ex n=some r->m r:=by
 induction m with
 | ret v=>intro r h;exact(ah1 h).symm
 | need p d m ih=>
  intro r h;cases d with
  | isTrue hp=>exact⟨hp,ih r h⟩
  | isFalse hp=>exact absurd h (by show ¬ (none=some r);nofun)
 | grd p d m z ih=>
  intro r h;cases d with
  | isTrue hp=>exact λ _=>ih r h
  | isFalse hp=>exact λ q=>absurd q hp
 | bnd m k ih ihk=>
  intro r h;have h:(match m.ex n with | some v=>(k v).ex n | none=>none)=some r:=h;cases hv:m.ex n with
  | none=>rw[hv]at h;cases h
  | some v=>rw[hv]at h;exact⟨v,ih v hv,ihk v r h⟩
 | sup f ih=>intro r h;exact⟨n,ih n r h⟩
 | bot=>intro r h;cases h
def aH {p:Prop} {d:Decidable p} {m:M R} {r:R} {K:Prop} (hm:need p m r) (h:p->m r->K):p/\K:=⟨hm.1,h hm.1 hm.2⟩
def cO {c:Bool} {x y:M R} {r:R} {A B:Prop} (hm:(cond c x y) r) (h1:c=true->x r->A) (h2:c=false->y r->B):N3 c A B:=by
 cases c
 ·exact h2 rfl hm
 exact h1 rfl hm
def bS {A:Type} {m:M A} {k:A->M R} {r:R} {G:Prop} (hm:bnd m k r) (h:∀v,m v->k v r->G):G:=by
 obtain⟨v,h1,h2⟩:=hm;exact h v h1 h2
section
variable {P:Program} {cfg:qX} {N:Nat}
variable {m:Nat} {s:St}
theorem RU {r:Option Nat} {c:Code} {K:Exit->St->Prop} {α:Type} (st:α->St) (inv:α->Prop) (μ:α->Nat) (x0:α) (ρ0:List (Nat×Option Nat)) (os0:ap0) (h0:inv x0) (hE:G5 m ρ0 os0 s (st x0))
  (round:∀x,inv x->Good P cfg N r m c (st x) (λ e s'=>match e with | .normal=>∃x' ρ os,inv x'/\μ x'<μ x/\G5 m ρ os s' (st x') | e=>K e s')):Loops P cfg N r m (.loop c) s K:=by
 refine⟨λ n0 cx a w I O hS hrd=>?_⟩;obtain⟨I1,O1,hS1⟩:=tn hS hE;refine wpIn_loop_ghost (λ n a w=>∃x I O,inv x/\n=μ x/\fD cfg N m cx (st x) a w I O) (μ x0) ⟨x0,I1,O1,h0,rfl,hS1⟩ ?_;intro n a w hI;obtain⟨x,I,O,hx,rfl,hS⟩:=hI;refine wpIn_mono (round x hx n0 cx a w I O hS hrd) ?_;intro e a' w' ⟨s',I',O',h1,h2⟩;cases e with
 | normal=>
  obtain⟨x',ρ,os,h3,h4,h5⟩:=h1;obtain⟨I2,O2,hS2⟩:=tn h2 h5;exact⟨μ x',h4,x',I2,O2,h3,rfl,hS2⟩
 | exit id=>exact⟨s',I',O',h1,h2⟩
 | goto l=>exact⟨s',I',O',h1,h2⟩
 | ret=>exact⟨s',I',O',h1,h2⟩
 | panic ch=>exact⟨s',I',O',h1,h2⟩
 | outgrown=>exact⟨s',I',O',h1,h2⟩
variable {c:Code}
theorem mu (hc:ej P cfg) {rr:Option Nat} {ct:ap0} {K:Exit->St->Prop} (hok:eY N c=true) {σ:Type} {F:(σ->M R)->σ->M R} {x0:σ} {r:R} (hm:bU F x0 r) (st:σ->St) (ρ0:List (Nat×Option Nat)) (os0:ap0) (hE:G5 m ρ0 os0 s (st x0))
  (round:∀(self:σ->M R) (x:σ),F self x r->ig cfg (Spec P cfg) ct (Loops P cfg N rr m) c (st x) (λ e s'=>match e with | .normal=>∃x' ρ os,self x' r/\G5 m ρ os s' (st x') | e=>K e s')):Loops P cfg N rr m (.loop c) s K:=by
 obtain⟨n0,h0⟩:=hm;refine RU (λ x:σ×Nat=>st x.1) (λ x=>itM F x.2 x.1 r) (λ x=>x.2) (x0,n0) ρ0 os0 h0 hE ?_;rintro ⟨x,n⟩ hx;cases n with
 | zero=>exact hx.elim
 | succ n=>
  refine(fq hc c (st x) _ hok (round (itM F n) x hx)).mono ?_;intro e s' h;cases e with
  | normal=>
   obtain⟨x',ρ,os,h1,h2⟩:=h;exact⟨(x',n),ρ,os,h1,ao6 n,h2⟩
  | _=>exact h
theorem EB (hc:ej P cfg) {rr:Option Nat} {m:Nat} {ct:ap0} {x y:Code} {s:St} {K:Exit->St->Prop} (aa4:eY N x=true) (YY:eY N y=true) {σ:Type} (k:σ->M R) (r:R) (st:σ->St)
  (h1:ig cfg (Spec P cfg) ct (Loops P cfg N rr m) x s (λ e s'=>match e with | .normal=>∃x' ρ os,k x' r/\G5 m ρ os s' (st x') | e=>K e s'))
  (h2:∀x',k x' r->ig cfg (Spec P cfg) ct (Loops P cfg N rr m) y (st x') K):Loops P cfg N rr m (.seq x y) s K:=by
 refine⟨mT ((fq hc x s _ aa4 h1).mono ?_)⟩;intro e s' h;cases e with
 | normal=>
  obtain⟨x',ρ,os,h3,h4⟩:=h;exact λ n0 cx a w I O hS hrd=>by
   obtain⟨I',O',h'⟩:=tn hS h4;exact fq hc y (st x') K YY (h2 x' h3) n0 cx a w I' O' h' hrd
 | _=>exact h
structure aa5 (P:Program) (cfg:qX) (N:Nat) (r:Option Nat) (m:Nat) (c:Code) (K:Exit->St->Prop) (M:Nat) (s:St):Prop where
 ok:∀(n0:Nat) (cx:Ctx) (a:Act) (w:World) (I:Nat->Prop) (O:OM),fD cfg N m cx s a w I O->cx.rd=r.isSome->Code.roundsIn (FW r) n0 P c (λ e a' w'=>∃s' I' O',K e s'/\fD cfg N m cx s' a' w' I' O') M a w
theorem fh (hc:ej P cfg) {r:Option Nat} {m:Nat} {ct:ap0} {s:St} {K:Exit->St->Prop} {M:Nat} (hok:eY N c=true)
  (h:ig cfg (Spec P cfg) ct (Loops P cfg N r m) c s (λ e s'=>match e with | .normal=>aa5 P cfg N r m c K M s' | e=>K e s')):aa5 P cfg N r m c K (M+1) s:=by
 refine⟨λ n0 cx a w I O hS hrd=>?_⟩;rw[roundsIn_succ];refine wpIn_mono (fq hc c s _ hok h n0 cx a w I O hS hrd) ?_;intro e a' w' ⟨s',I',O',h1,h2⟩;cases e with
 | normal=>exact h1.ok n0 cx a' w' I' O' h2 hrd
 | exit id=>exact⟨s',I',O',h1,h2⟩
 | goto l=>exact⟨s',I',O',h1,h2⟩
 | ret=>exact⟨s',I',O',h1,h2⟩
 | panic ch=>exact⟨s',I',O',h1,h2⟩
 | outgrown=>exact⟨s',I',O',h1,h2⟩
variable {r:Option Nat} {K:Exit->St->Prop}
def Mx (M:Nat) (h:aa5 P cfg N r m c K M s):Loops P cfg N r m (.loop c) s K:=
 ⟨λ n0 cx a w I O hS hrd=>wpIn_loop_rounds M (h.ok n0 cx a w I O hS hrd)⟩
end
end Go.Ab
namespace Go.Ab
variable {α:Type}
def eS {f:α->AV} {d:α} {l:List α} {k:Nat} (_h:k<=l.length):∀i,i<k->Le (aS f d l i) (aS f d (l.take k) i):=λ i hi=>by
 unfold aS;rw[getD_take l d hi];exact .refl _
variable {g:Nat->AV}
def cZ (f:α->AV) (d:α) (l:List α) {n:Nat} (hg:g=Me (l.map f):=by rfl) (hn:n<=l.length:=by exact ahk rfl):∀i,i<n->Le (g i) (aS f d l i):=λ i hi=>by
 subst hg;unfold aS Me;rw[pJ,ad7,anW,ad7,aeA om];exact .refl _
variable {n:Nat}
def Av {f:α->AV} {d:α} {x:α} {l:List α} (h0:Le (g 0) (f x)) (ht:∀i,i<n->Le ((λ j=>g (j+1)) i) (aS f d l i)):∀i,i<n+1->Le (g i) (aS f d (x::l) i):=λ i hi=>by
 cases i with
 | zero=>exact h0
 | succ i=>exact ht i om
def eG {f:α->AV} {d:α} {l m:List α} {k:Nat} {h:Nat->AV} (hn:n=l.length) (hg:∀i,i<n->Le (g i) (aS f d l i)) (hk:k=m.length) (hh:∀i,i<k->Le (h i) (aS f d m i)):∀i,i<n+k->Le (appG n g h i) (aS f d (l++m) i):=λ i hi=>by
 unfold appG;cases hb:Nat.blt i n with
 | true=>
  have hlt:i<n:=by simpa using hb
  have:=hg i hlt;unfold aS at this ⊢;rw[gT d om];exact this
 | false=>
  have hge:n<=i:=by
   rcases aiZ i n with h | h
   ·rw[show Nat.blt i n=true by simpa using h]at hb;cases hb
   exact h
  have:=hh (i - n) om;unfold aS at this ⊢;rw[ad7,ako om,<- ad7,<- hn];exact this
def YZ {f:α->AV} {d:α} {l:List α} {a N:Nat} (hg:∀i,i<N->Le (g i) (aS f d l i)) (h:a+n<=N):∀i,i<n->Le (g (a+i)) (aS f d ((l.drop a).take n) i):=λ i hi=>by
 have:=hg (a+i) om;unfold aS at this ⊢;rw[getD_take _ d hi,getD_drop];exact this
def GJ {f:α->AV} {d:α} {l:List α} {a N:Nat} (hg:∀i,i<N->Le (g i) (aS f d l i)) (h:a+n<=N):∀i,i<n->Le (lu a g i) (aS f d ((l.drop a).take n) i):=λ i hi=>by
 rw[wR];exact YZ hg h i hi
def jE {f:α->AV} {d:α} {l:List α} {j:Nat} {v:AV} {x:α} (hg:∀i,i<n->Le (g i) (aS f d l i)) (hn:n=l.length) (hv:Le v (f x)):∀i,i<n->Le (Tc g j v i) (aS f d (l.set j x) i):=λ i hi=>by
 unfold Tc;cases hb:Nat.beq i j with
 | true=>
  have:=aeK hb;subst this;unfold aS;rw[ad7,aj3 om];exact hv
 | false=>
  have hne:i≠j:=λ e=>by subst e;simp at hb
  have:=hg i hi;unfold aS at this ⊢;rw[ad7,an1 om,<- ad7];exact this
def Iv {α:Type} (l:List α) (i:Nat) (s:List α):List α:=l.mapIdx λ j x=>if i<=j then s.getD (j - i) x else x
def dO (l:List α) (i:Nat) (s:List α):(Iv l i s).length=l.length:=by
 unfold Iv;rw[List.length_mapIdx]
def GK (d:α) {l s:List α} {i j:Nat} (hj:j<l.length):(Iv l i s).getD j d=if i<=j/\j<i+s.length then s.getD (j - i) d else l.getD j d:=by
 unfold Iv;rw[ad7,List.getElem?_mapIdx,aeA hj,ad7 (l:=l),aeA hj];simp only[ajW,akP];by_cases h1:i<=j
 ·rw[afc h1];by_cases h2:j<i+s.length
  ·rw[afc ⟨h1,h2⟩,ad7,ad7,aeA om];rfl
  rw[aeV om,ad7,anr om];rfl
 rw[aeV h1,aeV om]
variable {m:Nat}
def OC {f:α->AV} {d:α} {l s:List α} {i:Nat} {h:Nat->AV} (hn:n=l.length) (hg:∀j,j<n->Le (g j) (aS f d l j)) (hm:m=s.length) (hh:∀j,j<m->Le (h j) (aS f d s j)):∀j,j<n->Le (Xe i m g h j) (aS f d (Iv l i s) j):=λ j hj=>by
 unfold aS;rw[GK d om];by_cases hin:i<=j/\j<i+m
 ·rw[afc om,Oi hin.1 hin.2];exact hh (j - i) om
 rw[aeV om,Jt hin];exact hg j hj
def OD (f:α->AV) (d:α) {n:Nat} {z:AV} (hz:Le z (f d):=by exact .refl _):∀i,i<n->Le ((λ _=>z) i) (aS f d (List.replicate n d) i):=λ i hi=>by
 unfold aS;rw[ad7,aoj,afc hi];exact hz
def strOf (l:apU):ByteArray:=BJ l.length 0 (aS (AV.int .u8) 0 l) ByteArray.empty
def u8L:ap2->Bool
 | []=>true
 | v::l=>afR v&&u8L l
def aa6:∀ {es:ap2},u8L es=true->∀i,i<es.length->afR (Me es i)=true:=by
 intro es;induction es with
 | nil=>intro _ i h;exact absurd h (ag9 _)
 | cons v l ih=>
  intro h i hi;simp only[u8L,aeP]at h;cases i with
  | zero=>exact h.1
  | succ i=>exact ih h.2 i (by simpa using hi)
def Ue {ρ:List (Nat×Option Nat)} {H':ic} {f:Nat} {u v:AV} (h:Le u v) (hp:ah5 v=true) (hl:v.cells.length+2<f):jI ρ H' f u v:=by
 obtain⟨f,rfl⟩:∃f',f=f'+1:=⟨f - 1,by omega⟩;cases v with
 | agg cs'=>
  have key:∀cs,KN cs cs'->jI ρ H' (f+1) (.agg cs) (.agg cs'):=by
   intro cs hcs;unfold jI;have:=(xj _ _ hcs).1;exact adX cs cs' f (by simp[AV.cells]at hl;omega) hcs hp
  cases h with
  | refl=>exact key _ (KN.refl _)
  | agg hl h=>exact key _ (KN.XF hl h)
 | _=>exact XG h hp
def DZ {α:Type} (f:α->AV) (X:Nat->α):Nat->AV:=λ i=>f (X i)
def upd {α:Type} (X:Nat->α) (i:Nat) (x:α):Nat->α:=λ j=>bif Nat.beq j i then x else X j
def Y0 (X:Nat->α) (i:Nat) (x:α):upd X i x i=x:=by
 unfold upd;rw[show Nat.beq i i=true by simp];rfl
def ad1 {f:α->AV} {X:Nat->α} {j:Nat} {v:AV} {x:α} (hg:∀i,i<n->Le (g i) (DZ f X i)) (hv:Le v (f x)):∀i,i<n->Le (Tc g j v i) (DZ f (upd X j x) i):=λ i hi=>by
 unfold Tc DZ upd;cases hb:Nat.beq i j with
 | true=>exact hv
 | false=>exact hg i hi
def RV {f:α->AV} {X:Nat->α} (h1:∀x,(f x).cells=[f x]):∀(n k i:Nat),i<n->nth (iC n k (DZ f X)) i=f (X (k+i)):=by
 intro n;induction n with
 | zero=>intro k i h;exact absurd h (ag9 _)
 | succ n ih=>
  intro k i hi;simp only[iC];have:(DZ f X k).cells=[f (X k)]:=h1 _;rw[this];cases i with
  | zero=>rfl
  | succ i=>
   show nth (iC n (k+1) (DZ f X)) i=_;rw[ih (k+1) i om];congr 2;omega
def QV {f:α->AV} {X:Nat->α} (h1:∀x,(f x).cells=[f x]):∀i,i<n->Le (Me (iC n 0 (DZ f X)) i) (DZ f X i):=λ i hi=>by
 unfold Me;rw[RV h1 n 0 i hi,ahq];exact .refl _
def ad2 {f:α->AV} {d:α} {X:Nat->α} :∀i,i<n->Le (DZ f X i) (aS f d ((List.range n).map X) i):=λ i hi=>by
 unfold DZ aS;rw[ad7,anW,aps hi];exact .refl _
def kK (x:cI) (h:(match x with | .map .. => false | _=>true)=true:=by rfl):LeO x x:=by
 cases x with
 | box cs=>exact KN.refl cs
 | row es n g=>exact⟨rfl,rfl,λ _ _=>.refl _⟩
 | map=>cases h
def length_eq {l:List α} (h:n=l.length):n=l.length:=h
def vac {c b:Bool} (h:(c==b)=false):¬ c=b:=by
 rintro rfl;simp at h
def W {R:Type} (m:M R) (Q:R->Prop):Prop:=∃r,m r/\Q r
variable {R:Type}
def ai {v:R} {Q:R->Prop} (h:Q v):W (ret v) Q:=⟨v,rfl,h⟩
def aF {p:Prop} {d:Decidable p} {m:M R} {Q:R->Prop} (hp:p) (h:W m Q):W (need p m) Q:=by
 obtain⟨r,h1,h2⟩:=h;exact⟨r,⟨hp,h1⟩,h2⟩
def ar {A:Type} {m:M A} {k:A->M R} {P:A->Prop} {Q:R->Prop} (h:W m P) (hk:∀v,P v->W (k v) Q):W (bnd m k) Q:=by
 obtain⟨v,h1,h2⟩:=h;obtain⟨r,h3,h4⟩:=hk v h2;exact⟨r,⟨v,h1,h3⟩,h4⟩
def br {c:Bool} {x y:M R} {Q:R->Prop} (h1:c=true->W x Q) (h2:c=false->W y Q):W (cond c x y) Q:=by
 cases c
 ·exact h2 rfl
 exact h1 rfl
def K7 {m:M R} {Q Q':R->Prop} (h:W m Q) (hq:∀r,Q r->Q' r):W m Q':=by
 obtain⟨r,h1,h2⟩:=h;exact⟨r,h1,hq r h2⟩
def sJ {m:M R} {v:R} (h:m v):W m (λ r=>r=v):=⟨v,h,rfl⟩
def iU {m:M R} {v:R} (h:W m (λ r=>r=v)):m v:=by
 obtain⟨r,h1,rfl⟩:=h;exact h1
def lp {A:Type} [Inhabited A] {c:Prop} [Decidable c] {m:M A} {P:A->Prop} (h:c->W m P):W (grd c m) (λ v=>c->P v):=by
 by_cases hc:c
 ·obtain⟨v,h1,h2⟩:=h hc;exact⟨v,λ _=>h1,λ _=>h2⟩
 exact⟨default,λ h=>absurd h hc,λ h=>absurd h hc⟩
def bu {σ:Type} {F:(σ->M R)->σ->M R} {Q:R->Prop} (inv:σ->Prop) (μ:σ->Nat) (h:∀(self:σ->M R) (s:σ),inv s->(∀s',inv s'->μ s'<μ s->W (self s') Q)->W (F self s) Q) {s:σ} (hs:inv s):W (bU F s) Q:=by
 have key:∀n s,inv s->μ s<n->W (itM F n s) Q:=by
  intro n;induction n with
  | zero=>intro s _ h;exact absurd h (ag9 _)
  | succ n ih=>intro s hs hn;exact h _ s hs λ s' h1 h2=>ih s' h1 om
 obtain⟨r,h1,h2⟩:=key (μ s+1) s hs (ao6 _);exact⟨r,⟨_,h1⟩,h2⟩
section
variable {P:Program} {cfg:qX} {N:Nat}
def QW {r:Option Nat} {n0:Nat} {oA oB:Oper} {Q:Exit->Act->World->Prop} {a:Act} {w:World} (hA:oA.guard=none) (hB:oB.guard=none) (hdA:∀c,oA.op≠.defer c) (hdB:∀c,oB.op≠.defer c)
  {x y:Value} (h1:(execOp a.eval oA).run P w=.ok (.value x) w) (h2:(execOp (a.put oA.dst x).eval oB).run P w=.ok (.value y) w) (h:Q .normal ((a.put oA.dst x).put oB.dst y) w):
  wpOpsIn (FW r) n0 P #[oA,oB] Q (List.range 2) a w:=by
 show wpOpsIn (FW r) n0 P #[oA,oB] Q [0,1] a w;unfold wpOpsIn;simp only[apb,aoX];rw[afc (by unfold Region.wanted;rw[hA])];refine RN hdA (oy h1 ?_);unfold wpOpsIn;simp only[apb,List.getElem?_cons_succ,aoX];rw[afc (by unfold Region.wanted;rw[hB])];refine RN hdB (oy h2 ?_);unfold wpOpsIn;exact h
variable {t:TypeId} {e:TypeId}
theorem aa8 {r:Option Nat} {m id:Nat} (hu:P.underlying t=some (.slice e)) {t0 d3 d4:Nat} (h3:d3<N) (h4:d4<N) {t' tyA tyB:TypeId} {pA pB:String} {aA aB:Array Edge}
  {T:List (Nat×AV)} {H:ic} {nx:Nat} {es n:Nat} {f:Bool} {g:Nat->AV} (hs:eH T t0=.sl es n f g) {K:Exit->St->Prop}
  (hK:∀b,(b=true->n=0)->K .normal ⟨(d4,.bool b)::(d3,.sl es n f g)::T,H,nx⟩):
  Good P cfg N r m (.region id #[⟨some d3,.move (.tmp t0),tyA,pA,aA,none⟩,⟨some d4,.binOp .eql t (.tmp d3) (.const (.slice none 0 0)) t',tyB,pB,aB,none⟩] false) ⟨T,H,nx⟩ K:=by
 intro n0 cx a w I O hS hrd;have hx:=hS.tmps.rep t0 rfl;have hsz:=hS.tmps.size;have hs':eH (⟨T,H,nx⟩:St).tmps t0=.sl es n f g:=hs;rw[hs']at hx;generalize hxv:a.tmps.getD t0 Go.undef=x at hx;have hp:=hx.xi;refine wpIn_region ?_;cases hp with
 | @sl _ _ _ _ aa cap b off vs hcap hfull ha hes hm h1 hr=>
  have hb:aa.isNone=true->n=0:=λ h=>by
   rcases aj2 n with h0 | h0
   ·exact h0
   rw[(ha om).1]at h;cases h
  refine QW rfl rfl (λ c h=>by cases h) (λ c h=>by cases h) (x:=.slice aa n cap) (y:=.bool aa.isNone) ?_ ?_ ?_
  ·simp only[execOp,Act.eval];rw[hxv];rfl
  ·have e1:(a.put (some d3) (.slice aa n cap)).eval (.tmp d3)=.slice aa n cap:=by
    simp[Act.put,Act.eval,hsz,h3]
   have e2:=run_equal_slice_nil (P:=P) w t e aa n cap hu;have e3:(a.put (some d3) (.slice aa n cap)).eval (.const (.slice none 0 0))=.slice none 0 0:=rfl;have hg:(eqGuard .eql t (.tmp d3) (.const (.slice none 0 0)) (.slice aa n cap) (.slice none 0 0)).run P w=.ok () w:=by unfold eqGuard;simp
   simp only[execOp];rw[e1,e3];simp[hg,binOp,e2]
  refine⟨_,I,O,hK aa.isNone hb,hS.m,hS.rel,?_,hS.marks⟩;have h5:=hS.tmps.put (λ _ _ h=>h) (some d3) (λ k hk=>by cases hk;exact h3) (.sl es n f g) (.slice aa n cap) true (λ _=>hx) (λ h=>by cases h);have h6:=h5.put (λ _ _ h=>h) (some d4) (λ k hk=>by cases hk;exact h4) (.bool aa.isNone) (.bool aa.isNone) true (λ _=>.pure (.bool _)) (λ h=>by cases h);refine⟨h6.defers,h6.size,λ tt _=>?_,λ tt h=>by cases h⟩;have:=h6.rep tt (by rw[wU,wU]);show cQ w I O _ (eH ((d4,.bool aa.isNone)::(d3,.sl es n f g)::T) tt) _;rw[kI,kI];exact this
theorem OE (hc:ej P cfg) {rr:Option Nat} {m:Nat} {ct:ap0} (hu:P.underlying t=some (.slice e)) {a X Y:Code} {s:St} {K:Exit->St->Prop} (Ws:eY N a=true) (agu:eY N X=true) (agv:eY N Y=true)
  {id t0 d3 d4:Nat} (h3:d3<N) (h4:d4<N) {t' tyA tyB:TypeId} {pA pB:String} {aA aB:Array Edge} (T:List (Nat×AV)) (H:ic) (nx:Nat) {es n:Nat} {f:Bool} {g:Nat->AV} (hs:eH T t0=.sl es n f g)
  (h1:ig cfg (Spec P cfg) ct (Loops P cfg N rr m) a s (λ e s'=>match e with | .normal=>s'=⟨T,H,nx⟩ | _=>False))
  (hX:n=0->ig cfg (Spec P cfg) ct (Loops P cfg N rr m) X ⟨(d4,.bool true)::(d3,.sl es n f g)::T,H,nx⟩ (λ e s'=>match e with | .normal=>False | e=>K e s'))
  (hY:ig cfg (Spec P cfg) ct (Loops P cfg N rr m) Y ⟨(d4,.bool false)::(d3,.sl es n f g)::T,H,nx⟩ K):
  Loops P cfg N rr m (.seq a (.seq (.seq (.region id #[⟨some d3,.move (.tmp t0),tyA,pA,aA,none⟩,⟨some d4,.binOp .eql t (.tmp d3) (.const (.slice none 0 0)) t',tyB,pB,aB,none⟩] false) (.cond (.tmp d4) X .skip)) Y)) s K:=by
 refine⟨mT ((fq hc a s _ Ws h1).mono ?_)⟩;intro e s' h;cases e with
 | normal=>
  have h:s'=⟨T,H,nx⟩:=h;subst h;refine mT (mT (aa8 hu h3 h4 hs λ b hb=>?_));have agw:ND cfg (eH (⟨(d4,.bool b)::(d3,.sl es n f g)::T,H,nx⟩:St).tmps) (.tmp d4)=.bool b:=by
   show eH ((d4,.bool b)::(d3,.sl es n f g)::T) d4=_;rw[kI];simp[fc]
  refine K5 agw (λ hb1=>?_) (λ hb1=>?_)
  ·subst hb1;refine(fq hc X _ _ agu (hX (hb rfl))).mono ?_;intro e s' h;cases e with
   | normal=>exact h.elim
   | _=>exact h
  subst hb1;refine fq (ct:=ct) hc .skip _ _ rfl ?_;exact fq hc Y _ _ agv hY
 | _=>exact h.elim
def Wt {r:Option Nat} {m id:Nat} (hu:P.underlying t=some (.slice e)) {t0 d3 d4:Nat} (h3:d3<N) (h4:d4<N) {t' tyA tyB:TypeId} {pA pB:String} {aA aB:Array Edge}
  {T:List (Nat×AV)} {H:ic} {nx:Nat} {ob i n:Nat} {f:Bool} (hs:eH T t0=.bV ob i n f) {oo:cI} (hoo:hget H ob=some oo) {K:Exit->St->Prop}
  (hK:∀b,(b=true->n=0)->K .normal ⟨(d4,.bool b)::(d3,.bV ob i n f)::T,H,nx⟩):
  Good P cfg N r m (.region id #[⟨some d3,.move (.tmp t0),tyA,pA,aA,none⟩,⟨some d4,.binOp .eql t (.tmp d3) (.const (.slice none 0 0)) t',tyB,pB,aB,none⟩] false) ⟨T,H,nx⟩ K:=by
 intro n0 cx a w I O hS hrd;have hx:=hS.tmps.rep t0 rfl;have hsz:=hS.tmps.size;have hs':eH (⟨T,H,nx⟩:St).tmps t0=.bV ob i n f:=hs;rw[hs']at hx;generalize hxv:a.tmps.getD t0 Go.undef=x at hx;obtain⟨p,hp,_⟩:=hS.rel.live hoo;obtain⟨aa,cap,hxe,_,a2,_,a4⟩:=hx.jD hp;subst hxe;refine wpIn_region ?_;have hb:aa.isNone=true->n=0:=λ h=>by
  rcases aj2 cap with h0 | h0
  ·omega
  obtain⟨b,bo,sz,_,e2,_⟩:=a4 om;rw[e2]at h;cases h
 refine QW rfl rfl (λ c h=>by cases h) (λ c h=>by cases h) (x:=.slice aa n cap) (y:=.bool aa.isNone) ?_ ?_ ?_
 ·simp only[execOp,Act.eval];rw[hxv];rfl
 ·have e1:(a.put (some d3) (.slice aa n cap)).eval (.tmp d3)=.slice aa n cap:=by
   simp[Act.put,Act.eval,hsz,h3]
  have e2:=run_equal_slice_nil (P:=P) w t e aa n cap hu;have e3:(a.put (some d3) (.slice aa n cap)).eval (.const (.slice none 0 0))=.slice none 0 0:=rfl;have hg:(eqGuard .eql t (.tmp d3) (.const (.slice none 0 0)) (.slice aa n cap) (.slice none 0 0)).run P w=.ok () w:=by unfold eqGuard;simp
  simp only[execOp];rw[e1,e3];simp[hg,binOp,e2]
 refine⟨_,I,O,hK aa.isNone hb,hS.m,hS.rel,?_,hS.marks⟩;have h5:=hS.tmps.put (λ _ _ h=>h) (some d3) (λ k hk=>by cases hk;exact h3) (.bV ob i n f) (.slice aa n cap) true (λ _=>hx) (λ h=>by cases h);have h6:=h5.put (λ _ _ h=>h) (some d4) (λ k hk=>by cases hk;exact h4) (.bool aa.isNone) (.bool aa.isNone) true (λ _=>.pure (.bool _)) (λ h=>by cases h);refine⟨h6.defers,h6.size,λ tt _=>?_,λ tt h=>by cases h⟩;have:=h6.rep tt (by rw[wU,wU]);show cQ w I O _ (eH ((d4,.bool aa.isNone)::(d3,.bV ob i n f)::T) tt) _;rw[kI,kI];exact this
theorem Wu (hc:ej P cfg) {rr:Option Nat} {m:Nat} {ct:ap0} (hu:P.underlying t=some (.slice e)) {a X Y:Code} {s:St} {K:Exit->St->Prop} (Ws:eY N a=true) (agu:eY N X=true) (agv:eY N Y=true)
  {id t0 d3 d4:Nat} (h3:d3<N) (h4:d4<N) {t' tyA tyB:TypeId} {pA pB:String} {aA aB:Array Edge} (T:List (Nat×AV)) (H:ic) (nx:Nat) {ob i n:Nat} {f:Bool} (hs:eH T t0=.bV ob i n f) {oo:cI} (hoo:hget H ob=some oo)
  (h1:ig cfg (Spec P cfg) ct (Loops P cfg N rr m) a s (λ e s'=>match e with | .normal=>s'=⟨T,H,nx⟩ | _=>False))
  (hX:n=0->ig cfg (Spec P cfg) ct (Loops P cfg N rr m) X ⟨(d4,.bool true)::(d3,.bV ob i n f)::T,H,nx⟩ (λ e s'=>match e with | .normal=>False | e=>K e s'))
  (hY:ig cfg (Spec P cfg) ct (Loops P cfg N rr m) Y ⟨(d4,.bool false)::(d3,.bV ob i n f)::T,H,nx⟩ K):
  Loops P cfg N rr m (.seq a (.seq (.seq (.region id #[⟨some d3,.move (.tmp t0),tyA,pA,aA,none⟩,⟨some d4,.binOp .eql t (.tmp d3) (.const (.slice none 0 0)) t',tyB,pB,aB,none⟩] false) (.cond (.tmp d4) X .skip)) Y)) s K:=by
 refine⟨mT ((fq hc a s _ Ws h1).mono ?_)⟩;intro e s' h;cases e with
 | normal=>
  have h:s'=⟨T,H,nx⟩:=h;subst h;refine mT (mT (Wt hu h3 h4 hs hoo λ b hb=>?_));have agw:ND cfg (eH (⟨(d4,.bool b)::(d3,.bV ob i n f)::T,H,nx⟩:St).tmps) (.tmp d4)=.bool b:=by
   show eH ((d4,.bool b)::(d3,.bV ob i n f)::T) d4=_;rw[kI];simp[fc]
  refine K5 agw (λ hb1=>?_) (λ hb1=>?_)
  ·subst hb1;refine(fq hc X _ _ agu (hX (hb rfl))).mono ?_;intro e s' h;cases e with
   | normal=>exact h.elim
   | _=>exact h
  subst hb1;refine fq (ct:=ct) hc .skip _ _ rfl ?_;exact fq hc Y _ _ agv hY
 | _=>exact h.elim
def RW {σ R:Type} (len:Nat) (B:Nat->(σ->M R)->σ->M R) (fin:σ->M R):Nat->σ->M R
 | 0=>fin
 | j+1=>B (len - (j+1)) (RW len B fin j)
def QX (hc:ej P cfg) {m:Nat} {ct ct':ap0} {g:Operand} {p0 p1:Nat} {assign body:Code} {s:St} {K:Exit->St->Prop} (Ws:eY N assign=true) (agn:eY N body=true) (hp0:p0<N) (hp1:p1<N)
  {gf:FuncId} {caps:ap2} {len:Nat} {e0 e1:Nat->AV} (hit:OB P gf caps len e0 e1) (hg:ND cfg (eH s.tmps) g=.fn gf caps) (aa1:∀v∈caps,∃cs,v=.ro cs)
  {σ R:Type} {B:Nat->(σ->M R)->σ->M R} {fin:σ->M R} {x0:σ} {r:R} (hm:RW len B fin len x0 r)
  (st:σ->St) (st1:Nat->σ->St) (hnm:∀k gx,Iu (st gx).heap=true/\Iu (st1 k gx).heap=true) (ρ0:List (Nat×Option Nat)) (h0:Emb m ρ0 s (st x0))
  (ha:∀k l gx,k<len->m<=(st gx).nx/\ig cfg (Spec P cfg) ct (Loops P cfg N (some l) (st gx).nx) assign ⟨(p1,e1 k)::(p0,e0 k)::(st gx).tmps,(st gx).heap,(st gx).nx⟩ (λ e s'=>match e with | .normal=>∃ρ,Emb (st gx).nx ρ s' (st1 k gx) | _=>False))
  (hb:∀k l self gx,k<len->B k self gx r->ig cfg (Spec P cfg) ct' (Loops P cfg N (some l) (st1 k gx).nx) body (st1 k gx) (λ e s'=>match e with | .normal=>∃x' ρ,self x' r/\Emb m ρ ⟨(st gx).tmps,s'.heap,s'.nx⟩ (st x') | .ret=>K .ret ⟨(st gx).tmps,s'.heap,s'.nx⟩ | _=>False))
  (hK:∀gx,fin gx r->K .normal (st gx)):Loops P cfg N none m (.rangeFunc g #[p0,p1] assign body) s K:=by
 refine YX (ct:=ct) (ct':=ct') hc Ws agn hp0 hp1 hit hg aa1 st st1 hnm x0 ρ0 h0 (λ k x=>RW len B fin (len - k) x r) hm (λ k l gx hk _=>ha k l gx hk) ?_ ?_
 ·intro k l gx hk hi;obtain⟨j,hj⟩:∃j,len - k=j+1:=⟨len - k - 1,by omega⟩;have h1:=hi;rw[hj]at h1;have e1:len - (j+1)=k:=by omega
  have h2:B k (RW len B fin j) gx r:=by
   have:B (len - (j+1)) (RW len B fin j) gx r:=h1;rwa [e1]at this
  have e2:j=len - (k+1):=by omega
  subst e2;exact hb k l _ gx hk h2
 intro gx hi;have:=hi;rw[aow]at this;exact hK gx this
end
end Go.Ab
namespace Go.Ab
mutual
def noR (o:Nat):AV->Bool
 | .ptr o' _ _=>!Nat.beq o' o
 | .bV o' _ _ _=>!Nat.beq o' o
 | .mref o'=>!Nat.beq o' o
 | .agg cs=>Uf o cs
 | .fn _ cs=>Uf o cs
 | .fP cs=>Uf o cs
 | _=>true
def Uf (o:Nat):ap2->Bool
 | []=>true
 | v::l=>noR o v&&Uf o l
end
def aa9 (o t0:Nat):List (Nat×AV)->Bool
 | []=>true
 | (t,v)::l=>(Nat.beq t t0||noR o v)&&aa9 o t0 l
def akO (o:Nat):Option cI->Bool
 | some (.box cs)=>Uf o cs
 | _=>true
def abb (o:Nat):ic->Bool
 | []=>true
 | (_,x)::l=>akO o x&&abb o l
variable {o:Nat}
def JC:∀ {l:ap2} {j:Nat},Uf o l=true->noR o (nth l j)=true:=by
 intro l;induction l with
 | nil=>intro j _;cases j<;>rfl
 | cons v l ih=>
  intro j h;simp only[Uf,aeP]at h;cases j with
  | zero=>exact h.1
  | succ j=>exact ih h.2
def abd {t0:Nat} :∀ {l:List (Nat×AV)},aa9 o t0 l=true->∀t,t≠t0->noR o (eH l t)=true:=by
 intro l;induction l with
 | nil=>intro _ t _;rfl
 | cons p l ih=>
  obtain⟨k,v⟩:=p;intro h t ht;simp only[aa9,aeP,aiG]at h;unfold eH;simp only[look];cases hb:Nat.beq k t with
  | true=>
   have:=aeK hb;subst this;rcases h.1 with h1 | h1
   ·exact absurd (aeK h1) ht
   exact h1
  | false=>exact ih h.2 t ht
def abe:∀ {l:ic},abb o l=true->∀o' cs,hget l o'=some (.box cs)->Uf o cs=true:=by
 intro l;induction l with
 | nil=>intro _ o' cs h;cases h
 | cons p l ih=>
  obtain⟨k,x⟩:=p;intro h o' cs hg;simp only[abb,aeP]at h;unfold hget at hg;simp only[look]at hg;cases hb:Nat.beq k o' with
  | true=>
   rw[hb]at hg;cases x with
   | none=>cases hg
   | some y=>
    simp only at hg;cases hg;exact h.1
  | false=>
   rw[hb]at hg;exact ih h.2 o' cs hg
def cQ.XH {w:World} {I:Nat->Prop} {O O':OM} {D:Nat->Prop} (hO:∀o',o'≠o->O' o'=O o') {v:AV} {x:Value} (h:cQ w I O D v x):noR o v=true->cQ w I O' D v x:=by
 have ne:∀ {o':Nat},(!Nat.beq o' o)=true->o'≠o:=λ hn e=>by subst e;simp at hn
 induction h with
 | pure h=>exact λ _=>.pure h
 | ptr ho hp hi=>exact λ hn=>.ptr ((hO _ (ne hn)).trans ho) hp hi
 | bV ho hi hcap hfull hpl hext=>exact λ hn=>.bV ((hO _ (ne hn)).trans ho) hi hcap hfull hpl hext
 | mref ho hp=>exact λ hn=>.mref ((hO _ (ne hn)).trans ho) hp
 | ue ho hd h1=>exact λ hn=>.ue ((hO _ (ne hn)).trans ho) hd h1
 | uh ho hd h1=>exact λ hn=>.uh ((hO _ (ne hn)).trans ho) hd h1
 | qY ho hd h1=>exact λ hn=>.qY ((hO _ (ne hn)).trans ho) hd h1
 | agg hl hr ih=>exact λ hn=>.agg hl λ j hj=>ih j hj (JC hn)
 | fn hl hr ih=>exact λ hn=>.fn hl λ j hj=>ih j hj (JC hn)
 | fP hl hr ih=>exact λ hn=>.fP hl λ j hj=>ih j hj (JC hn)
section
variable {P:Program} {cfg:qX} {N:Nat} {cx:Ctx}
def XI (o es n:Nat) (g:Nat->AV) (u:AV) (H:ic):ic:=(o,some (.row es (n+1) (appG n g (λ _=>u))))::H
def afm (t0 o n:Nat) (T:List (Nat×AV)):List (Nat×AV):=(t0,.bV o 0 n true)::T
theorem Wv {m:Nat} {s:St} {a:Act} {w:World} {I:Nat->Prop} {O:OM} (hS:fD cfg N m cx s a w I O) {t0 n es:Nat} {g:Nat->AV} {u:AV} (hn:0<n) (hm:m<=o)
  (hT:eH s.tmps t0=.bV o 0 n false) (hH:hget s.heap o=some (.row es n g)) (hu:u.cells.length=es) (hu1:∀j,j<es->nth u.cells j=.undef) (hnT:aa9 o t0 s.tmps=true) (hnH:abb o s.heap=true):
  fD cfg N m cx ⟨afm t0 o n s.tmps,s.heap,s.nx⟩ a w I O\/∃O',fD cfg N m cx ⟨s.tmps,XI o es n g u s.heap,s.nx⟩ a w I O':=by
 obtain⟨p,hp,lg⟩:=hS.rel.live hH;have hr:=hS.tmps.rep t0 rfl;rw[hT]at hr;obtain⟨aa,cap,hxv,h2,hcap,hfl,hpl⟩:=hr.jD hp;by_cases hc:cap=n
 ·refine .inl ⟨hS.m,hS.rel,⟨rfl,hS.tmps.size,λ t _=>?_,λ t h=>by cases h⟩,hS.marks⟩;show cQ w I O _ (eH ((t0,.bV o 0 n true)::s.tmps) t) _;rw[kI];by_cases ht:t=t0
  ·subst ht;rw[Ey];generalize a.tmps.getD t Go.undef=x at hr hxv ⊢;subst hxv;cases hr with
   | pure h=>cases h
   | bV ho h1 h2 h3 h4 h5=>exact .bV ho h1 h2 (λ _=>hc) h4 h5
   | qY ho=>rw[hp]at ho;cases ho
  rw[upd_ne _ _ _ _ (by simpa using λ e:t0=t=>ht e.symm)];exact hS.tmps.rep t rfl
 refine .inr ?_;have hcap1:n+1<=cap:=by omega
 obtain⟨hpn,hes,hcl,hd⟩:=lg;obtain⟨b,bo,sz,hpb,hal,hle,hcs⟩:∃b bo sz,p.pl=some (b,bo,sz)/\qZ w b bo sz/\bo+n*es<=sz/\∀i j,i<n->j<es->eF w I (nth (g i).cells j) (cellAt w b (bo+(i*es+j)))/\(cellAt w b (bo+(i*es+j))).oneCell'=true:=by
  rcases hd with h | h
  ·omega
  exact h
 obtain⟨b',la,sz',aiO,VU,hroom⟩:=hpl om;rw[hpb]at aiO;cases aiO;simp only[ahq]at hroom;rw[hes]at hroom;have hroom1:bo+(n+1)*es<=sz:=af3 (Nat.add_le_add_left (afK _ hcap1) _) hroom;let O':OM:=λ o'=>if o'=o then some ⟨p.es,n+1,p.pl⟩else O o'
 have hO':∀o',o'≠o->O' o'=O o':=λ o' h=>aeV h;have hOo:O' o=some ⟨p.es,n+1,p.pl⟩:=afc rfl;have back:∀ {o' p'},O' o'=some p'->∃q,O o'=some q/\q.pl=p'.pl:=λ {o' p'} h=>by
  by_cases e:o'=o
  ·subst e;rw[hOo]at h;cases h;exact⟨p,hp,rfl⟩
  rw[hO' _ e]at h;exact⟨p',h,rfl⟩
 have hHg:∀o',hget (XI o es n g u s.heap) o'=if o'=o then some (.row es (n+1) (appG n g (λ _=>u)))else hget s.heap o':=λ o'=>by
  unfold XI hget;simp only[look];cases hb:Nat.beq o o' with
  | true=>have:=aeK hb;subst this;simp
  | false=>
   have:o'≠o:=λ e=>by subst e;simp at hb
   rw[aeV this]
 have hR:=hS.rel;refine⟨O',hS.m,?_,⟨rfl,hS.tmps.size,λ t _=>?_,λ t h=>by cases h⟩,hS.marks⟩
 ·constructor
  ·intro o';rw[hHg];by_cases e:o'=o
   ·subst e;rw[hOo,afc rfl];simp
   rw[hO' _ e,aeV e];exact hR.dom o'
  ·intro o' p' h;obtain⟨q,hq,_⟩:=back h;exact hR.used o' q hq
  ·intro o' ob p' h1 h2;show eV w I O' _ p' ob;rw[hHg]at h1;by_cases e:o'=o
   ·subst e;rw[afc rfl]at h1;cases h1;rw[hOo]at h2;cases h2;have gi:∀i,i<n->appG n g (λ _=>u) i=g i:=λ i hi=>by
     have:Nat.blt i n=true:=by simpa using hi
     simp[appG,this]
    have gn:appG n g (λ _=>u) n=u:=by
     have:Nat.blt n n=false:=by
      cases hb:Nat.blt n n with
      | false=>rfl
      | true=>exact absurd (show n<n by simp at hb) (Nat.lt_irrefl n)
     simp[appG,this]
    refine⟨rfl,hes,λ i hi=>?_,.inr ⟨b,bo,sz,hpb,hal,hroom1,λ i j hi hj=>?_⟩⟩
    ·by_cases hin:i<n
     ·rw[gi i hin];exact hcl i hin
     have:i=n:=by omega
     subst this;rw[gn];exact hu
    by_cases hin:i<n
    ·rw[gi i hin];exact hcs i j hin hj
    have:i=n:=by omega
    subst this;rw[gn,hu1 j hj];refine⟨.undef _,hal.one _ om ?_⟩;rw[aip,aoG]at hroom1;omega
   rw[aeV e]at h1;rw[hO' _ e]at h2;have lg:=hR.objs o' ob p' h1 h2;cases ob with
   | box cs=>
    obtain⟨q1,b,bo,sz,q2,q3,q4,q5⟩:=lg;have hnb:=abe hnH o' cs h1;exact⟨q1,b,bo,sz,q2,q3,q4,λ j hj=>(q5 j hj).XH hO' (JC hnb)⟩
   | row es n g=>exact lg
   | map kd z f=>exact lg
  ·intro o1 o2 p1 p2 b1 Jg Jh b2 bo2 sz2 h1 h2 h3 h4 hne;obtain⟨q1,a1,a2⟩:=back h1;obtain⟨q2,a3,a4⟩:=back h2;exact hR.inj o1 o2 q1 q2 b1 Jg Jh b2 bo2 sz2 a1 a3 (a2.trans h3) (a4.trans h4) hne
  ·intro o1 p1 b1 Jg Jh h1 h3;obtain⟨q1,a1,a2⟩:=back h1;exact hR.lz o1 q1 b1 Jg Jh a1 (a2.trans h3)
  ·intro o1 p1 b1 Jg Jh h1 h3;obtain⟨q1,a1,a2⟩:=back h1;exact hR.lt o1 q1 b1 Jg Jh a1 (a2.trans h3)
  ·exact hR.uX
  ·exact hR.size
  ·exact hR.frame
  ·intro o1 p1 b1 Jg Jh h1 h3;obtain⟨q1,a1,a2⟩:=back h1;exact hR.new o1 q1 b1 Jg Jh a1 (a2.trans h3)
  ·exact hR.glob
  ·exact hR.Jf
  ·exact hR.KQ
  ·intro o' ho';have hm':=hS.m;rw[hO' _ om];exact hR.NH o' ho'
  ·exact hR.Dm
  exact hR.env
 show cQ w I O' _ (eH s.tmps t) _;by_cases ht:t=t0
 ·subst ht;rw[hT,hxv];exact .bV hOo (by simp) hcap (λ h=>by cases h) (λ h=>⟨b,bo,sz,hpb,VU,by simp only[ahq];rw[hes];exact hroom⟩) (by simpa using hcap1)
 exact(hS.tmps.rep t rfl).XH hO' (abd hnT t ht)
end
end Go.Ab
namespace Go.Ab
def both {R:Type} [DecidableEq R] (x y:M R):M R:=bnd x λ a=>bnd y λ b=>need (a=b) (ret a)
def Ug {R:Type} [DecidableEq R] {x y:M R} {r:R} (h:both x y r):x r/\y r:=by
 obtain⟨a,h1,b,h2,h3,h4⟩:=h;have h4:r=a:=h4;subst h4;subst h3;exact⟨h1,h2⟩
def afn {E R:Type} (l:List E) (k:E->M R):M R:=match l with
 | [x]=>k x
 | _=>.bot
def Y1 {E R:Type} {l:List E} {k:E->M R} {r:R} (h:afn l k r):∃x,l=[x]/\k x r:=by
 match l,h with
 | [x],h=>exact⟨x,rfl,h⟩
 | [],h=>exact h.elim
 | _::_::_,h=>exact h.elim
theorem agy {α:Type} {f:α->AV} {d:α} {x:α} {u:AV}:∀i,i<2->Le (Xe (0+1) 1 (appG 1 (aS f d [x]) (λ _=>u)) (lu 0 (appG 1 (aS f d [x]) (λ _=>u))) i) (aS f d [x,x] i)
 | 0,_=>.refl _
 | 1,_=>.refl _
 | _+2,h=>absurd h om
section
variable {P:Program} {cfg:qX} {N:Nat}
theorem abf (hc:ej P cfg) {rr:Option Nat} {m:Nat} {ct:ap0} {x y:Code} {s:St} {K:Exit->St->Prop} (aa4:eY N x=true) (YY:eY N y=true) {σ E R:Type} (k:σ->M R) (r:R) (st:σ->St)
  (kA kB:σ->E->M R) (stA stB:σ->E->St) (o t0 es:Nat) (u:AV) (hm:m<=o) (hu:u.cells.length=es) (hu1:∀j,j<es->nth u.cells j=.undef)
  (hk:∀g,k g r->∃e f,kA g e r/\kB g e r/\eH (st g).tmps t0=.bV o 0 1 false/\hget (st g).heap o=some (.row es 1 f)/\aa9 o t0 (st g).tmps=true/\abb o (st g).heap=true/\
    G5 m [] [o] ⟨afm t0 o 1 (st g).tmps,(st g).heap,(st g).nx⟩ (stA g e)/\G5 m [] [] ⟨(st g).tmps,XI o es 1 f u (st g).heap,(st g).nx⟩ (stB g e))
  (h1:ig cfg (Spec P cfg) ct (Loops P cfg N rr m) x s (λ e s'=>match e with | .normal=>∃x' ρ os,k x' r/\G5 m ρ os s' (st x') | e=>K e s'))
  (hA:∀g e,kA g e r->ig cfg (Spec P cfg) ct (Loops P cfg N rr m) y (stA g e) K) (hB:∀g e,kB g e r->ig cfg (Spec P cfg) ct (Loops P cfg N rr m) y (stB g e) K):Loops P cfg N rr m (.seq x y) s K:=by
 refine⟨mT ((fq hc x s _ aa4 h1).mono ?_)⟩;intro e s' h;cases e with
 | normal=>
  obtain⟨x',ρ,os,h3,h4⟩:=h;exact λ n0 cx a w I O hS hrd=>by
   obtain⟨I',O',h'⟩:=tn hS h4;obtain⟨e,f,q1,q2,q3,q4,q5,q6,q7,q8⟩:=hk x' h3;rcases Wv h' (Nat.zero_lt_one) hm q3 q4 hu hu1 q5 q6 with h5 | ⟨O2,h5⟩
   ·obtain⟨I3,O3,h6⟩:=tn h5 q7;exact fq hc y (stA x' e) K YY (hA x' e q1) n0 cx a w I3 O3 h6 hrd
   obtain⟨I3,O3,h6⟩:=tn h5 q8;exact fq hc y (stB x' e) K YY (hB x' e q2) n0 cx a w I3 O3 h6 hrd
 | _=>exact h
end
end Go.Ab

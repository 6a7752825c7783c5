/- A part of the proof. -/
import Derived.Test.YtifekdmmpbcdgaaGreatDoorA2
import Derived.RangeFuncLeaves
import Derived.RangeFuncNested
import Derived.LoopNIn
import Derived.Laws.Cover3
set_option linter.unusedVariables false
set_option linter.unusedSimpArgs false
namespace Go.Ab
section
variable {P:Program} {cfg:yx} {cx:Ctx} {N:Nat}
def oP (ρ:List (Nat×Option Nat)) (H':lD) (O:OM):OM:=λ o'=>match hget H' o' with
 | none=>none
 | some y=>match vF ρ o' with
  | some o=>O o
  | none=>match y with
   | .row es _ _=>some ⟨es,0,none⟩
   | .box _=>none
   | .map .. => none
variable {H:lD}
theorem ac3 {o:Nat}:aav H o=true↔∃x,hget H o=some x:=by
 unfold aav;cases hget H o with
 | none=>simp
 | some x=>simp
theorem Jv {α:Type}:∀(l:List (Nat×α)) (k:Nat) (x:α),look l k=some x->(k,x)∈l:=by
 intro l;induction l with
 | nil=>intro k x h; cases h
 | cons p l ih=>
  intro k x h;obtain ⟨k',y⟩:=p;simp only [look] at h;cases hb:Nat.beq k' k with
  | true=>simp only [hb] at h; cases h; rw [adU hb]; simp
  | false=>simp only [hb] at h; exact akb _ (ih k x h)
theorem EJ {o:Nat} {x:eP} (h:hget H o=some x):look H o=some (some x):=by
 unfold hget at h;split at h
 ·rename_i y hy; cases h; exact hy
 cases h
variable {ρ:List (Nat×Option Nat)} {H':lD}
theorem aje:∀(l:lD),alM ρ H' H l->∀o' y,(o',some y)∈l->
  (match vF ρ o' with
  | some o=>∃x,hget H o=some x∧afr ρ H' x y
  | none=>∃es g,y=.row es 0 g):=by
 intro l;induction l with
 | nil=>intro _ o' y h; cases h
 | cons p l ih=>
  intro h o' y hm;obtain ⟨k,z⟩:=p;cases z with
  | none=>
   rcases alu.1 hm with e | e
   ·cases e
   exact ih h o' y e
  | some z=>
   obtain ⟨h1,h2⟩:=h;rcases alu.1 hm with e | e
   ·cases e;split
    ·rename_i o ho;rw [ho] at h1;simp only at h1;split at h1
     ·rename_i x hx; exact ⟨x,hx,h1⟩
     exact h1.elim
    rename_i ho;rw [ho] at h1;simp only at h1;split at h1
    ·rename_i es n g; subst h1; exact ⟨es,g,rfl⟩
    exact h1.elim
   exact ih h2 o' y e
structure apf (ρ:List (Nat×Option Nat)) (H' H:lD):Prop where
 ren:∀o' y o,hget H' o'=some y->vF ρ o'=some o->∃x,hget H o=some x
 ghost:∀o' y,hget H' o'=some y->vF ρ o'=none->∃es g,y=.row es 0 g
structure apg (ρ:List (Nat×Option Nat)) (H' H:lD):Prop where
 ren:∀o' y o,hget H' o'=some y->vF ρ o'=some o->∃x,hget H o=some x∧afr ρ H' x y
 ghost:∀o' y,hget H' o'=some y->vF ρ o'=none->∃es g,y=.row es 0 g
theorem ajf (h:alM ρ H' H H'):apg ρ H' H where
 ren:=λ o' y o hy ho=>by
  have:=aje H' h o' y (Jv _ _ _ (EJ hy));rw [ho] at this;exact this
 ghost:=λ o' y hy ho=>by
  have:=aje H' h o' y (Jv _ _ _ (EJ hy));rw [ho] at this;exact this
theorem apg.x (h:apg ρ H' H):apf ρ H' H where
 ren:=λ o' y o h1 h2=>let ⟨x,h3,_⟩:=h.ren o' y o h1 h2; ⟨x,h3⟩
 ghost:=h.ghost
theorem Xl:∀(f:Nat) (l m:azx),nC.U6 ρ H' f l m->l.length=m.length∧∀j,j<m.length->∃f',f'<f∧nC ρ H' f' (nth l j) (nth m j):=by
 intro f;induction f with
 | zero=>intro l m h; exact absurd h (by simp [nC.U6])
 | succ f ih=>
  intro l m h;cases l with
  | nil=>cases m with
   | nil=>exact ⟨rfl,λ j hj=>by cases hj⟩
   | cons v m=>exact absurd h (by simp [nC.U6])
  | cons u l=>cases m with
   | nil=>exact absurd h (by simp [nC.U6])
   | cons v m=>
    simp only [nC.U6] at h
    obtain ⟨h1,h2⟩:=ih l m h.2
    refine ⟨by simp [h1],λ j hj=>?_⟩
    cases j with
    | zero=>exact ⟨f,ayF _,h.1⟩
    | succ j=>
     obtain ⟨f',h3,h4⟩:=h2 j (by simpa using hj)
     exact ⟨f',by omega,h4⟩
theorem Vk {w:World} {I:Nat->Prop} {O:OM} {D D':Nat->Prop} (hd:∀o,O o=none↔hget H o=none) (hW:apf ρ H' H):
  ∀(f:Nat) (u v:AV) (x:Value),fB w I O D u x->nC ρ H' f u v->fB w I (oP ρ H' O) D' v x:=by
 have live:∀o' o,aav H' o'=true->vF ρ o'=some o->∃p,O o=some p∧oP ρ H' O o'=some p:=by
  intro o' o h1 h2;obtain ⟨y,hy⟩:=ac3.1 h1;obtain ⟨z,hz⟩:=hW.ren o' y o hy h2;cases ho:O o with
  | none=>rw [(hd o).1 ho] at hz; cases hz
  | some p=>exact ⟨p,rfl,by unfold oP; rw [hy,h2]; exact ho⟩
 intro f;induction f using Nat.strongRecOn with
 | ind f ih=>
  intro u v x hr he;cases f with
  | zero=>exact absurd he (by simp [nC])
  | succ f=>
   have many:∀(cs cs':azx) (vs:Array Value),vs.size=cs.length->(∀j,j<cs.length->fB w I O D (nth cs j) (vs.getD j Go.undef))->nC.U6 ρ H' f cs cs'->
     vs.size=cs'.length∧∀j,j<cs'.length->fB w I (oP ρ H' O) D' (nth cs' j) (vs.getD j Go.undef):=by
    intro cs cs' vs h1 h2 h3
    obtain ⟨h4,h5⟩:=Xl f cs cs' h3
    refine ⟨by omega,λ j hj=>?_⟩
    obtain ⟨f',h6,h7⟩:=h5 j hj
    exact ih f' om _ _ _ (h2 j om) h7
   cases v with
   | undef=>exact .pure (.undef x)
   | bool b'=>
    cases u<;>simp only [nC] at he;subst he;rw [hr.mE]; exact .pure (.bool _)
   | int k n=>
    cases u<;>simp only [nC] at he;obtain ⟨rfl,rfl⟩:=he;rw [hr.jg]; exact .pure (.int _ _)
   | str s=>
    cases u<;>simp only [nC] at he;subst he;rw [hr.D6]; exact .pure (.str _)
   | Gm=>
    cases u<;>simp only [nC] at he;cases hr with | pure h=>exact .pure h
   | pm a' b' c'=>
    cases u<;>simp only [nC] at he;obtain ⟨rfl,rfl,rfl⟩:=he;cases hr with | pure h=>exact .pure h
   | ro cs=>
    cases u<;>simp only [nC] at he;exact (Le.roL he).rep (.pure hr.aaA)
   | sl es' n' f' g'=>
    cases u<;>simp only [nC] at he;rename_i es n fu g;obtain ⟨h0,h1,h2,h3⟩:=he;exact (Le.sl h0 h1 h2 h3).rep (.pure hr.Iy)
   | ptr o' i' off'=>
    cases u<;>simp only [nC] at he;rename_i o i off;obtain ⟨h1,h2,rfl,rfl⟩:=he;obtain ⟨p,hp,hp'⟩:=live o' o h1 h2;obtain ⟨b,bo,sz,h3,h4,rfl⟩:=hr.qg hp;exact .ptr hp' h3 h4
   | dR o' i' n' f'=>
    cases u<;>simp only [nC] at he
    ·rename_i es n fu g;obtain ⟨h1,atK,rfl,rfl,rfl,rfl⟩:=he;obtain ⟨y,hy⟩:=ac3.1 h1;obtain ⟨es',g',rfl⟩:=hW.ghost o' y hy atK;have hp:oP ρ H' O o'=some ⟨es',0,none⟩:=by unfold oP; rw [hy,atK]
     cases hr.Iy with
     | sl b off vs hcap hfull ha hes hm hone hrr=>
      have hc:=hfull rfl;exact .dR hp (afg _) hcap (λ _=>hc) (λ h=>absurd hc h) (alh _)
    rename_i o i n fu;obtain ⟨h1,h2,rfl,rfl,h3⟩:=he;obtain ⟨p,hp,hp'⟩:=live o' o h1 h2;obtain ⟨a,cap,rfl,h4,h5,h6,h7⟩:=hr.qh hp;exact .dR hp' h4 h5 (λ h=>h6 (h3 h)) h7 (hr.GI hp)
   | mref o'=>
    cases u<;>simp only [nC] at he;rename_i o;obtain ⟨h1,h2⟩:=he;obtain ⟨p,hp,hp'⟩:=live o' o h1 h2;obtain ⟨b,bo,sz,h3,rfl⟩:=hr.yD hp;exact .mref hp' h3
   | agg cs'=>
    cases u<;>simp only [nC] at he;obtain ⟨vs,rfl,h1,h2⟩:=hr.vY;obtain ⟨h3,h4⟩:=many _ cs' vs h1 h2 he;exact .agg h3 h4
   | jX cs'=>
    cases u<;>simp only [nC] at he;obtain ⟨vs,rfl,h1,h2⟩:=hr.KU;obtain ⟨h3,h4⟩:=many _ cs' vs h1 h2 he;exact .jX h3 h4
   | fn g cs'=>
    cases u<;>simp only [nC] at he;obtain ⟨rfl,he⟩:=he;obtain ⟨vs,rfl,h1,h2⟩:=hr.Oo;obtain ⟨h3,h4⟩:=many _ cs' vs h1 h2 he;exact .fn h3 h4
variable {I:Nat->Prop}
theorem aph {w:World} {O:OM} {D D':Nat->Prop} (hd:∀o,O o=none↔hget H o=none) (hW:apg ρ H' H) {x y:eP} {p:Own} (h:je w I O D p x) (he:afr ρ H' x y):
  je w I (oP ρ H' O) D' p y:=by
 cases x with
 | box cs=>
  cases y with
  | row es n g=>exact he.elim
  | map kd z f=>exact he.elim
  | box cs'=>
   obtain ⟨h1,b,bo,sz,hp,ha,hl,hr⟩:=h;obtain ⟨h2,h3⟩:=Xl _ cs cs' he;refine ⟨h1,b,bo,sz,hp,ha,by omega,λ j hj=>?_⟩;obtain ⟨f',_,h4⟩:=h3 j hj;exact Vk hd hW.x f' _ _ _ (hr j om) h4
 | row es n g=>
  cases y with
  | box cs'=>exact he.elim
  | map kd z f=>exact he.elim
  | row es' n' g'=>
   have hO:je w I (oP ρ H' O) D' p (.row es n g):=by
    obtain ⟨h1,h2,h3,h4⟩:=h;refine ⟨h1,h2,h3,?_⟩;rcases h4 with h4 | ⟨b,bo,sz,hp,ha,hl,hr⟩
    ·exact .inl h4
    exact .inr ⟨b,bo,sz,hp,ha,hl,hr⟩
   exact LeO.rep (x:=.row es n g) (y:=.row es' n' g') he hO
 | map kd z f=>
  cases y with
  | box cs'=>exact he.elim
  | row es n g=>exact he.elim
  | map kd' z' f'=>
   obtain ⟨rfl,rfl,rfl⟩:=he;exact h
theorem af3 {m nx:Nat} :∀(H:lD),TU m nx ρ H=true->∀p∈H,p.1<nx∧(p.1<m->vF ρ p.1=some p.1):=by
 intro H;induction H with
 | nil=>intro _ p h; cases h
 | cons q H ih=>
  intro h p hp;obtain ⟨o',z⟩:=q;unfold TU at h;cases h1:Nat.blt o' nx with
  | false=>simp [h1] at h
  | true=>
   simp only [h1] at h;have hlt:o'<nx:=by simpa using h1
   have rest:TU m nx ρ H=true∧(o'<m->vF ρ o'=some o'):=by
    split at h
    ·rename_i o ho;split at h
     ·rename_i hb;have:=adU hb;subst this;exact ⟨h,λ _=>ho⟩
     split at h
     ·rename_i hle;have hle':=ag5 hle;exact ⟨h,λ hlt=>by omega⟩
     cases h
    split at h
    ·rename_i hle;have hle':=ag5 hle;exact ⟨h,λ hlt=>by omega⟩
    cases h
   rcases alu.1 hp with e | e
   ·subst e; exact ⟨hlt,rest.2⟩
   exact ih rest.1 p e
theorem af4:∀(H:lD) (o' o:Nat) (y:eP),(o',some y)∈H->vF ρ o'=some o->o∈aaw ρ H:=by
 intro H;induction H with
 | nil=>intro o' o y h; cases h
 | cons q H ih=>
  intro o' o y h hr;obtain ⟨k,z⟩:=q;rcases alu.1 h with e | e
  ·cases e;simp only [aaw,hr];simp
  have:=ih o' o y e hr;cases z with
  | none=>exact this
  | some z=>
   simp only [aaw];split
   ·exact akb _ this
   exact this
theorem amr:∀(H:lD),qb (aaw ρ H)=true->∀o1 o2 o y1 y2,(o1,some y1)∈H->(o2,some y2)∈H->vF ρ o1=some o->vF ρ o2=some o->o1=o2:=by
 intro H;induction H with
 | nil=>intro _ o1 o2 o y1 y2 h; cases h
 | cons q H ih=>
  intro hnd o1 o2 o y1 y2 h1 h2 hr1 hr2;obtain ⟨k,z⟩:=q;have tail:qb (aaw ρ H)=true∧∀y,z=some y->∀o,vF ρ k=some o->o ∉ aaw ρ H:=by
   cases z with
   | none=>exact ⟨hnd,λ y h=>by cases h⟩
   | some z=>
    simp only [aaw] at hnd;split at hnd
    ·rename_i oo hoo;unfold qb at hnd;split at hnd
     ·cases hnd
     rename_i hm;refine ⟨hnd,λ y _ o ho=>?_⟩;rw [hoo] at ho;cases ho;exact AB hm
    rename_i hnone;exact ⟨hnd,λ y _ o ho=>by rw [hnone] at ho; cases ho⟩
  rcases alu.1 h1 with e1 | e1<;>rcases alu.1 h2 with e2 | e2
  ·cases e1; cases e2; rfl
  ·cases e1; exact absurd (af4 H o2 o y2 e2 hr2) (tail.2 _ rfl o hr1)
  ·cases e2; exact absurd (af4 H o1 o y1 e1 hr1) (tail.2 _ rfl o hr2)
  exact ih tail.1 o1 o2 o y1 y2 e1 e2 hr1 hr2
theorem ams {T:List (Nat×AV)}:∀(l:List (Nat×AV)),aq3 ρ H' T l->∀t,iK l t=.undef∨nC ρ H' fuel (iK T t) (iK l t):=by
 intro l;induction l with
 | nil=>intro _ t; exact .inl rfl
 | cons p l ih=>
  intro h t;obtain ⟨k,v⟩:=p;obtain ⟨h1,h2⟩:=h;unfold iK;simp only [look];cases hb:Nat.beq k t with
  | true=>
   have:=adU hb;subst this;exact .inr h1
  | false=>exact ih h2 t
theorem Jw {m:Nat} {s s':St} {a:Act} {w:World} {O:OM} (hS:jK cfg N m cx s a w I O) (h:Emb m ρ s s'):jK cfg N m cx s' a w I (oP ρ s'.heap O):=by
 obtain ⟨Xi,htm,hhp⟩:=h;obtain ⟨hm,hR,hT,hMk⟩:=hS;have hW:=ajf hhp;unfold aht at Xi;split at Xi
 ·rename_i hk hnd hun;have hle:m<=s'.nx:=ag5 Xi;have hkeys:=af3 _ hk;have inv:∀o' p,oP ρ s'.heap O o'=some p->∃y,hget s'.heap o'=some y∧((∃o,vF ρ o'=some o∧O o=some p)∨p.pl=none):=by
   intro o' p hp;unfold oP at hp;split at hp
   ·cases hp
   rename_i y hy;refine ⟨y,hy,?_⟩;split at hp
   ·rename_i o ho; exact .inl ⟨o,ho,hp⟩
   split at hp
   ·cases hp; exact .inr rfl
   ·cases hp
   cases hp
  refine ⟨hm,⟨?_,?_,?_,?_,?_,?_,hR.CV,hR.size,hR.frame,?_,hR.glob,hR.UY,hR.W9,?_,?_,hR.env⟩,⟨rfl,hT.size,λ t _=>?_,λ t h=>by cases h⟩,hMk⟩
  ·intro o';constructor
   ·intro h;cases hy:hget s'.heap o' with
    | none=>rfl
    | some y=>
     exfalso;unfold oP at h;rw [hy] at h;simp only at h;split at h
     ·rename_i o ho;obtain ⟨x,hx,_⟩:=hW.ren o' y o hy ho;rw [(hR.dom o).1 h] at hx;cases hx
     rename_i ho;obtain ⟨es,g,rfl⟩:=hW.ghost o' y hy ho;cases h
   intro h;unfold oP;rw [h]
  ·intro o' p hp;obtain ⟨y,hy,_⟩:=inv o' p hp;exact (hkeys _ (Jv _ _ _ (EJ hy))).1
  ·intro o' y p hy hp;unfold oP at hp;rw [hy] at hp;simp only at hp;split at hp
   ·rename_i o ho;obtain ⟨x,hx,he⟩:=hW.ren o' y o hy ho;exact aph hR.dom hW (hR.objs o x p hx hp) he
   rename_i ho;obtain ⟨es,g,rfl⟩:=hW.ghost o' y hy ho;cases hp;exact ⟨rfl,rfl,λ i hi=>absurd hi (ahh i),.inl ⟨rfl,rfl⟩⟩
  ·intro o1 o2 p1 p2 b bo sz b' pO sz' h1 h2 hp1 hp2 hne;obtain ⟨y1,hy1,e1⟩:=inv o1 p1 h1;obtain ⟨y2,hy2,e2⟩:=inv o2 p2 h2;rcases e1 with ⟨q1,hr1,ho1⟩ | e1
   ·rcases e2 with ⟨q2,hr2,ho2⟩ | e2
    ·refine hR.inj q1 q2 p1 p2 b bo sz b' pO sz' ho1 ho2 hp1 hp2 λ e=>?_;subst e;exact hne (amr _ hnd o1 o2 q1 y1 y2 (Jv _ _ _ (EJ hy1)) (Jv _ _ _ (EJ hy2)) hr1 hr2)
    rw [e2] at hp2; cases hp2
   rw [e1] at hp1; cases hp1
  ·intro o p b bo sz h hp;obtain ⟨y,hy,⟨q,hr,ho⟩ | e⟩:=inv o p h
   ·exact hR.qO q p b bo sz ho hp
   rw [e] at hp; cases hp
  ·intro o p b bo sz h hp;obtain ⟨y,hy,⟨q,hr,ho⟩ | e⟩:=inv o p h
   ·exact hR.lt q p b bo sz ho hp
   rw [e] at hp; cases hp
  ·intro o p b bo sz h hp;obtain ⟨y,hy,⟨q,hr,ho⟩ | e⟩:=inv o p h
   ·exact hR.new q p b bo sz ho hp
   rw [e] at hp; cases hp
  ·intro o hlt;rw [hm] at hlt;cases hy:hget s'.heap o with
   | none=>exact .inr (by unfold oP; rw [hy])
   | some y=>
    have:=(hkeys _ (Jv _ _ _ (EJ hy))).2 hlt;have e:oP ρ s'.heap O o=O o:=by unfold oP; rw [hy,this]
    rw [e];exact hR.ZY o (by rw [hm]; exact hlt)
  ·intro o hlt;rw [hm] at hlt;exact ao6 hlt hle
  rcases ams _ htm t with e | e
  ·rw [e]; exact .pure (.undef _)
  exact Vk hR.dom hW.x _ _ _ _ (hT.rep t rfl) e
 cases Xi
end
end Go.Ab
namespace Go.Ab
section
variable {P:Program} {cfg:yx} {N:Nat} {cx:Ctx}
structure uE (w' w:World):Prop where
 cell:∀a v,w.cell? a=some v->w'.cell? a=some v
 frozen:∀a,(w.cell? a).isSome=true->w'.frozen? a=w.frozen? a
 size:w.heap.size<=w'.heap.size
 maps:∀(b:Nat) (es:Array MapEntry) (c:Nat),w.heap[b]? = some (Obj.map es c)->w'.heap[b]? = some (Obj.map es c)
variable {w:World} {w':World} {I:Nat->Prop}
theorem iP.turn (h:uE w' w) {v:AV} {x:Value} (hp:iP w I v x):iP w' I v x:=by
 induction hp with
 | undef x=>exact .undef x
 | bool b=>exact .bool b
 | int k n=>exact .int k n
 | str s=>exact .str s
 | Gm=>exact .Gm
 | pm b es clock h1 h2 h3=>exact .pm b es clock h1 (h.maps _ _ _ h2) h3
 | sl b off vs hcap hfull ha hes hm h1 hr ih=>exact .sl b off vs hcap hfull ha hes (λ i j hi hj=>h.cell _ _ (hm i j hi hj)) h1 ih
 | ro b off vs hI hm hr ih=>exact .ro b off vs hI (λ j hj=>h.cell _ _ (hm j hj)) ih
 | agg hl hr ih=>exact .agg hl ih
 | fn hl hr ih=>exact .fn hl ih
 | jX hl hr ih=>exact .jX hl ih
variable {D:Nat->Prop}
theorem fB.turn (h:uE w' w) {O:OM} {v:AV} {x:Value} (hp:fB w I O D v x):fB w' I O D v x:=by
 induction hp with
 | pure hp=>exact .pure (hp.turn h)
 | ptr ho hp hi=>exact .ptr ho hp hi
 | dR ho hi hcap hfull hpl hext=>exact .dR ho hi hcap hfull hpl hext
 | BU ho hd h1=>exact .BU ho hd h1
 | yB ho hd h1=>exact .yB ho hd h1
 | mref ho hp=>exact .mref ho hp
 | BS ho hd h1=>exact .BS ho hd h1
 | agg hl hr ih=>exact .agg hl ih
 | fn hl hr ih=>exact .fn hl ih
 | jX hl hr ih=>exact .jX hl ih
theorem je.turn (h:uE w' w) {O:OM} {p:Own} {x:eP} (hp:je w I O D p x):je w' I O D p x:=by
 have hal:∀b sz,L9 w b sz->L9 w' b sz:=λ b sz ha j hj=>by
  obtain ⟨h1,h2⟩:=ha j hj;obtain ⟨v,hv⟩:=ano.1 h1;rw [h.cell _ _ hv,h.frozen _ h1];exact ⟨rfl,h2⟩
 have hca:∀b sz j,L9 w b sz->j<sz->cellAt w' b j=cellAt w b j:=λ b sz j ha hj=>by
  obtain ⟨v,hv⟩:=ano.1 (ha j hj).1;unfold cellAt;rw [h.cell _ _ hv,hv]
 cases x with
 | box cs=>
  obtain ⟨h1,b,bo,sz,h2,h3,h4,h5⟩:=hp;exact ⟨h1,b,bo,sz,h2,hal b sz h3,h4,λ j hj=>by rw [hca b sz _ h3 om]; exact (h5 j hj).turn h⟩
 | row es n g=>
  obtain ⟨h1,h2,h3,h4⟩:=hp;refine ⟨h1,h2,h3,h4.imp id ?_⟩;rintro ⟨b,bo,sz,q1,q2,q3,q4⟩;exact ⟨b,bo,sz,q1,⟨hal b sz q2.al,λ j hb hj=>by rw [hca b sz j q2.al hj]; exact q2.one j hb hj⟩,q3,λ i j hi hj=>by
   have hlt:i*es+j<n*es:=by
    have:(i+1)*es<=n*es:=afh _ hi;rw [alq] at this;omega
   rw [hca b sz _ q2 om];exact ⟨(q4 i j hi hj).1.turn h,(q4 i j hi hj).2⟩⟩
 | map kd z f=>
  obtain ⟨h1,b,bo,sz,es,clock,q1,q2,q3⟩:=hp;exact ⟨h1,b,bo,sz,es,clock,q1,h.maps b es clock q2,q3⟩
theorem Rel.turn {H:Nat->Option eP} {O:OM} (h:uE w' w) (hfr:∀b,b<cx.w0.heap.size->w'.heap[b]? = w.heap[b]?) (he:Jm cx w') (hR:Rel cfg cx H D w I O):Rel cfg cx H D w' I O where
 dom:=hR.dom
 used:=hR.used
 objs:=λ o ob p h1 h2=>(hR.objs o ob p h1 h2).turn h
 inj:=hR.inj
 qO:=hR.qO
 lt:=λ o p b bo sz h1 h2=>ao6 (hR.lt o p b bo sz h1 h2) h.size
 CV:=λ b hb=>ao6 (hR.CV b hb) h.size
 size:=afQ hR.size h.size
 frame:=λ b h1 h2=>by rw [hfr b h1]; exact hR.frame b h1 h2
 new:=hR.new
 glob:=λ g cs hg=>(hR.glob g cs hg).turn h
 UY:=hR.UY
 W9:=hR.W9
 ZY:=hR.ZY
 Dm:=hR.Dm
 env:=he
theorem jK.turn {m:Nat} {s:St} {a a':Act} {O:OM} (h:uE w' w) (hfr:∀b,b<cx.w0.heap.size->w'.heap[b]? = w.heap[b]?) (he:Jm cx w') (ha:a'.tmps=a.tmps) (hm:Marks cx w' a'.defers) (hS:jK cfg N m cx s a w I O):jK cfg N m cx s a' w' I O:=
 ⟨hS.m,hS.rel.turn h hfr he,⟨rfl,by rw [ha]; exact hS.tmps.size,λ t ht=>by rw [ha]; exact (hS.tmps.rep t ht).turn h,λ t ht=>by cases ht⟩,hm⟩
theorem Iz {D:Nat} {o o':Obj} (h:w.heap[D]? = some o) (ho:Q9 o=true) (hnm:∀es c,o≠.map es c:=by intro _ _ h; cases h):uE (w.putObj D o') w:=by
 have hlt:D<w.heap.size:=by
  rcases aoG D w.heap.size with h1 | h1
  ·exact h1
  rw [aoF h1] at h; cases h
 have hno:∀a:Addr,a.block=D->w.cell? a=none:=λ a e=>by
  unfold World.cell?;rw [e,h];cases o<;>first | rfl | exact absurd ho azc
 refine ⟨λ a v hv=>?_,λ a hv=>?_,by simp [World.putObj],λ b es c hb=>?_⟩
 ·by_cases e:a.block=D
  ·rw [hno a e] at hv; cases hv
  unfold World.cell? at hv ⊢;rw [World.putObj_heap_other e];exact hv
 ·by_cases e:a.block=D
  ·rw [hno a e] at hv; cases hv
  unfold World.frozen?;rw [World.putObj_heap_other e]
 by_cases e:b=D
 ·subst e;rw [h] at hb;exact absurd (alm hb) (hnm es c)
 rw [World.putObj_heap_other e];exact hb
theorem apj {D:Nat} {o':Obj} (hD:cx.w0.heap.size<=D) (hK:∀k o,¬ cx.K k o) (he:Jm cx w):Jm cx (w.putObj D o'):=by
 refine ⟨⟨he.same.os,he.same.tape,he.same.output,λ k o hk ho=>?_⟩,λ k o h=>absurd h (hK k o)⟩;have hlt:k<cx.w0.heap.size:=by
  rcases aoG k cx.w0.heap.size with h1 | h1
  ·exact h1
  rw [aoF h1] at hk; cases hk
 rw [World.putObj_heap_other om];exact he.same.keep k o hk ho
theorem D7 {F:Fence} {n m:Nat} {fn:Func} {s:St} {R:Ending->World->Prop} (hK:∀k o,¬ cx.K k o)
  (fin:∀(a:Act) (w:World) (I:Nat->Prop) (O:OM),jK cfg N m cx s a w I O->∃v,(results fn a.tmps).run P w=.ok v w∧R (.returned v) w):
  ∀(ms:azt) (tmps:Array Value) (w:World) (I:Nat->Prop) (O:OM),ms.Nodup->(∀D∈ms,cx.w0.heap.size<=D∧w.heap[D]? = some (.deferred (some [])))->jK cfg N m cx s ⟨tmps,[]⟩ w I O->LeavesInM F n P fn tmps R (ms.map aaP) .returning w:=by
 intro ms;induction ms with
 | nil=>
  intro tmps w I O _ _ hS;exact fin _ w I O hS
 | cons D ms ih=>
  intro tmps w I O hnd hms hS;obtain ⟨hD1,hD2⟩:=hms D (apo ..);rw [awV] at hnd;refine ⟨nofun,.inl ⟨D,w.putObj D (.deferred none),rfl,run_takeDeferred hD2,?_⟩⟩;refine ih tmps _ I O hnd.2 (λ D' hD'=>?_) ?_
  ·have hne:D'≠D:=λ e=>hnd.1 (e ▸ hD');rw [World.putObj_heap_other hne];exact hms D' (akb _ hD')
  exact hS.turn (Iz hD2 rfl) (λ b hb=>World.putObj_heap_other om) (apj hD1 hK hS.rel.env) rfl ⟨[],atl,λ _=>rfl,rfl,λ _ h=>by cases h⟩
end
end Go.Ab
namespace Go.Ab
section
variable {P:Program} {cfg:yx} {cx:Ctx} {N:Nat}
def af5 (tmps:Array Value):ResultVar->Sem Value
 | .tmp t=>pure (tmps.getD t undef)
 | .cell a t=>do loadVar t (<- asAddr (tmps.getD a undef))
variable {w:World} {I:Nat->Prop}
theorem af6 (hc:iL P cfg) {m:Nat} {s:St} {a:Act} {O:OM} (hS:jK cfg N m cx s a w I O):∀(rs:List ResultVar) (vs:azx),L6 cfg s rs=some vs->
  ∃xs:List Value,(rs.mapM (af5 a.tmps)).run P w=.ok xs w∧xs.length=vs.length∧∀j,j<vs.length->fB w I O (λ o=>o<s.nx) (nth vs j) (xs.getD j Go.undef):=by
 intro rs;induction rs with
 | nil=>intro vs h; cases h; exact ⟨[],by simp,rfl,λ j hj=>by cases hj⟩
 | cons q rs ih=>
  intro vs h;cases q with
  | tmp t=>
   simp only [L6] at h;split at h
   ·rename_i vs' hvs;cases h;obtain ⟨xs,h1,h2,h3⟩:=ih vs' hvs;refine ⟨a.tmps.getD t Go.undef::xs,?_,by simp [h2],λ j hj=>?_⟩
    ·rw [List.mapM_cons];simp [af5,h1]
    cases j with
    | zero=>exact hS.tmps.rep t rfl
    | succ j=>exact h3 j (by simpa using hj)
   cases h
  | cell ad ty=>
   simp only [L6] at h;split at h
   ·rename_i vs' o ti hvs had hty;have key:∀(cs:azx) (b bo sz:Nat),a.tmps.getD ad Go.undef=.pointer (some ⟨b,bo,none⟩)->L9 w b sz->bo+cs.length<=sz->(∀j,j<cs.length->fB w I O (λ o=>o<s.nx) (nth cs j) (cellAt w b (bo+j)))->
      ∀v,gq (λ _ _ _ _ _=>True) (hget s.heap) (CW ti cs) v [] []->∃xs:List Value,((ResultVar.cell ad ty::rs).mapM (af5 a.tmps)).run P w=.ok xs w∧xs.length=(v::vs').length∧∀j,j<(v::vs').length->fB w I O (λ o=>o<s.nx) (nth (v::vs') j) (xs.getD j Go.undef):=by
     intro cs b bo sz hgd hal hle hcs v hv
     obtain ⟨xs,h1,h2,h3⟩:=ih vs' hvs
     obtain ⟨_,x,hrun,hx⟩:=sP (w:=w) (I:=I) (O:=O) (D:=λ o=>o<s.nx) hc hty hv b bo (λ j=>cellAt w b (bo+j)) (λ j hj=>xw hal om) (λ j hj=>hcs j hj)
     have hrun':(loadVar ty ⟨b,bo,none⟩).run P w=.ok x w:=by
      have:=hrun
      simp [Instr.loadAt,Instr.sureAddr] at this
      exact this
     refine ⟨x::xs,?_,by simp [h2],λ j hj=>?_⟩
     ·rw [List.mapM_cons,Sem.run_bind]
      have e:(af5 a.tmps (.cell ad ty)).run P w=.ok x w:=by
       unfold af5
       simp only
       rw [hgd]
       simp [asAddr,hrun']
      rw [e]
      simp [h1]
     cases j with
     | zero=>exact hx
     | succ j=>exact h3 j (by simpa using hj)
    have hrep:=hS.tmps.rep ad rfl;rw [had] at hrep;split at h
    ·rename_i cs rY;obtain ⟨p,hp,hO⟩:=hS.rel.live rY;obtain ⟨b,bo,sz,hpl,hi,hxv⟩:=hrep.qg hp;obtain ⟨hn,b',pO,sz',hpl',hal,hle,hcs⟩:=hO;rw [hpl] at hpl';cases hpl';simp only [asO,aqp] at hxv;have key:=key cs b bo sz hxv hal hle hcs;split at h
     ·rename_i hag;split at h
      ·rename_i hsz;cases h;refine key _ ?_;unfold CW;rw [hag];simp only [gL,hsz];exact .ret _ _
      cases h
     rename_i hag;split at h
     ·cases h;refine key _ ?_;unfold CW;rw [hag];exact .ret _ _
     cases h
    ·rename_i es n g rY;obtain ⟨p,hp,hO⟩:=hS.rel.live rY;obtain ⟨b,bo,sz,hpl,hi,hxv⟩:=hrep.qg hp;obtain ⟨hn,hes,hlen,hpl' | ⟨b',pO,sz',hpl',hal,hle,hcs⟩⟩:=hO
     ·rw [hpl] at hpl'; cases hpl'.2
     rw [hpl] at hpl';cases hpl';simp only [asO,aqp] at hxv;obtain ⟨hrl,hrr⟩:=U9 hlen hcs;have key:=key (lS n 0 g) b bo sz hxv hal om (λ j hj=>.pure (hrr j hj));split at h
     ·rename_i hag;split at h
      ·rename_i hsz;cases h;refine key _ ?_;unfold CW;rw [hag];simp only [gL,hsz];exact .ret _ _
      cases h
     cases h
    cases h
   cases h
theorem YF (hc:iL P cfg) {m:Nat} {s:St} {a:Act} {O:OM} (hS:jK cfg N m cx s a w I O) {fn:Func} {vs:azx} (h:L6 cfg s fn.results.toList=some vs):
  ∃x,(results fn a.tmps).run P w=.ok x w∧fB w I O (λ o=>o<s.nx) (oneOf vs) x:=by
 obtain ⟨xs,h1,h2,h3⟩:=af6 hc hS _ _ h;have hrun:(results fn a.tmps).run P w=.ok (if h:xs.toArray.size=1 then xs.toArray[0] else .tuple xs.toArray) w:=by
  have e0:results fn a.tmps=(fn.results.mapM (af5 a.tmps)) >>= λ vs=>pure (if h:vs.size=1 then vs[0] else .tuple vs):=by
   unfold results;congr 1
  have e2:fn.results.mapM (af5 a.tmps)=Functor.map List.toArray (fn.results.toList.mapM (af5 a.tmps)):=by
   rw [<- List.mapM_toArray]
  rw [e0,Sem.run_bind,e2,Sem.run_map,h1];rfl
 refine ⟨_,hrun,?_⟩;match xs,vs,h2,h3 with
 | [],[],_,_=>exact .jX rfl λ j hj=>by cases hj
 | [x],[v],_,h3=>exact h3 0 (by simp)
 | x::x'::xs,v::v'::vs,h2,h3=>
  have:¬ (x::x'::xs).toArray.size=1:=by simp
  rw [dif_neg this]
  exact .jX (by simpa using h2) λ j hj=>by simpa using h3 j hj
theorem af7:∀(obs:azE) (i o:Nat),hget (KT.qc obs i) o=if i<=o then hof obs (o - i) else none:=by
 intro obs;induction obs with
 | nil=>intro i o; simp [KT.qc,hget,look,hof]
 | cons x l ih=>
  intro i o;unfold KT.qc hget;simp only [look];cases hb:Nat.beq i o with
  | true=>
   have:=adU hb;subst this;simp [hof]
  | false=>
   have hne:i≠o:=λ e=>by subst e; simp at hb
   have:=ih (i+1) o;unfold hget at this;simp only;rw [this];by_cases hi:i<=o
   ·rw [if_pos hi,if_pos om,show o - i=(o - (i+1))+1 by omega];rfl
   rw [if_neg hi,if_neg om]
theorem KZ (obs:azE):hget (KT.qc obs 0)=hof obs:=by
 funext o;rw [af7];simp
theorem aaQ:∀(l:azx) (i t:Nat),iK (L8 l i) t=if i<=t then nth l (t - i) else .undef:=by
 intro l;induction l with
 | nil=>intro i t; simp [L8,iK,look,nth]
 | cons v l ih=>
  intro i t;unfold L8 iK;simp only [look];cases hb:Nat.beq i t with
  | true=>
   have:=adU hb;subst this;simp [nth]
  | false=>
   have hne:i≠t:=λ e=>by subst e; simp at hb
   have:=ih (i+1) t;unfold iK at this;simp only;rw [this];by_cases hi:i<=t
   ·rw [if_pos hi,if_pos om,show t - i=(t - (i+1))+1 by omega];rfl
   rw [if_neg hi,if_neg om]
theorem akr:∀(n i:Nat),(upTo n i).length=n∧∀j,j<n->iB (upTo n i) j=i+j:=by
 intro n;induction n with
 | zero=>intro i; exact ⟨rfl,λ j hj=>by cases hj⟩
 | succ n ih=>
  intro i;obtain ⟨h1,h2⟩:=ih (i+1);refine ⟨by simp [upTo,h1],λ j hj=>?_⟩;cases j with
  | zero=>rfl
  | succ j=>show iB (upTo n (i+1)) j=_; rw [h2 j om]; omega
theorem ach (l m:azt) (j:Nat) (h:j<l.length):iB (l++m) j=iB l j:=by
 induction l generalizing j with
 | nil=>cases h
 | cons x l ih=>cases j with
  | zero=>rfl
  | succ j=>exact ih j (by simpa using h)
theorem af8 {H:lD}:∀(sg:azt) (obs:azE),aax H sg obs->obs.length=sg.length∧∀j,j<sg.length->∃x y,hget H (iB sg j)=some x∧hof obs j=some y∧ZT x=true∧afr [] [] x y:=by
 intro sg;induction sg with
 | nil=>intro obs h; cases obs with
  | nil=>exact ⟨rfl,λ j hj=>by cases hj⟩
  | cons=>exact h.elim
 | cons o sg ih=>intro obs h; cases obs with
  | nil=>exact h.elim
  | cons y obs=>
   obtain ⟨h1,h2⟩:=h
   obtain ⟨h3,h4⟩:=ih obs h2
   refine ⟨by simp [h3],λ j hj=>?_⟩
   cases j with
   | zero=>
    split at h1
    ·rename_i x hx
     split at h1
     ·rename_i hp; exact ⟨x,y,hx,rfl,hp,h1⟩
     exact h1.elim
    exact h1.elim
   | succ j=>exact h4 j (by simpa using hj)
theorem amt:apf [] [] [] where
 ren:=λ _ _ _ h=>by cases h
 ghost:=λ _ _ h=>by cases h
theorem je.ars {I':Nat->Prop} {O O':OM} {D D':Nat->Prop} {p:Own} {x y:eP} (hI:∀b,I b->I' b) (h:je w I O D p x) (hp:ZT x=true) (he:afr [] [] x y):je w I' O' D' p y:=by
 cases x with
 | box cs=>
  cases y with
  | row es n g=>exact he.elim
  | map kd z f=>exact he.elim
  | box cs'=>
   obtain ⟨h1,b,bo,sz,hpl,ha,hl,hr⟩:=h;obtain ⟨h2,h3⟩:=Xl _ cs cs' he;refine ⟨h1,b,bo,sz,hpl,ha,by omega,λ j hj=>?_⟩;obtain ⟨f',_,h4⟩:=h3 j hj;have hx:=(hr j om).BZ (ab9 hp j om);have hy:fB w I (oP [] [] λ _=>none) (λ _=>False) (nth cs' j) (cellAt w b (bo+j)):=Vk (H:=[]) (O:=λ _=>none) (D:=λ _=>False) (λ o=>by simp [hget,look]) amt f' _ _ _ (.pure hx) h4;have e:(oP [] [] λ _=>none)=(λ _=>none:OM):=by funext o; simp [oP,hget,look]
   rw [e] at hy;exact .pure ((GJ hy).mono hI λ _ _=>rfl)
 | row es n g=>
  cases y with
  | box cs'=>exact he.elim
  | map kd z f=>exact he.elim
  | row es' n' g'=>
   have hO:je w I' O' D' p (.row es n g):=by
    obtain ⟨h1,h2,h3,h4⟩:=h;refine ⟨h1,h2,h3,?_⟩;rcases h4 with h4 | ⟨b,bo,sz,hp,ha,hl,hr⟩
    ·exact .inl h4
    exact .inr ⟨b,bo,sz,hp,ha,hl,λ i j hi hj=>⟨(hr i j hi hj).1.mono hI λ _ _=>rfl,(hr i j hi hj).2⟩⟩
   exact LeO.rep (x:=.row es n g) (y:=.row es' n' g') he hO
 | map kd z f=>cases hp
variable {obs:azE}
theorem Rel.home {H:Nat->Option eP} {D:Nat->Prop} {O:OM} (hR:Rel cfg cx H D w I O) {ex ids:azt} (hnd:qb (upTo cx.m 0++ex)=true) (hdj:Oi ids (upTo cx.m 0++ex)=true) (hl:obs.length=(upTo cx.m 0++ex).length)
  (acd:∀j,j<(upTo cx.m 0++ex).length->∃x y,H (iB (upTo cx.m 0++ex) j)=some x∧hof obs j=some y∧ZT x=true∧afr [] [] x y):
  Rel cfg cx (hof obs) (λ o=>o<obs.length) w (λ b=>I b∨Gl O ids b) (qP O (upTo cx.m 0++ex))∧∀o,o<cx.m->qP O (upTo cx.m 0++ex) o=cx.O0 o:=by
 have hup:=akr cx.m 0;have aru:∀j,j<cx.m->j<(upTo cx.m 0++ex).length∧iB (upTo cx.m 0++ex) j=j:=λ j hj=>by
  refine ⟨by simp [hup.1]; omega,?_⟩;rw [ach _ _ _ (by rw [hup.1]; exact hj),hup.2 j hj];simp
 generalize hsg:upTo cx.m 0++ex=sg at hnd hdj hl acd aru;have hsub:∀ {j p},qP O sg j=some p->j<sg.length∧O (iB sg j)=some p:=λ h=>by
  unfold qP at h;split at h
  ·exact ⟨by assumption,h⟩
  cases h
 have hO0:∀o,o<cx.m->qP O sg o=cx.O0 o:=λ o ho=>by
  obtain ⟨h1,h2⟩:=aru o ho;obtain ⟨x,y,h3,_⟩:=acd o h1;rw [h2] at h3;unfold qP;rw [if_pos h1,h2];rcases hR.ZY o ho with e | e
  ·exact e
  rw [(hR.dom o).1 e] at h3; cases h3
 refine ⟨?_,hO0⟩;exact {
  dom:=λ j=>by
   unfold qP
   by_cases hj:j<sg.length
   ·obtain ⟨x,y,h1,h2,_⟩:=acd j hj
    obtain ⟨p,hp,_⟩:=hR.live h1
    simp [hj,h2,hp]
   rw [if_neg hj,Vf obs j om]
   simp
  used:=λ j p h=>by have:=(hsub h).1; omega
  objs:=λ j ob p h h'=>by
   obtain ⟨h1,h2⟩:=hsub h'
   obtain ⟨x,y,h3,h4,h5,h6⟩:=acd j h1
   rw [h] at h4
   cases h4
   exact (hR.objs _ _ p h3 h2).ars (λ _ h=>.inl h) h5 h6
  inj:=λ j j' p p' b bo sz b' pO sz' h1 h2 h3 h4 h5=>by
   obtain ⟨q1,q2⟩:=hsub h1
   obtain ⟨q3,q4⟩:=hsub h2
   exact hR.inj _ _ p p' b bo sz b' pO sz' q2 q4 h3 h4 (λ e=>h5 (KX sg hnd j j' q1 q3 e))
  qO:=λ j p b bo sz h1 h2 h3=>by
   obtain ⟨q1,q2⟩:=hsub h1
   rcases h3 with h3 | ⟨o',p',pO,sz',q3,q4,q5⟩
   ·exact hR.qO _ p b bo sz q2 h2 h3
   exact hR.inj _ o' p p' b bo sz b pO sz' q2 q4 h2 q5 (λ e=>TW ids sg hdj o' q3 (e ▸ sS sg j q1)) rfl
  lt:=λ j p b bo sz h1 h2=>hR.lt _ p b bo sz (hsub h1).2 h2
  CV:=(hR.freeze ids).CV
  size:=hR.size
  frame:=hR.frame
  env:=hR.env
  new:=λ j p b bo sz h1 h2=>hR.new _ p b bo sz (hsub h1).2 h2
  glob:=(hR.freeze ids).glob
  UY:=λ b h=>.inl (hR.UY b h)
  W9:=(hR.freeze ids).W9
  ZY:=λ o ho=>.inl (hO0 o ho)
  Dm:=λ o ho=>by have:=(aru o ho).1; omega }
theorem aea (hc:iL P cfg) {f:FuncId} {fn:Func} {c:Code} {args:azx} {obs:azE} {r:AV} {fQ:azE} (hf:P.funcs[f]? = some fn) (hb:fn.body=some c) (hnm:(fn.name == "runtime.NumGoroutine")=false)
  (hN:args.length<=fn.ntmps) (hle:obs.length<=fQ.length)
  (h:Good P cfg fn.ntmps none obs.length c ⟨L8 args 0,KT.qc obs 0,obs.length⟩ (KT cfg (Spec P cfg) fn.results.toList obs.length r fQ)):Spec P cfg f args obs r fQ:=by
 refine ⟨⟨fn,hf,by rw [hb]; rfl,hnm⟩,hle,λ w I O vals hR hvs hrep=>?_⟩;refine (callsIn_wide (n:=0)).1 (callsIn_of_wp_marks hf hb trivial ?_);have hS:jK cfg fn.ntmps obs.length (NI w I O obs.length) ⟨L8 args 0,KT.qc obs 0,obs.length⟩ { tmps:=vals++Array.replicate (fn.ntmps - vals.size) undef,defers:=[] } w I O:=by
  refine ⟨rfl,?_,⟨rfl,by simp; omega,λ t _=>?_,λ t h=>by cases h⟩,⟨[],atl,λ _=>rfl,rfl,λ _ h=>by cases h⟩⟩
  ·rw [KZ]; exact hR
  rw [aaQ];simp only [alh,if_true,ayP];by_cases ht:t<args.length
  ·have e:(vals++Array.replicate (fn.ntmps - vals.size) undef).getD t Go.undef=vals.getD t Go.undef:=by
    have:t<vals.size:=by omega
    simp [as6 this]
   rw [e];exact hrep t ht
  have e:nth args t=.undef:=by
   rw [wN];simp [au7 (Nat.le_of_not_lt ht)]
  rw [e];exact .pure (.undef _)
 refine wpIn_mono (h 0 _ _ w I O hS rfl) ?_;intro e a0 w0 ⟨s,I0,O0,hK,hS0⟩;have main:∀(a':Act) (w':World) (I':Nat->Prop) (O':OM),jK cfg fn.ntmps obs.length (NI w I O obs.length) s a' w' I' O'->(∃vs,L6 cfg s fn.results.toList=some vs∧ev (Spec P cfg) [] (hget s.heap) (Q7 (upTo obs.length 0++adO obs.length r (oneOf vs)) (oneOf vs) λ v' ids=>gL (qb (upTo obs.length 0++adO obs.length r (oneOf vs))) (gL (Oi ids (upTo obs.length 0++adO obs.length r (oneOf vs))) (l6 v'))) []
   λ v' _ _=>nC [] (KT.qc fQ 0) fuel v' r∧aax s.heap (upTo obs.length 0++adO obs.length r (oneOf vs)) fQ)->∃v,(results fn a'.tmps).run P w'=.ok v w'∧∃x I'' O'',Ending.returned v=.returned x∧Rel cfg (NI w I O obs.length) (Iw fQ) (λ o=>o<fQ.length) w' I'' O''∧
   fB w' I'' O'' (λ o=>o<fQ.length) r x:=by
  rintro a' w' I' O' hS' ⟨vs,hvs,hev⟩
  obtain ⟨x,hrun,hx⟩:=YF hc hS' hvs
  refine ⟨x,hrun,x,?_⟩
  obtain ⟨v',ups,BR,⟨h1,h2⟩,_,h3⟩:=Z6 _ _ _ _ _ hev
  obtain ⟨rr,h4,_⟩:=h3 (λ q hq=>by cases hq)
  obtain ⟨h5,h6⟩:=af8 _ _ h2
  obtain ⟨u',ids,r',h7,h8⟩:=SF hS'.rel (λ j hj=>let ⟨x,y,h9,_⟩:=h6 j hj; ⟨x,h9⟩) h4
  obtain ⟨hnd,h7⟩:=h7.dF
  obtain ⟨hdj,h7⟩:=h7.dF
  obtain ⟨rfl,_⟩:=h7.fO
  obtain ⟨h10,h11⟩:=Rel.home hS'.rel hnd hdj h5 h6
  have hgn:Iw fQ=hof fQ:=aoT λ j y hy=>by
   have hj:j<(upTo obs.length 0++adO obs.length r (oneOf vs)).length:=by
    rcases aoG j fQ.length with h | h
    ·omega
    rw [Vf _ _ h] at hy; cases hy
   obtain ⟨q,y',_,q2,q3,q4⟩:=h6 j hj
   rw [hy] at q2
   cases q2
   cases y with
   | map=>cases q<;>first | exact q4.elim | cases q3
   | _=>rfl
  refine ⟨_,_,rfl,by rw [hgn]; exact h10,?_⟩
  have hdom:=h10.dom
  rw [<- KZ fQ] at hdom
  have hX:apf [] (KT.qc fQ 0) (KT.qc fQ 0):=⟨λ o' y o hy ho=>by cases ho; exact ⟨y,hy⟩,λ o' y hy ho=>by cases ho⟩
  have:=Vk (D':=λ o=>o<fQ.length) hdom hX fuel _ _ x (h8 x hx) h1
  have e:oP [] (KT.qc fQ 0) (qP O' (upTo obs.length 0++adO obs.length r (oneOf vs)))=qP O' (upTo obs.length 0++adO obs.length r (oneOf vs)):=by
   funext o
   unfold oP
   split
   ·rename_i hn; exact ((hdom o).2 hn).symm
   rfl
  exact e ▸ this
 have hret:∀(a':Act) (w':World) (I':Nat->Prop) (O':OM),jK cfg fn.ntmps obs.length (NI w I O obs.length) s a' w' I' O'->∀vs,L6 cfg s fn.results.toList=vs->(match vs with
   | some vs=>match oneOf vs with
    | v=>match upTo obs.length 0++adO obs.length r v with
     | sg=>ev (Spec P cfg) [] (hget s.heap) (Q7 sg v λ v' ids=>gL (qb sg) (gL (Oi ids sg) (l6 v'))) [] λ v' _ _=>nC [] (KT.qc fQ 0) fuel v' r∧aax s.heap sg fQ
   | none=>False)->∃v,(results fn a'.tmps).run P w'=.ok v w'∧∃x I'' O'',Ending.returned v=.returned x∧Rel cfg (NI w I O obs.length) (Iw fQ) (λ o=>o<fQ.length) w' I'' O''∧
   fB w' I'' O'' (λ o=>o<fQ.length) r x:=by
  intro a' w' I' O' hS' vs hvs h
  cases vs with
  | none=>exact h.elim
  | some vs=>exact main a' w' I' O' hS' ⟨vs,hvs,h⟩
 obtain ⟨ms,hnd,_,hds,hms⟩:=hS0.marks;have hS1:=jK.turn (a:=a0) (w:=w0) (a':=⟨a0.tmps,[]⟩) ⟨λ _ _ h=>h,λ _ _=>rfl,afg _,λ _ _ _ h=>h⟩ (λ _ _=>rfl) hS0.rel.env rfl ⟨[],atl,λ _=>rfl,rfl,λ _ h=>by cases h⟩ hS0;cases e with
 | normal=>
  show LeavesInM _ _ _ _ _ _ a0.defers _ _;rw [hds];exact D7 (cx:=NI w I O obs.length) (λ _ _ h=>h) (λ a w' I' O' hS'=>hret a w' I' O' hS' _ rfl hK) ms a0.tmps w0 I0 O0 hnd hms hS1
 | ret=>
  show LeavesInM _ _ _ _ _ _ a0.defers _ _;rw [hds];exact D7 (cx:=NI w I O obs.length) (λ _ _ h=>h) (λ a w' I' O' hS'=>hret a w' I' O' hS' _ rfl hK) ms a0.tmps w0 I0 O0 hnd hms hS1
 | exit id=>exact hK.elim
 | goto l=>exact hK.elim
 | panic ch=>exact hK.elim
 | outgrown=>exact hK.elim
theorem aks (hc:iL P cfg) {f:FuncId} {fn:Func} {c:Code} {ct:azt} {args:azx} {obs:azE} {r:AV} {fQ:azE} (hf:P.funcs[f]? = some fn) (hb:fn.body=some c) (hnm:(fn.name == "runtime.NumGoroutine")=false)
  (hN:args.length<=fn.ntmps) (hok:jk fn.ntmps c=true) (hle:obs.length<=fQ.length)
  (h:lF cfg (Spec P cfg) ct (Loops P cfg fn.ntmps none obs.length) c ⟨L8 args 0,KT.qc obs 0,obs.length⟩ (KT cfg (Spec P cfg) fn.results.toList obs.length r fQ)):Spec P cfg f args obs r fQ:=
 aea hc hf hb hnm hN hle (jA hc c _ _ hok h)
end
end Go.Ab
namespace Go.Ab
section
variable {P:Program} {cfg:yx} {N:Nat} {cx:Ctx}
def amu (o es:Nat) (g:Nat->AV) (v:AV):AV:=match v with
 | .dR o' i n f=>match Nat.beq o' o with
  | true=>.sl es n f (rP i g)
  | false=>.dR o' i n f
 | v=>v
def akt (o es:Nat) (g:Nat->AV):azx->azx
 | []=>[]
 | v::l=>amu o es g v::akt o es g l
def amv (o es:Nat) (g:Nat->AV) (v:AV):AV:=match v with
 | .agg cs=>.agg (akt o es g cs)
 | v=>amu o es g v
def af9 (o es:Nat) (g:Nat->AV):azx->azx
 | []=>[]
 | v::l=>amv o es g v::af9 o es g l
def apk (o es:Nat) (g:Nat->AV) (v:AV):AV:=match v with
 | .jX cs=>.jX (af9 o es g cs)
 | v=>amv o es g v
theorem Vl (o es:Nat) (g:Nat->AV) (l:azx):(akt o es g l).length=l.length:=by
 induction l with
 | nil=>rfl
 | cons v l ih=>simp [akt,ih]
theorem aga (o es:Nat) (g:Nat->AV):∀(l:azx) (j:Nat),nth (akt o es g l) j=amu o es g (nth l j):=by
 intro l;induction l with
 | nil=>intro j; rfl
 | cons v l ih=>intro j; cases j with
  | zero=>rfl
  | succ j=>exact ih j
theorem ac4 (o es:Nat) (g:Nat->AV) (l:azx):(af9 o es g l).length=l.length:=by
 induction l with
 | nil=>rfl
 | cons v l ih=>simp [af9,ih]
theorem aku (o es:Nat) (g:Nat->AV):∀(l:azx) (j:Nat),nth (af9 o es g l) j=amv o es g (nth l j):=by
 intro l;induction l with
 | nil=>intro j; rfl
 | cons v l ih=>intro j; cases j with
  | zero=>rfl
  | succ j=>exact ih j
def amw (o es:Nat) (g:Nat->AV):List (Nat×AV)->List (Nat×AV)
 | []=>[]
 | (t,v)::l=>(t,apk o es g v)::amw o es g l
theorem akv (o es:Nat) (g:Nat->AV):∀(l:List (Nat×AV)) (t:Nat),iK (amw o es g l) t=apk o es g (iK l t):=by
 intro l;induction l with
 | nil=>intro t; rfl
 | cons p l ih=>
  intro t;obtain ⟨k,v⟩:=p;unfold amw iK;simp only [look];cases hb:Nat.beq k t with
  | true=>rfl
  | false=>exact ih t
variable {H:Nat->Option eP} {D:Nat->Prop} {I:Nat->Prop} {g:Nat->AV}
theorem aaR {w:World} {O:OM} (hR:Rel cfg cx H D w I O) {o es n0:Nat} (ho:H o=some (.row es n0 g)) {v:AV} {x:Value} (h:fB w I O D v x):
  fB w (λ b=>I b∨Gl O [o] b) (kill O [o]) D (amu o es g v) x:=by
 have dflt:fB w (λ b=>I b∨Gl O [o] b) (kill O [o]) D v x:=
  h.mono (λ _ h=>.inl h) (λ _ _=>rfl) (λ o' _=>by unfold kill; by_cases h0:o'∈[o]<;>simp [h0]) (λ _ h=>h) hR.used
 unfold amu;split
 ·rename_i o' i n f;split
  ·rename_i hb;have:=adU hb;subst this;have he:gq (λ _ _ _ _ _=>True) H (pur 1 (.dR o' i n f) (λ u ids=>.ret u (dead ids))) (.sl es n f (rP i g)) (dead [o']) [o']:=.rd ho (.ret _ _);obtain ⟨u,ids,r',h1,h2⟩:=(Jq hR 1).1 _ _ _ _ _ he;have hid:u=.sl es n f (rP i g)∧dead ids=dead [o']:=by
    have:=h1.mJ;exact ⟨this.1.symm,this.2.symm⟩
   have avD:ids=[o']:=by
    have h3:=hid.2;match ids,h3 with
    | [],h3=>cases h3
    | [a],h3=>simp [dead] at h3; rw [h3]
    | a::b::l,h3=>simp [dead] at h3
   rw [avD] at h2;rw [<- hid.1];exact .pure (h2 x h)
  exact dflt
 exact dflt
theorem agb {w:World} {O:OM} (hR:Rel cfg cx H D w I O) {o es n0:Nat} (ho:H o=some (.row es n0 g)) {v:AV} {x:Value} (h:fB w I O D v x):
  fB w (λ b=>I b∨Gl O [o] b) (kill O [o]) D (amv o es g v) x:=by
 unfold amv;split
 ·obtain ⟨xs,rfl,hl,hr⟩:=h.vY;refine .agg (by rw [Vl]; exact hl) λ j hj=>?_;rw [Vl] at hj;rw [aga];exact aaR hR ho (hr j hj)
 exact aaR hR ho h
theorem apl {w:World} {O:OM} (hR:Rel cfg cx H D w I O) {o es n0:Nat} (ho:H o=some (.row es n0 g)) {v:AV} {x:Value} (h:fB w I O D v x):
  fB w (λ b=>I b∨Gl O [o] b) (kill O [o]) D (apk o es g v) x:=by
 unfold apk;split
 ·obtain ⟨xs,rfl,hl,hr⟩:=h.KU;refine .jX (by rw [ac4]; exact hl) λ j hj=>?_;rw [ac4] at hj;rw [aku];exact agb hR ho (hr j hj)
 exact agb hR ho h
end
end Go.Ab
namespace Go.Ab
section
variable {P:Program} {cfg:yx}
def aaS (P:Program) (cfg:yx) (N:Nat) (r:Option Nat) (m:Nat) (c:Code) (s:St) (K:Exit->St->Prop):Prop:=
 ∃e0 s0,K e0 s0∧Good P cfg N r m c s (λ e s=>e=e0∧s=s0)
structure avE (P:Program) (cfg:yx) (N:Nat) (r:Option Nat) (m:Nat) (c:Code) (s:St) (K:Exit->St->Prop):Prop where
 ok:aaS P cfg N r m c s K
theorem aaS.seq {N:Nat} {r:Option Nat} {m:Nat} {x y:Code} {s:St} {K:Exit->St->Prop} (h:aaS P cfg N r m x s λ e s'=>match e with | .normal=>aaS P cfg N r m y s' K | e=>K e s'):aaS P cfg N r m (.seq x y) s K:=by
 obtain ⟨e1,s1,h1,h2⟩:=h;cases e1 with
 | normal=>
  obtain ⟨e0,s0,h3,h4⟩:=h1;refine ⟨e0,s0,h3,sU (h2.mono λ e s' h=>?_)⟩;obtain ⟨rfl,rfl⟩:=h;exact h4
 | _=>
  refine ⟨_,s1,h1,sU (h2.mono λ e s' h=>?_)⟩;obtain ⟨rfl,rfl⟩:=h;exact ⟨rfl,rfl⟩
end
end Go.Ab
namespace Go.Ab
section
variable {P:Program} {cfg:yx} {N:Nat} {cx:Ctx}
def amx (o es:Nat) (g:Nat->AV):Option eP->Option eP
 | some (.box cs)=>some (.box (akt o es g cs))
 | x=>x
def ac5 (o es:Nat) (g:Nat->AV):lD->lD
 | []=>[]
 | (k,x)::l=>(k,amx o es g x)::ac5 o es g l
def arv (o:Nat) (s:St):St:=match hget s.heap o with
 | some (.row es _ g)=>⟨amw o es g s.tmps,(o,none)::ac5 o es g s.heap,s.nx⟩
 | _=>s
def ac6:azt->St->St
 | [],s=>s
 | o::l,s=>ac6 l (arv o s)
theorem ah0 (o es:Nat) (g:Nat->AV):∀(l:lD) (k:Nat),look (ac5 o es g l) k=(look l k).map (amx o es g):=by
 intro l;induction l with
 | nil=>intro k; rfl
 | cons p l ih=>
  intro k;obtain ⟨j,x⟩:=p;simp only [ac5,look];cases Nat.beq j k with
  | true=>rfl
  | false=>exact ih k
theorem ah1 (o es:Nat) (g:Nat->AV) (l:lD) (k:Nat):hget (ac5 o es g l) k=amx o es g (hget l k):=by
 unfold hget;rw [ah0];cases look l k with
 | none=>rfl
 | some x=>cases x with
  | none=>rfl
  | some y=>cases y<;>rfl
theorem ah2 {m:Nat} {s:St} {a:Act} {w:World} {I:Nat->Prop} {O:OM} (hS:jK cfg N m cx s a w I O) (o:Nat):∃I' O',jK cfg N m cx (arv o s) a w I' O':=by
 unfold arv;split
 ·rename_i es n0 g ho;obtain ⟨hm,hR,hT,hMk⟩:=hS;refine ⟨λ b=>I b∨Gl O [o] b,kill O [o],hm,?_,⟨rfl,hT.size,λ t ht=>?_,hT.gone⟩,hMk⟩
  ·have hF:=hR.freeze [o];have e:∀o',hget ((o,none)::ac5 o es g s.heap) o'=if o'=o then none else amx o es g (hget s.heap o'):=by
    intro o';rw [<- ah1];unfold hget;simp only [look];cases hb:Nat.beq o o' with
    | true=>have:=adU hb; subst this; simp
    | false=>
     have:o'≠o:=λ e=>by subst e; simp at hb
     simp [this]
   have e2:∀o',nH (hget s.heap) (dead [o]) o'=if o'=o then none else hget s.heap o':=by
    intro o';rw [Ra];by_cases h:o'=o<;>simp [h]
   refine { hF with
    dom:=λ o'=>?_
    objs:=λ o' ob p rY hp=>?_ }
   ·rw [hF.dom o',e,e2];by_cases h:o'=o
    ·simp [h]
    rw [if_neg h,if_neg h];cases hget s.heap o' with
    | none=>exact ayK
    | some y=>cases y<;>simp [amx]
   rw [e] at rY;by_cases h:o'=o
   ·rw [if_pos h] at rY; cases rY
   rw [if_neg h] at rY;have hk:kill O [o] o'=O o':=by unfold kill; simp [h]
   rw [hk] at hp;cases hy:hget s.heap o' with
   | none=>rw [hy] at rY; cases rY
   | some y=>
    rw [hy] at rY;have h2:=hF.objs o' y p (by rw [e2,if_neg h]; exact hy) (by rw [hk]; exact hp);cases y with
    | row es' n' g'=>cases rY; exact h2
    | map kd z f=>cases rY; exact h2
    | box cs=>
     cases rY;obtain ⟨h3,b,bo,sz,h4,h5,h6,h7⟩:=hR.objs o' (.box cs) p hy hp;refine ⟨h3,b,bo,sz,h4,h5,by rw [Vl]; exact h6,λ j hj=>?_⟩;rw [Vl] at hj;rw [aga];exact aaR hR ho (h7 j hj)
  show fB w _ _ _ (iK (amw o es g s.tmps) t) _;rw [akv];exact apl hR ho (hT.rep t ht)
 exact ⟨I,O,hS⟩
theorem YG {m:Nat}:∀(l:azt) {s:St} {a:Act} {w:World} {I:Nat->Prop} {O:OM},jK cfg N m cx s a w I O->∃I' O',jK cfg N m cx (ac6 l s) a w I' O':=by
 intro l;induction l with
 | nil=>intro s a w I O h; exact ⟨I,O,h⟩
 | cons o l ih=>
  intro s a w I O h;obtain ⟨I',O',h'⟩:=ah2 h o;exact ih h'
def RH (m:Nat) (ρ:List (Nat×Option Nat)) (os:azt) (s s':St):Prop:=Emb m ρ (ac6 os s) s'
theorem AL {m:Nat} {ρ:List (Nat×Option Nat)} {os:azt} {s s':St} {a:Act} {w:World} {I:Nat->Prop} {O:OM} (hS:jK cfg N m cx s a w I O) (h:RH m ρ os s s'):∃I' O',jK cfg N m cx s' a w I' O':=by
 obtain ⟨I',O',h'⟩:=YG os hS;exact ⟨I',_,Jw h' h⟩
end
end Go.Ab
namespace Go.Ab
section
variable {P:Program} {cfg:yx} {N:Nat} {cx:Ctx}
theorem aci (hc:iL P cfg) {f:FuncId} {fn:Func} {c:Code} {args:azx} {obs:azE} {r:AV} {fQ:azE} {K:Exit->St->Prop} (hf:P.funcs[f]? = some fn) (hb:fn.body=some c) (hnm:(fn.name == "runtime.NumGoroutine")=false)
  (hN:args.length<=fn.ntmps) (hle:obs.length<=fQ.length)
  (h:Good P cfg fn.ntmps none obs.length c ⟨L8 args 0,KT.qc obs 0,obs.length⟩ K)
  (hend:∀e s,K e s->(e=.normal∨e=.ret)∧∀(cx:Ctx) (a':Act) (w':World) (I':Nat->Prop) (O':OM),cx.m=obs.length->jK cfg fn.ntmps obs.length cx s a' w' I' O'->∃v,(results fn a'.tmps).run P w'=.ok v w'∧∃I'' O'',Rel cfg cx (Iw fQ) (λ o=>o<fQ.length) w' I'' O''∧
    fB w' I'' O'' (λ o=>o<fQ.length) r v):Spec P cfg f args obs r fQ:=by
 refine ⟨⟨fn,hf,by rw [hb]; rfl,hnm⟩,hle,λ w I O vals hR hvs hrep=>?_⟩;refine (callsIn_wide (n:=0)).1 (callsIn_of_wp_marks hf hb trivial ?_);have hS:jK cfg fn.ntmps obs.length (NI w I O obs.length) ⟨L8 args 0,KT.qc obs 0,obs.length⟩ { tmps:=vals++Array.replicate (fn.ntmps - vals.size) undef,defers:=[] } w I O:=by
  refine ⟨rfl,?_,⟨rfl,by simp; omega,λ t _=>?_,λ t h=>by cases h⟩,⟨[],atl,λ _=>rfl,rfl,λ _ h=>by cases h⟩⟩
  ·rw [KZ]; exact hR
  rw [aaQ];simp only [alh,if_true,ayP];by_cases ht:t<args.length
  ·have e:(vals++Array.replicate (fn.ntmps - vals.size) undef).getD t Go.undef=vals.getD t Go.undef:=by
    have:t<vals.size:=by omega
    simp [as6 this]
   rw [e];exact hrep t ht
  have e:nth args t=.undef:=by
   rw [wN];simp [au7 (Nat.le_of_not_lt ht)]
  rw [e];exact .pure (.undef _)
 refine wpIn_mono (h 0 _ _ w I O hS rfl) ?_;intro e a0 w0 ⟨s,I0,O0,hK,hS0⟩;obtain ⟨hex,hend⟩:=hend e s hK;have hret:∀(a':Act) (w':World) (I':Nat->Prop) (O':OM),jK cfg fn.ntmps obs.length (NI w I O obs.length) s a' w' I' O'->∃v,(results fn a'.tmps).run P w'=.ok v w'∧∃x I'' O'',Ending.returned v=.returned x∧Rel cfg (NI w I O obs.length) (Iw fQ) (λ o=>o<fQ.length) w' I'' O''∧
   fB w' I'' O'' (λ o=>o<fQ.length) r x:=λ a' w' I' O' hS'=>by
  obtain ⟨v,h1,I'',O'',h2,h3⟩:=hend _ a' w' I' O' rfl hS'
  exact ⟨v,h1,v,I'',O'',rfl,h2,h3⟩
 obtain ⟨ms,hnd,_,hds,hms⟩:=hS0.marks;have hS1:=jK.turn (a:=a0) (w:=w0) (a':=⟨a0.tmps,[]⟩) ⟨λ _ _ h=>h,λ _ _=>rfl,afg _,λ _ _ _ h=>h⟩ (λ _ _=>rfl) hS0.rel.env rfl ⟨[],atl,λ _=>rfl,rfl,λ _ h=>by cases h⟩ hS0;cases e with
 | normal=>
  show LeavesInM _ _ _ _ _ _ a0.defers _ _;rw [hds];exact D7 (cx:=NI w I O obs.length) (λ _ _ h=>h) (λ a w' I' O' hS'=>hret a w' I' O' hS') ms a0.tmps w0 I0 O0 hnd hms hS1
 | ret=>
  show LeavesInM _ _ _ _ _ _ a0.defers _ _;rw [hds];exact D7 (cx:=NI w I O obs.length) (λ _ _ h=>h) (λ a w' I' O' hS'=>hret a w' I' O' hS') ms a0.tmps w0 I0 O0 hnd hms hS1
 | exit id=>rcases hex with h | h<;>cases h
 | goto l=>rcases hex with h | h<;>cases h
 | panic ch=>rcases hex with h | h<;>cases h
 | outgrown=>rcases hex with h | h<;>cases h
def amy (cfg:yx) (rs:List ResultVar) (m:Nat) (r:AV) (fQ:azE) (e:Exit) (s:St):Prop:=
 match (match e with | .normal=>true | .ret=>true | _=>false) with
 | true=>∃fz ρ,match ac6 fz s with
  | s'=>match L6 cfg s' rs with
   | some vs=>Emb m ρ s' ⟨[],aay fQ 0,fQ.length⟩∧nC ρ (aay fQ 0) fuel (oneOf vs) r
   | none=>False
 | false=>False
theorem akw:∀(obs:azE) (i o:Nat),hget (aay obs i) o=if i<=o then Iw obs (o - i) else none:=by
 intro obs;induction obs with
 | nil=>intro i o; simp [aay,hget,look,Iw]
 | cons x l ih=>
  intro i o;unfold aay hget;simp only [look];cases hb:Nat.beq i o with
  | true=>
   have:=adU hb;subst this;simp only [afg,if_true,auQ,Iw];cases gz x<;>rfl
  | false=>
   have hne:i≠o:=λ e=>by subst e; simp at hb
   have:=ih (i+1) o;unfold hget at this;simp only;rw [this];by_cases h:i<=o
   ·rw [if_pos h,if_pos om];obtain ⟨k,hk⟩:∃k,o - i=k+1:=⟨o - i - 1,by omega⟩;rw [hk,show o - (i+1)=k by omega];rfl
   rw [if_neg h,if_neg om]
theorem ah3 (obs:azE):hget (aay obs 0)=Iw obs:=by
 funext o;rw [akw];simp
variable {fQ:azE}
theorem amA (hc:iL P cfg) {fn:Func} {m:Nat} {r:AV} {e:Exit} {s:St} (hm:m<=fQ.length) (h:amy cfg fn.results.toList m r fQ e s):(e=.normal∨e=.ret)∧∀(cx:Ctx) (a':Act) (w':World) (I':Nat->Prop) (O':OM),cx.m=m->jK cfg fn.ntmps m cx s a' w' I' O'->
  ∃v,(results fn a'.tmps).run P w'=.ok v w'∧∃I'' O'',Rel cfg cx (Iw fQ) (λ o=>o<fQ.length) w' I'' O''∧fB w' I'' O'' (λ o=>o<fQ.length) r v:=by
 unfold amy at h;have he:(e=.normal∨e=.ret):=by
  cases e with
  | normal=>exact .inl rfl
  | ret=>exact .inr rfl
  | _=>exact h.elim
 refine ⟨he,λ cx a' w' I' O' hcm hS=>?_⟩;have h:∃fz ρ,match ac6 fz s with
  | s'=>match L6 cfg s' fn.results.toList with
   | some vs=>Emb m ρ s' ⟨[],aay fQ 0,fQ.length⟩∧nC ρ (aay fQ 0) fuel (oneOf vs) r
   | none=>False:=by
  rcases he with rfl | rfl<;>exact h
 obtain ⟨fz,ρ,h⟩:=h;obtain ⟨I1,O1,hS1⟩:=YG fz hS;generalize ac6 fz s=s' at h hS1;simp only at h;cases hv:L6 cfg s' fn.results.toList with
 | none=>rw [hv] at h; exact h.elim
 | some vs=>
  rw [hv] at h;obtain ⟨hE,hV⟩:=h;obtain ⟨x,hrun,hx⟩:=YF hc hS1 hv;have hS2:=Jw hS1 hE;refine ⟨x,hrun,I1,oP ρ (aay fQ 0) O1,?_,?_⟩
  ·have:=hS2.rel;rw [show hget (aay fQ 0)=Iw fQ from ah3 fQ] at this;exact this
  exact Vk hS1.rel.dom (ajf hE.heap).x fuel _ _ x hx hV
theorem wO (hc:iL P cfg) {f:FuncId} {fn:Func} {c:Code} {ct:azt} {args:azx} {obs:azE} {r:AV} {fQ:azE} (hf:P.funcs[f]? = some fn) (hb:fn.body=some c) (hnm:(fn.name == "runtime.NumGoroutine")=false)
  (hN:args.length<=fn.ntmps) (hok:jk fn.ntmps c=true) (hle:obs.length<=fQ.length)
  (h:lF cfg (Spec P cfg) ct (Loops P cfg fn.ntmps none obs.length) c ⟨L8 args 0,KT.qc obs 0,obs.length⟩ (amy cfg fn.results.toList obs.length r fQ)):Spec P cfg f args obs r fQ:=
 aci hc hf hb hnm hN hle (jA hc c _ _ hok h) (λ _ _ hk=>amA hc hle hk)
end
end Go.Ab
namespace Go.Ab
section
variable {P:Program} {cfg:yx}
def arw:ZK->Value->Bool
 | .bool,.bool false=>true
 | .int k,.int k' n=>decide (k=k')&&decide (n=0)
 | .str,.string s=>s.data.isEmpty
 | .slice,.slice none 0 0=>true
 | .ptr,.pointer none=>true
 | .other,x=>x.oneCell'
 | _,_=>false
def ajg:azF->List Value->Bool
 | [],[]=>true
 | z::l,v::m=>arw z v&&ajg l m
 | _,_=>false
def arx:TD->TypeDesc->Bool
 | .bool,.bool=>true
 | .int k,.int k'=>decide (k=k')
 | .str,.string=>true
 | .slice e,.slice e'=>Nat.beq e e'
 | .pointer e,.pointer e'=>Nat.beq e e'
 | .map k e,.map k' e'=>Nat.beq k k'&&Nat.beq e e'
 | .array n e,.array n' e'=>Nat.beq n n'&&Nat.beq e e'
 | .struct fs,.struct fields=>decide (fields.toList.map (λ f=>(f.offset,f.type))=fs)
 | .other,_=>true
 | _,_=>false
def fieldsB (P:Program):TypeDesc->Bool
 | .struct fields=>fields.toList.all λ f=>(P.info? f.type).isSome
 | _=>true
def ajh (P:Program) (t:TypeId) (ti:TS):Bool:=
 match P.info? t,P.underlying t with
 | some i,some d=>match i.zero with
  | some z=>Nat.beq i.size ti.size&&Nat.beq i.bytes ti.bytes&&decide (d.isRow=ti.agg)&&Nat.beq z.cells.size ti.size&&ajg ti.zero z.cells.toList&&arx ti.desc d&&fieldsB P d&&(ti.agg||z.oneCell')
  | none=>false
 | _,_=>false
def aeb (P:Program):List (Nat×TS)->Bool
 | []=>true
 | (t,ti)::l=>ajh P t ti&&aeb P l
theorem akx {z:ZK} {v:Value} (h:arw z v=true):Om z v:=by
 unfold arw at h;split at h
 ·rfl
 ·simp only [aei,decide_eq_true_eq] at h; obtain ⟨rfl,rfl⟩:=h; rfl
 ·rename_i s;show Value.string s=.string ByteArray.empty;have:s.data=#[]:=by simpa using h
  cases s;simp only at this;rw [this];rfl
 ·rfl
 ·rfl
 ·exact h
 cases h
theorem ah4:∀(zs:azF) (vs:List Value),ajg zs vs=true->zs.length=vs.length∧∀j,j<zs.length->Om (zs.getD j .other) (vs.getD j Go.undef):=by
 intro zs;induction zs with
 | nil=>intro vs h; cases vs with
  | nil=>exact ⟨rfl,λ j hj=>by cases hj⟩
  | cons=>cases h
 | cons z zs ih=>intro vs h; cases vs with
  | nil=>cases h
  | cons v vs=>
   simp only [ajg,aei] at h
   obtain ⟨h1,h2⟩:=ih vs h.2
   refine ⟨by simp [h1],λ j hj=>?_⟩
   cases j with
   | zero=>exact akx h.1
   | succ j=>simpa using h2 j (by simpa using hj)
theorem aky {t:TD} {d:TypeDesc} (h:arx t d=true):alO t d:=by
 unfold arx at h;split at h
 ·rfl
 ·have:=of_decide_eq_true h; subst this; rfl
 ·rfl
 ·have:=adU h; subst this; rfl
 ·have:=adU h; subst this; rfl
 ·simp only [aei] at h; have h1:=adU h.1; have h2:=adU h.2; subst h1; subst h2; rfl
 ·simp only [aei] at h; have h1:=adU h.1; have h2:=adU h.2; subst h1; subst h2; rfl
 ·exact ⟨_,rfl,of_decide_eq_true h⟩
 ·trivial
 cases h
theorem akz {z:Value} (h:z.oneCell'=true):z.cells=#[z]:=by cases z<;>first | rfl | cases h
variable {t:TypeId}
theorem aaT {ti:TS} (h:ajh P t ti=true):ati P t ti∧∀d,P.underlying t=some d->Yu P d:=by
 unfold ajh at h;split at h
 ·rename_i i d hi hd;split at h
  ·rename_i z hz;simp only [aei,decide_eq_true_eq] at h;obtain ⟨⟨⟨⟨⟨⟨⟨h1,h2⟩,h3⟩,h4⟩,h5⟩,h6⟩,h7⟩,h10⟩:=h;have e1:=adU h1;have e2:=adU h2;have e4:=adU h4;obtain ⟨h8,h9⟩:=ah4 _ _ h5;have hlen:ti.zero.length=ti.size:=by rw [h8,<- e4]; simp
   refine ⟨⟨⟨i,d,z,hi,hd,hz,e1,e2,h3,e4,hlen,λ j hj=>?_,aky h6⟩,λ ha i' z' hi' hz'=>?_⟩,λ d' hd'=>?_⟩
   ·have:=h9 j om;simpa using this
   ·rw [hi] at hi';cases hi';rw [hz] at hz';cases hz';rw [ha] at h10;exact akz h10
   rw [hd] at hd';cases hd';cases d with
   | struct fields=>
    simp only [fieldsB,aoI] at h7;exact h7
   | _=>trivial
  cases h
 cases h
theorem YH:∀(l:List (Nat×TS)),aeb P l=true->∀t ti,look l t=some ti->ajh P t ti=true:=by
 intro l;induction l with
 | nil=>intro _ t ti h; cases h
 | cons q l ih=>
  intro h t ti hl;obtain ⟨k,tk⟩:=q;simp only [aeb,aei] at h;simp only [look] at hl;cases hb:Nat.beq k t with
  | true=>
   simp only [hb] at hl;cases hl;rw [<- adU hb];exact h.1
  | false=>simp only [hb] at hl; exact ih h.2 t ti hl
def amB (P:Program) (t:TypeId):Option ZK:=match P.underlying t with
 | some .bool=>some .bool
 | some (.int k)=>some (.int k)
 | some .string=>some .str
 | _=>none
def aaU (P:Program) (fl:TypeId->Option azF):List Field->Nat->Option azF
 | [],_=>some []
 | f::fs,k=>match decide (f.name ≠ "_")&&Nat.beq f.offset k with
  | true=>match amB P f.type with
   | some z=>match aaU P fl fs (k+1) with
    | some l=>some (z::l)
    | none=>none
   | none=>match fl f.type with
    | some z1=>match Nat.beq (P.cellsOf f.type) z1.length,aaU P fl fs (k+z1.length) with
     | true,some l=>some (z1++l)
     | _,_=>none
    | none=>none
  | false=>none
def aji (P:Program):Nat->TypeId->Option azF
 | 0,_=>none
 | n+1,t=>match P.underlying t,P.stoodInHeld t with
  | some (.struct fields),false=>aaU P (aji P n) fields.toList 0
  | _,_=>none
def ajj (P:Program) (t:TypeId) (zs:azF):Bool:=decide (aji P 4 t=some zs)&&!P.eqGuardType P.depth t
def aec (P:Program):List (Nat×azF)->Bool
 | []=>true
 | (t,zs)::l=>ajj P t zs&&aec P l
theorem ah5 {z:ZK} (h:amB P t=some z):∃d,P.underlying t=some d∧adP z d:=by
 unfold amB at h;split at h
 ·rename_i e; cases h; exact ⟨_,e,rfl⟩
 ·rename_i e; cases h; exact ⟨_,e,rfl⟩
 ·rename_i e; cases h; exact ⟨_,e,rfl⟩
 cases h
theorem agc {fl:TypeId->Option azF} {ok:TypeId->azF->Prop} (hfl:∀t zs,fl t=some zs->ok t zs):∀(fs:List Field) (zs:azF) (k:Nat),aaU P fl fs k=some zs->aoS P ok fs zs k:=by
 intro fs;induction fs with
 | nil=>intro zs k h; cases h; trivial
 | cons f fs ih=>
  intro zs k h;unfold aaU at h;split at h
  ·rename_i hb;simp only [aei,decide_eq_true_eq] at hb;refine ⟨hb.1,adU hb.2,?_⟩;split at h
   ·rename_i z hz;split at h
    ·rename_i l hl;cases h;obtain ⟨d,h1,h2⟩:=ah5 hz;exact ⟨[z],l,rfl,.inl ⟨z,d,rfl,h1,h2⟩,ih _ _ hl⟩
    cases h
   split at h
   ·rename_i z1 hz1;split at h
    ·rename_i l hs hl;cases h;exact ⟨z1,l,rfl,.inr ⟨hfl _ _ hz1,adU hs⟩,ih _ _ hl⟩
    cases h
   cases h
  cases h
theorem ah6:∀(n:Nat) (t:TypeId) (zs:azF),aji P n t=some zs->EqT P n t zs:=by
 intro n;induction n with
 | zero=>intro t zs h; cases h
 | succ n ih=>
  intro t zs h;unfold aji at h;split at h
  ·rename_i fields hu hh;exact ⟨fields,hu,hh,agc ih _ _ _ h⟩
  cases h
theorem ah7 {zs:azF} (h:ajj P t zs=true):atj P t zs:=by
 unfold ajj at h;simp only [aei,ahk,decide_eq_true_eq] at h;exact ⟨ah6 _ _ _ h.1,h.2⟩
theorem agd:∀(l:List (Nat×azF)),aec P l=true->∀t zs,look l t=some zs->ajj P t zs=true:=by
 intro l;induction l with
 | nil=>intro _ t ti h; cases h
 | cons q l ih=>
  intro h t ti hl;obtain ⟨k,tk⟩:=q;simp only [aec,aei] at h;simp only [look] at hl;cases hb:Nat.beq k t with
  | true=>
   simp only [hb] at hl;cases hl;rw [<- adU hb];exact h.1
  | false=>simp only [hb] at hl; exact ih h.2 t ti hl
theorem amC (h:aeb P cfg.ty=true) (hm:P.follows .mixedOrders=true) (he:aec P cfg.eqs=true):iL P cfg where
 ty:=λ t ti hl=>(aaT (YH _ h t ti hl)).1
 fields:=λ t ti d hl=>(aaT (YH _ h t ti hl)).2 d
 mixed:=hm
 eqs:=λ t zs hl=>ah7 (agd _ he t zs hl)
theorem fG {c:Bool} {A B:Prop} (h1:c=true->A) (h2:c=false->B):aas c A B:=by
 cases c
 ·exact h2 rfl
 exact h1 rfl
end
end Go.Ab
namespace Go.Ab
theorem WX.ajk {l m:azx} (h1:l.length=m.length) (h2:∀j,j<l.length->Le (nth l j) (nth m j)):WX l m:=by
 induction l generalizing m with
 | nil=>cases m with
  | nil=>trivial
  | cons=>simp at h1
 | cons u l ih=>cases m with
  | nil=>simp at h1
  | cons v m=>exact ⟨h2 0 (by simp),ih (by simpa using h1) λ j hj=>h2 (j+1) (by simpa using hj)⟩
variable {ρ:List (Nat×Option Nat)}
theorem ajl {H':lD} {f:Nat} {u v:AV} (h:Le u v) (hp:qN v=true):nC ρ H' (f+1) u v:=by
 cases h with
 | refl=>
  cases u<;>simp only [qN] at hp<;>first
   | (cases hp; done)
   | (unfold nC; exact trivial)
   | (unfold nC; exact rfl)
   | (unfold nC; exact ⟨rfl,rfl⟩)
   | (unfold nC; exact ⟨rfl,λ _=>rfl,λ h=>h,λ i _=>.refl _⟩)
   | (unfold nC; exact WX.refl _)
   | (unfold nC; exact ⟨rfl,rfl,rfl⟩)
 | sl hn he hf h=>unfold nC; exact ⟨hn,he,hf,h⟩
 | ro hl h=>unfold nC; exact WX.ajk hl h
 | agg=>cases hp
 | jX=>cases hp
 | fn=>cases hp
theorem apm {H':lD}:∀(l m:azx) (f:Nat),l.length+1<f->WX l m->AA m=true->nC.U6 ρ H' f l m:=by
 intro l;induction l with
 | nil=>
  intro m f hf h _;cases m with
  | nil=>cases f with
   | zero=>omega
   | succ f=>unfold nC.U6; trivial
  | cons=>exact h.elim
 | cons u l ih=>
  intro m f hf h hp;cases m with
  | nil=>exact h.elim
  | cons v m=>
   cases f with
   | zero=>omega
   | succ f=>
    cases f with
    | zero=>simp at hf
    | succ f=>
     unfold AA at hp;split at hp
     ·rename_i hv;unfold nC.U6;exact ⟨ajl h.1 hv,ih m (f+1) (by simp at hf; omega) h.2 hp⟩
     cases hp
abbrev iV (n:Int):AV:=.int .i64 n
def bF {α:Type} (f:α->AV) (d:α) (l:List α):Nat->AV:=λ i=>f (l.getD i d)
def amD (l:azp):AV:=.sl 1 l.length false (bF iV 0 l)
def I64 (l:azp):Prop:=∀x∈l,ay x
theorem I64.get {l:azp} (h:I64 l) (i:Nat):ay (l.getD i 0):=by
 rw [adF];cases hi:l[i]? with
 | none=>exact ⟨by decide,by decide⟩
 | some x=>exact h x (List.mem_of_getElem? hi)
structure Tp where
 l:azp
 pos:Nat
def Tp.ok (t:Tp):Prop:=I64 t.l∧t.l.length<=500∧t.pos<=t.l.length
def Tp.raw (t:Tp):Int×Tp:=if t.l.length<=t.pos then (0,t) else (t.l.getD t.pos 0,⟨t.l,t.pos+1⟩)
def avF (x n:Int):Int:=if n<1 then 0 else x % n
def Tp.n (t:Tp) (n:Int):Int×Tp:=(avF t.raw.1 n,t.raw.2)
def Tp.range (t:Tp) (lo hi:Int):Int×Tp:=(lo+(t.n (hi - lo+1)).1,(t.n (hi - lo+1)).2)
def Tp.pick (t:Tp) (l:azp):Int×Tp:=(l.getD (t.n l.length).1.toNat 0,(t.n l.length).2)
variable {α:Type} {i:Nat}
theorem drop_cons {l:List α} (d:α) (h:i<l.length):l.drop i=l.getD i d::l.drop (i+1):=by
 rw [adF,adH h];exact auK h
theorem getD_take (l:List α) (d:α) {k:Nat} (h:i<k):(l.take k).getD i d=l.getD i d:=by
 rw [adF,adF,List.getElem?_take_of_lt h]
theorem getD_drop (l:List α) (d:α) (k i:Nat):(l.drop k).getD i d=l.getD (k+i) d:=by
 rw [adF,adF,aw4]
theorem iM {l:List α} (d:α) (h:i<l.length):l.take (i+1)=l.take i++[l.getD i d]:=by
 rw [adF,adH h];exact List.take_succ_eq_append_getElem h
theorem wP {β:Type} (f:β->α->β) (a:β) {l:List α} (d:α) (h:i<l.length):(l.take (i+1)).foldl f a=f ((l.take i).foldl f a) (l.getD i d):=by
 rw [iM d h,ayo];rfl
theorem jq {l:List α} (d:α) (h:i<l.length):l.getD i d∈l:=by
 rw [adF,adH h];exact anK _
theorem take_len {l:List α} (h:i<=l.length):(l.take i).length=i:=by
 rw [ahj,auW h]
theorem ko {l m:List α} (d:α) (h:i<l.length):(l++m).getD i d=l.getD i d:=by
 rw [adF,adF,arG h]
theorem kX {l:List α} {x:α} {m:List α} (d:α) (h:i=l.length):(l++x::m).getD i d=x:=by
 rw [adF,arF om,h];simp
theorem OB {l:List α} (d:α) (h:l.length<=i):l.getD i d=d:=by
 rw [adF,au7 h];rfl
section
variable {P:Program} {cfg:yx} {N:Nat} {cx:Ctx}
theorem agf {r:Option Nat} {n n':Nat} {c:Code} {Q:Exit->Act->World->Prop} {a:Act} {w:World} (h:c.wpIn (FW r) n P Q a w):c.wpIn (FW r) n' P Q a w:=
 λ b k cs hro hb _=>h b k cs hro hb (λ _ hd=>by cases hd)
def Ri (W:World) (I:Nat->Prop) (O:OM) (m:Nat):Ctx:=⟨W,λ b=>∃o p bo sz,O o=some p∧p.pl=some (b,bo,sz),I,O,m,λ k o=>W.heap[k]? = some o∧Q9 o=true,true⟩
variable {H:Nat->Option eP} {D:Nat->Prop} {W:World} {I:Nat->Prop} {m:Nat}
theorem Rel.enter {O:OM} (hR:Rel cfg cx H D W I O) (hno:∀o kd z f,H o≠some (.map kd z f)) (hm:∀o,o<m->D o):Rel cfg (Ri W I O m) H D W I O where
 dom:=hR.dom
 used:=hR.used
 objs:=hR.objs
 inj:=hR.inj
 qO:=hR.qO
 lt:=hR.lt
 CV:=hR.CV
 size:=afg _
 frame:=λ _ _ _=>rfl
 new:=λ o p _ bo sz h1 h2=>.inr ⟨o,p,bo,sz,h1,h2⟩
 glob:=hR.glob
 UY:=λ _ h=>h
 W9:=λ _ h=>.inl h
 ZY:=λ _ _=>.inl rfl
 Dm:=hm
 env:=⟨iQ.refl _,λ _ _ h=>h⟩
variable {H':Nat->Option eP} {D':Nat->Prop} {W':World} {I':Nat->Prop}
theorem Rel.back {O O':OM} (h0:Rel cfg cx H D W I O) (h1:Rel cfg (Ri W I O m) H' D' W' I' O') (hm:∀o,o<cx.m->o<m):Rel cfg cx H' D' W' I' O' where
 dom:=h1.dom
 used:=h1.used
 objs:=h1.objs
 inj:=h1.inj
 qO:=h1.qO
 lt:=h1.lt
 CV:=h1.CV
 size:=afQ h0.size h1.size
 frame:=λ b hb hM=>by
  rw [h1.frame b (ao6 hb h0.size) (λ ⟨o,p,bo,sz,q1,q2⟩=>by
   rcases h0.new o p b bo sz q1 q2 with h | h
   ·omega
   exact hM h)]
  exact h0.frame b hb hM
 new:=λ o p b bo sz q1 q2=>by
  rcases h1.new o p b bo sz q1 q2 with h | ⟨o',p',pO,sz',q3,q4⟩
  ·exact .inl (afQ h0.size h)
  exact h0.new o' p' b pO sz' q3 q4
 glob:=h1.glob
 UY:=λ b h=>h1.UY b (h0.UY b h)
 W9:=λ b h=>by
  rcases h1.W9 b h with h | h | ⟨o',p',pO,sz',q3,q4⟩
  ·exact h0.W9 b h
  ·exact .inr (.inl (afQ h0.size h))
  exact .inr (h0.new o' p' b pO sz' q3 q4)
 ZY:=λ o ho=>by
  rcases h1.ZY o (hm o ho) with h | h
  ·rw [h]; exact h0.ZY o ho
  exact .inr h
 Dm:=λ o ho=>h1.Dm o (hm o ho)
 env:=h0.env.step h1.env.same
theorem Rel.ah8 {O O':OM} (h0:Rel cfg cx H D W I O) (h1:Rel cfg (Ri W I O m) H' D' W' I' O') (b:Nat) (hb:I b):W'.heap[b]? = W.heap[b]? :=
 h1.frame b (h0.CV b hb) (λ ⟨o,p,bo,sz,q1,q2⟩=>h0.qO o p b bo sz q1 q2 hb)
theorem fB.behind {O O':OM} (h0:Rel cfg cx H (λ o=>o<m) W I O) (h1:Rel cfg (Ri W I O m) H' D' W' I' O') {v:AV} {x:Value} (h:fB W I O (λ o=>o<m) v x):fB W' I' O' D' v x:=
 h.mono h1.UY (h0.ah8 h1) h1.ZY h1.Dm h0.used
theorem Me (w:World) (o:Obj):uE (w.alloc o) w:=by
 have hlt:∀a:Addr,(w.cell? a).isSome=true->a.block<w.heap.size:=λ a h=>by
  obtain ⟨v,hv⟩:=ano.1 h;exact World.block_lt_of_cell? _ _ hv
 have hb:∀a:Addr,a.block<w.heap.size->(w.alloc o).heap[a.block]? = w.heap[a.block]? := λ a h=>by
  show (w.heap.push o)[a.block]? = _;rw [au0 h,ali h]
 refine ⟨λ a v hv=>?_,λ a hv=>?_,by simp,λ b es c hbb=>by
  have hlt2:b<w.heap.size:=by
   rcases aoG b w.heap.size with h1 | h1
   ·exact h1
   rw [aoF h1] at hbb; cases hbb
  show (w.heap.push o)[b]? = _;rw [au0 hlt2,<- hbb,ali hlt2]⟩
 ·rw [<- hv,World.cell?_of_block (hb a (hlt a (by rw [hv]; rfl)))]
 exact World.frozen?_of_block (hb a (hlt a hv))
def Ub:lD->Bool
 | []=>true
 | (_,x)::l=>match x with
  | some (.map ..)=>false
  | _=>Ub l
theorem YI:∀ {H:lD},Ub H=true->∀o kd z f,hget H o≠some (.map kd z f):=by
 intro H;induction H with
 | nil=>intro _ o kd z f h; cases h
 | cons u l ih=>
  intro h o kd z f;obtain ⟨q,x⟩:=u;unfold Ub at h;unfold hget look;split at h
  ·cases h
  rename_i hx;cases hb:Nat.beq q o with
  | true=>
   simp only;cases x with
   | none=>intro h; cases h
   | some x=>
    intro h;cases h;exact hx kd z f rfl
  | false=>simp only; exact ih h o kd z f
def aaV (P:Program) (gf:FuncId) (caps:azx) (len:Nat) (e0 e1:Nat->AV):Prop:=
 (∀args w,(callFunc gf args).run P w=.ok (.enter gf args) w)∧
 ∀(w:World) (I:Nat->Prop) (lb:Array Value),(∀b,I b->b<w.heap.size)->lb.size=caps.length->(∀j,j<caps.length->iP w I (nth caps j) (lb.getD j Go.undef))->
  ∃v0 v1:Nat->Value,(∀k,k<len->iP w I (e0 k) (v0 k)∧iP w I (e1 k) (v1 k))∧
   ∀(l n:Nat) (J:Nat->World->Prop) (Jx:World->Prop) (W:World),(∀b,I b->W.heap[b]? = w.heap[b]?)->
    (∀k W1,k<len->J k W1->YieldAt (FW none) n P l #[v0 k,v1 k] W1 λ e W'=>(e=.returned (.bool true)∧J (k+1) W'∧∀b,I b->W'.heap[b]? = W1.heap[b]?)∨(e=.returned (.bool false)∧Jx W'))->
    J 0 W->CallsIn (FW none) n P gf (#[.func (.yield l) #[] #[]]++lb) W λ e W'=>(∃v,e=.returned v)∧(J len W'∨Jx W')
theorem avG {β:Type} (p0 p1:α) (v0 v1:β):(#[p0,p1]:Array α).zip #[v0,v1]=#[(p0,v0),(p1,v1)]:=by
 apply auP.1;simp
theorem EK (t:Nat):jo (λ _=>true) (some t) true=λ _=>true:=by
 funext k;unfold jo;simp
theorem akA (hc:iL P cfg) {m:Nat} {ct ct':azt} {g:Operand} {p0 p1:Nat} {assign body:Code} {s:St} {K:Exit->St->Prop} (ah9:jk N assign=true) (arA:jk N body=true) (hp0:p0<N) (hp1:p1<N)
  {gf:FuncId} {caps:azx} {len:Nat} {e0 e1:Nat->AV} (hit:aaV P gf caps len e0 e1) (hg:ZV cfg (iK s.tmps) g=.fn gf caps) (amE:∀v∈caps,∃cs,v=.ro cs)
  {α:Type} (st:α->St) (st1:Nat->α->St) (hnm:∀k gx,Ub (st gx).heap=true∧Ub (st1 k gx).heap=true) (x0:α) (ρ0:List (Nat×Option Nat)) (h0:Emb m ρ0 s (st x0)) (inv:Nat->α->Prop) (hi0:inv 0 x0)
  (ha:∀k l gx,k<len->inv k gx->m<=(st gx).nx∧lF cfg (Spec P cfg) ct (Loops P cfg N (some l) (st gx).nx) assign ⟨(p1,e1 k)::(p0,e0 k)::(st gx).tmps,(st gx).heap,(st gx).nx⟩ (λ e s'=>match e with | .normal=>∃ρ,Emb (st gx).nx ρ s' (st1 k gx) | _=>False))
  (hb:∀k l gx,k<len->inv k gx->lF cfg (Spec P cfg) ct' (Loops P cfg N (some l) (st1 k gx).nx) body (st1 k gx) (λ e s'=>match e with | .normal=>∃x' ρ,inv (k+1) x'∧Emb m ρ ⟨(st gx).tmps,s'.heap,s'.nx⟩ (st x') | .ret=>K .ret ⟨(st gx).tmps,s'.heap,s'.nx⟩ | _=>False))
  (hK:∀gx,inv len gx->K .normal (st gx)):Loops P cfg N none m (.rangeFunc g #[p0,p1] assign body) s K:=by
 refine ⟨λ n cx0 a w I O hS0 hrd=>agf (n:=3) ?_⟩;obtain ⟨ms,hnd,_,hds,hms⟩:=hS0.marks;obtain ⟨cx,hcx⟩:∃cx,cx=cx0.also ms:=⟨_,rfl⟩;have hcw:cx.w0=cx0.w0:=by rw [hcx]; rfl
 have hcm:cx.m=cx0.m:=by rw [hcx]; rfl
 have hR0:Rel cfg cx (hget s.heap) (λ o=>o<s.nx) w I O:=by rw [hcx]; exact hS0.rel.also (λ D hD=>(hms D hD).2)
 obtain ⟨lb,hgv,hlb,hlr⟩:=(hg ▸ xA hS0.rel hS0.tmps g (λ _ _=>rfl)).Oo;have hcp:∀j,j<caps.length->iP w I (nth caps j) (lb.getD j Go.undef):=λ j hj=>by
  have hmem:nth caps j∈caps:=by rw [wN]; rw [adF,adH hj]; exact anK _
  obtain ⟨cs,hcs⟩:=amE _ hmem;have:=hlr j hj;rw [hcs] at this ⊢;cases this with
  | pure h=>exact h
 obtain ⟨v0,v1,hel,hrun⟩:=hit.2 w I lb hR0.CV hlb hcp;refine wpIn_rangeFunc ?_;intro fn hfn;obtain ⟨rc,hrc⟩:∃rc:LoopState->Option Code->Loop,rc=λ st pe=>{ state:=st,pending:=pe,fn,tmps:=a.tmps,params:=#[p0,p1],assign,body,defers:=w.heap.size }:=⟨_,rfl⟩;obtain ⟨W1,hW1⟩:∃W1,W1=(w.alloc (.deferred (some []))).alloc (.loop (rc .ready none)):=⟨_,rfl⟩;have hsz1:W1.heap.size=w.heap.size+2:=by rw [hW1]; simp
 have hD1:W1.heap[w.heap.size]? = some (.deferred (some [])):=by
  rw [hW1];show ((w.heap.push _).push _)[w.heap.size]? = _;have hp:(w.heap.push (Obj.deferred (some []))).size=w.heap.size+1:=Array.size_push _;rw [Array.getElem?_push,if_neg om,Array.getElem?_push_size]
 have hL1:W1.heap[w.heap.size+1]? = some (.loop (rc .ready none)):=by
  have:=World.alloc_heap_new (w.alloc (.deferred (some []))) (.loop (rc .ready none));rw [World.size_alloc] at this;rw [hW1];exact this
 have amF:∀b,b<w.heap.size->W1.heap[b]? = w.heap[b]? := λ b hb=>by
  rw [hW1];show ((w.heap.push _).push _)[b]? = _;rw [au0 (by simp; omega),Array.getElem_push_lt hb,ali hb]
 have apn:uE W1 w:=by
  rw [hW1];have q1:=Me w (.deferred (some []));have q2:=Me (w.alloc (.deferred (some []))) (.loop (rc .ready none));exact ⟨λ x v h=>q2.cell x v (q1.cell x v h),λ x h=>by
   rw [q2.frozen x (by obtain ⟨v,hv⟩:=ano.1 h; rw [q1.cell x v hv]; rfl),q1.frozen x h],afQ q1.size q2.size,λ b es c h=>q2.maps b es c (q1.maps b es c h)⟩
 have atM:Jm cx W1:=by
  rw [hW1];exact (hR0.env.step (iQ.alloc _ _)).step (iQ.alloc _ _)
 have avH:∀k o,cx.K k o->k<w.heap.size:=λ k o h=>by
  have:=(hR0.env.kept k o h).1;rcases aoG k w.heap.size with h1 | h1
  ·exact h1
  rw [aoF h1] at this; cases this
 have hw0:cx.w0.heap.size<=w.heap.size:=hR0.size;have amG:∀(W:World) (k:Nat) (o:Obj),w.heap.size<=k->Jm cx W->Jm cx (W.putObj k o):=λ W k o hk he=>by
  refine ⟨⟨he.same.os,he.same.tape,he.same.output,λ i x hi hx=>?_⟩,λ i x hi=>?_⟩
  ·have hlt:i<cx.w0.heap.size:=by
    rcases aoG i cx.w0.heap.size with h1 | h1
    ·exact h1
    rw [aoF h1] at hi; cases hi
   rw [World.putObj_heap_other om];exact he.same.keep i x hi hx
  rw [World.putObj_heap_other (by have:=avH i x hi; omega)];exact he.kept i x hi
 have Z8:∀(W:World),Marks cx W ([]:List Deferred):=λ W=>⟨[],atl,λ _=>rfl,rfl,λ _ h=>by cases h⟩
 have hS1:jK cfg N m cx s ⟨a.tmps,[]⟩ w I O:=⟨hcm.trans hS0.m,hR0,⟨rfl,hS0.tmps.size,hS0.tmps.rep,hS0.tmps.gone⟩,Z8 w⟩;have hS2:=Jw hS1 h0;have aed:∀ {s':St} {W:World} {I':Nat->Prop} {O':OM} {o:Obj} (o':Obj),W.heap[w.heap.size+1]? = some o->Q9 o=true∧(∀es c,o≠.map es c)->jK cfg N m cx s' ⟨a.tmps,[]⟩ W I' O'->jK cfg N m cx s' ⟨a.tmps,[]⟩ (W.putObj (w.heap.size+1) o') I' O':=λ o' ho hn hS=>
  hS.turn (Iz ho hn.1 hn.2) (λ b hb=>World.putObj_heap_other om) (amG _ _ _ om hS.rel.env) rfl (Z8 _)
 refine ⟨w.heap.size+1,[aaP w.heap.size],W1,{ target:=.fn (.func gf) lb,args:=#[.func (.yield (w.heap.size+1)) #[] #[]] },W1,gf,#[.func (.yield (w.heap.size+1)) #[] #[]]++lb,W1,?_,?_,λ _ _=>trivial,?_,(λ h=>by cases h),?_⟩
 ·rw [hW1,hrc]; exact run_enterLoop_outer _ _ _ _ _
 ·simp only [resolve,hgv];simp [go_sem]
 ·simp [invoke,go_sem,hit.1]
 refine (hrun (w.heap.size+1) (3 - 1)
  (λ k W=>∃gx,inv k gx∧∃I1 O1,jK cfg N m cx (st gx) ⟨a.tmps,[]⟩ W I1 O1∧(∀b,I b->I1 b)∧(∀b,I b->W.heap[b]? = w.heap[b]?)∧W.heap[w.heap.size+1]? = some (.loop (rc .ready none))∧W.heap[w.heap.size]? = some (.deferred (some [])))
  (λ W=>∃s' I1 O1,K .ret s'∧jK cfg N m cx s' ⟨a.tmps,[]⟩ W I1 O1∧W.heap[w.heap.size+1]? = some (.loop (rc .done (some .ret)))∧W.heap[w.heap.size]? = some (.deferred (some [])))
  W1 (λ b hb=>amF b (hR0.CV b hb)) ?_ ?_).mono ?_
 ·rintro k W hk ⟨gx,hiv,I1,O1,hS,hII,hkeep,hl,hD⟩;have hlW:w.heap.size+1<W.heap.size:=(ap7.1 hl).1;have hy:=run_yield (P:=P) (args:=#[v0 k,v1 k]) hl (by rw [hrc]; rfl);rw [hrc] at hy;refine ⟨fn,_,assign,body,hy,roundIn_of_wpIn hfn ?_⟩;clear hy;obtain ⟨hnx,hxa⟩:=ha k (w.heap.size+1) gx hk hiv;have hmx:∀o,o<cx.m->o<(st gx).nx:=λ o ho=>ao6 (by rw [hS.m] at ho; exact ho) hnx;have hRr:=hS.rel.enter (YI (hnm k gx).1) (m:=(st gx).nx) (λ _ h=>h);have hwI:∀b,I b->W.heap[b]? = w.heap[b]? := hkeep;obtain ⟨he0,he1⟩:=hel k hk;have hpe:∀ {v:AV} {x:Value},iP w I v x->fB W I1 O1 (λ o=>o<(st gx).nx) v x:=λ h=>.pure (h.mono hII hwI);have hT1:=Ca.put hS.tmps (λ _ _ h=>h) (some p0) (λ _ h=>by cases h; exact hp0) (e0 k) (v0 k) true (λ _=>hpe he0) (λ h=>by cases h);have hT2:=Ca.put hT1 (λ _ _ h=>h) (some p1) (λ _ h=>by cases h; exact hp1) (e1 k) (v1 k) true (λ _=>hpe he1) (λ h=>by cases h);rw [EK,EK,<- oO,<- oO] at hT2;have hSa:jK cfg N (st gx).nx (Ri W I1 O1 (st gx).nx) ⟨(p1,e1 k)::(p0,e0 k)::(st gx).tmps,(st gx).heap,(st gx).nx⟩ { tmps:=(a.tmps.setIfInBounds p0 (v0 k)).setIfInBounds p1 (v1 k),defers:=[] } W I1 O1:=
   ⟨rfl,hRr,hT2,⟨[],atl,λ _=>rfl,rfl,λ _ h=>by cases h⟩⟩
  have hga:=jA hc assign _ _ ah9 hxa (3 - 1) _ _ W I1 O1 hSa rfl;have htm:((#[p0,p1]:Array Tmp).zip #[v0 k,v1 k]).foldl (λ tmps (t,a)=>tmps.setIfInBounds t a) a.tmps=(a.tmps.setIfInBounds p0 (v0 k)).setIfInBounds p1 (v1 k):=by rw [avG]; rfl
  refine wpIn_mono (htm ▸ hga) ?_;rintro e a2 W2 ⟨s2,I2,O2,hk2,hSb⟩;cases e with
  | normal=>
   obtain ⟨ρ,hE⟩:=hk2;have hSc:=Jw hSb hE;have hRc:=hS.rel.back hSc.rel hmx;have hl2:=(hSc.rel.env.kept _ _ ⟨hl,rfl⟩).1;have hD2:=(hSc.rel.env.kept _ _ ⟨hD,rfl⟩).1;have avJ:=λ b hb=>hS.rel.ah8 hSc.rel b (hII b hb);refine ⟨_,run_beginRound hl2 (by rw [hrc]),?_⟩;have avK:w.heap.size+1<W2.heap.size:=(ap7.1 hl2).1;obtain ⟨W3,hW3⟩:∃W3,W3=W2.putObj (w.heap.size+1) (.loop { rc .ready none with state:=.busy }):=⟨_,rfl⟩;rw [<- hW3];have hl3:W3.heap[w.heap.size+1]? = some (.loop { rc .ready none with state:=.busy }):=by rw [hW3]; exact World.putObj_heap_same avK
   have hD3:W3.heap[w.heap.size]? = some (.deferred (some [])):=by rw [hW3]; exact (World.putObj_heap_other om).trans hD2
   have arB:uE W3 W2:=by rw [hW3]; exact Iz hl2 rfl
   have hR3:Rel cfg cx (hget (st1 k gx).heap) (λ o=>o<(st1 k gx).nx) W3 I2 (oP ρ (st1 k gx).heap O2):=hRc.turn arB (λ b hb=>by rw [hW3]; exact World.putObj_heap_other om) (by rw [hW3]; exact amG _ _ _ om hRc.env);have hnx1:(st gx).nx<=(st1 k gx).nx:=by
    have:=hE.KJ;unfold aht at this;split at this
    ·exact ag5 this
    cases this
   have hT0:∀t,fB W3 I2 (oP ρ (st1 k gx).heap O2) (λ o=>o<(st1 k gx).nx) (iK (st gx).tmps t) (a.tmps.getD t Go.undef):=λ t=>(fB.behind hS.rel hSc.rel (hS.tmps.rep t rfl)).turn arB;have hRd:=hR3.enter (YI (hnm k gx).2) (m:=(st1 k gx).nx) (λ _ ho=>ho);have hSd:jK cfg N (st1 k gx).nx (Ri W3 I2 (oP ρ (st1 k gx).heap O2) (st1 k gx).nx) (st1 k gx) a2 W3 I2 (oP ρ (st1 k gx).heap O2):=by
    refine ⟨rfl,hRd,⟨rfl,hSc.tmps.size,λ t ht=>(hSc.tmps.rep t ht).turn arB,λ t ht=>by cases ht⟩,?_⟩;have:a2.defers=[]:=by
     obtain ⟨ms2,_,h1,h2,_⟩:=hSc.marks;rw [h1 rfl] at h2;exact h2
    rw [this];exact ⟨[],atl,λ _=>rfl,rfl,λ _ h=>by cases h⟩
   have hgb:=jA hc body _ _ arA (hb k (w.heap.size+1) gx hk hiv) (3 - 1) _ _ W3 I2 _ hSd rfl;refine wpIn_mono hgb ?_;rintro e a4 W4 ⟨s4,I4,O4,hk4,hSe⟩;have hRe:=hR3.back hSe.rel (λ o ho=>ao6 (hmx o ho) hnx1);have hl4:=(hSe.rel.env.kept _ _ ⟨hl3,rfl⟩).1;have hD4:=(hSe.rel.env.kept _ _ ⟨hD3,rfl⟩).1;have atN:w.heap.size+1<W4.heap.size:=(ap7.1 hl4).1;have atO:∀b,I b->I2 b:=λ b hb=>hSc.rel.UY b (hII b hb);have atP:∀b,I b->W4.heap[b]? = W.heap[b]? := λ b hb=>by
    have hbl:=hR0.CV b hb;rw [hR3.ah8 hSe.rel b (atO b hb),hW3,World.putObj_heap_other om];exact avJ b hb
   have hT4:jK cfg N m cx ⟨(st gx).tmps,s4.heap,s4.nx⟩ ⟨a.tmps,[]⟩ W4 I4 O4:=
    ⟨hS.m,hRe,⟨rfl,hS.tmps.size,λ t _=>fB.behind hR3 hSe.rel (hT0 t),λ t ht=>by cases ht⟩,Z8 _⟩
   cases e with
   | normal=>
    obtain ⟨x4,ρ4,avL,hE4⟩:=hk4;have hSf:=Jw hT4 hE4;refine ⟨_,_,run_endRound none hl4,.inl ⟨rfl,⟨x4,avL,I4,_,aed _ hl4 ⟨rfl,nofun⟩ hSf,λ b hb=>hSe.rel.UY b (atO b hb),λ b hb=>?_,?_,?_⟩,λ b hb=>?_⟩⟩
    ·have hbl:=hR0.CV b hb;rw [World.putObj_heap_other om,atP b hb];exact hkeep b hb
    ·rw [World.putObj_heap_same atN,hrc]; rfl
    ·rw [World.putObj_heap_other om]; exact hD4
    have hbl:=hR0.CV b hb;rw [World.putObj_heap_other om];exact atP b hb
   | ret=>
    refine ⟨_,_,run_endRound (some .ret) hl4,.inr ⟨rfl,_,I4,O4,hk4,aed _ hl4 ⟨rfl,nofun⟩ hT4,?_,?_⟩⟩
    ·rw [World.putObj_heap_same atN,hrc]; rfl
    rw [World.putObj_heap_other om]; exact hD4
   | exit id=>exact hk4.elim
   | goto t=>exact hk4.elim
   | panic ch=>exact hk4.elim
   | outgrown=>exact hk4.elim
  | ret=>exact hk2.elim
  | exit id=>exact hk2.elim
  | goto t=>exact hk2.elim
  | panic ch=>exact hk2.elim
  | outgrown=>exact hk2.elim
 ·exact ⟨x0,hi0,I,_,hS2.turn apn (λ b hb=>amF b om) atM rfl (Z8 _),λ _ h=>h,λ b hb=>amF b (hR0.CV b hb),hL1,hD1⟩
 have fin:∀ {s':St} {W:World} {I':Nat->Prop} {O':OM} {o:Obj} (o':Obj),W.heap[w.heap.size+1]? = some o->Q9 o=true∧(∀es c,o≠.map es c)->W.heap[w.heap.size]? = some (.deferred (some []))->jK cfg N m cx s' ⟨a.tmps,[]⟩ W I' O'->
   jK cfg N m cx0 s' { a with defers:=aaP w.heap.size::a.defers } (W.putObj (w.heap.size+1) o') I' O':=by
  intro s' W I' O' o o' ho hn hD hS
  have hS':=aed o' ho hn hS
  have hRx:=hS'.rel
  rw [hcx] at hRx
  obtain ⟨hRy,hmy⟩:=hRx.amo
  refine ⟨hS0.m,hRy,⟨rfl,hS'.tmps.size,hS'.tmps.rep,hS'.tmps.gone⟩,⟨w.heap.size::ms,?_,(λ h=>by rw [hrd] at h; cases h),?_,λ D hDm=>?_⟩⟩
  ·refine awV.2 ⟨λ hin=>?_,hnd⟩
   have:=(hms _ hin).2
   rw [aoF (afg _)] at this
   cases this
  ·show aaP w.heap.size::a.defers=_
   rw [hds]
   rfl
  rcases alu.1 hDm with rfl | hDm
  ·exact ⟨by rw [<- hcw]; exact hw0,(World.putObj_heap_other om).trans hD⟩
  exact ⟨(hms D hDm).1,hmy D hDm⟩
 rintro e W2 ⟨⟨v,rfl⟩,⟨gx,hiv,I2,O2,arC,_,_,hl2,hD2⟩ | ⟨s2,I2,O2,hk2,arC,hl2,hD2⟩⟩
 ·exact ⟨none,_,by have:=run_endLoop (P:=P) hl2 (by rw [hrc]; simp); rw [hrc] at this; exact this,st gx,I2,O2,hK gx hiv,fin _ hl2 ⟨rfl,nofun⟩ hD2 arC⟩
 exact ⟨some .ret,_,by have:=run_endLoop (P:=P) hl2 (by rw [hrc]; simp); rw [hrc] at this; exact this,wpIn_ret ⟨s2,I2,O2,hk2,fin _ hl2 ⟨rfl,nofun⟩ hD2 arC⟩⟩
end
end Go.Ab
namespace Go.Ab
inductive M:Type->Type 1 where
 | ret {R:Type} (v:R):M R
 | need {R:Type} (p:Prop) (d:Decidable p) (m:M R):M R
 | grd {R:Type} (p:Prop) (d:Decidable p) (m:M R) (z:R):M R
 | bnd {A R:Type} (m:M A) (k:A->M R):M R
 | sup {R:Type} (f:Nat->M R):M R
 | bot {R:Type}:M R
def M.den:{R:Type}->M R->R->Prop
 | _,.ret v,r=>r=v
 | _,.need p _ m,r=>p∧den m r
 | _,.grd p _ m _,r=>p->den m r
 | _,.bnd m k,r=>∃v,den m v∧den (k v) r
 | _,.sup f,r=>∃n,den (f n) r
 | _,.bot,_=>False
instance {R:Type}:CoeFun (M R) λ _=>R->Prop:=⟨M.den⟩
instance {x:Int}:Decidable (ay x):=by unfold ay; infer_instance
def need {R:Type} (p:Prop) [d:Decidable p] (m:M R):M R:=.need p d m
def grd {R:Type} [Inhabited R] (p:Prop) [d:Decidable p] (m:M R):M R:=.grd p d m default
def bnd {A R:Type} (m:M A) (k:A->M R):M R:=.bnd m k
def ret {R:Type} (v:R):M R:=.ret v
def itM {σ R:Type} (F:(σ->M R)->σ->M R):Nat->σ->M R
 | 0=>λ _=>.bot
 | n+1=>F (itM F n)
def dI {σ R:Type} (F:(σ->M R)->σ->M R) (s:σ):M R:=.sup λ n=>itM F n s
noncomputable def M.ex (n:Nat) {R:Type} (m:M R):Option R:=
 @M.rec (λ R _=>Option R) (λ v=>some v) (λ _ d _ ih=>match d with | .isTrue _=>ih | .isFalse _=>none) (λ _ d _ z ih=>match d with | .isTrue _=>ih | .isFalse _=>some z)
  (λ _ _ ih ihk=>match ih with | some v=>ihk v | none=>none) (λ _ ih=>ih n) none R m
variable {R:Type}
theorem M.arD (n:Nat) (m:M R):∀r,m.ex n=some r->m r:=by
 induction m with
 | ret v=>intro r h; exact (alm h).symm
 | need p d m ih=>
  intro r h;cases d with
  | isTrue hp=>exact ⟨hp,ih r h⟩
  | isFalse hp=>exact absurd h (by show ¬ (none=some r); nofun)
 | grd p d m z ih=>
  intro r h;cases d with
  | isTrue hp=>exact λ _=>ih r h
  | isFalse hp=>exact λ q=>absurd q hp
 | bnd m k ih ihk=>
  intro r h;have h:(match m.ex n with | some v=>(k v).ex n | none=>none)=some r:=h;cases hv:m.ex n with
  | none=>rw [hv] at h; cases h
  | some v=>rw [hv] at h; exact ⟨v,ih v hv,ihk v r h⟩
 | sup f ih=>intro r h; exact ⟨n,ih n r h⟩
 | bot=>intro r h; cases h
theorem aS {p:Prop} {d:Decidable p} {m:M R} {r:R} {K:Prop} (hm:need p m r) (h:p->m r->K):p∧K:=⟨hm.1,h hm.1 hm.2⟩
theorem fP {c:Bool} {x y:M R} {r:R} {A B:Prop} (hm:(cond c x y) r) (h1:c=true->x r->A) (h2:c=false->y r->B):aas c A B:=by
 cases c
 ·exact h2 rfl hm
 exact h1 rfl hm
theorem dH {A:Type} {m:M A} {k:A->M R} {r:R} {G:Prop} (hm:bnd m k r) (h:∀v,m v->k v r->G):G:=by
 obtain ⟨v,h1,h2⟩:=hm;exact h v h1 h2
section
variable {P:Program} {cfg:yx} {N:Nat}
variable {m:Nat} {s:St}
theorem aee {r:Option Nat} {c:Code} {K:Exit->St->Prop} {α:Type} (st:α->St) (inv:α->Prop) (μ:α->Nat) (x0:α) (ρ0:List (Nat×Option Nat)) (os0:azt) (h0:inv x0) (hE:RH m ρ0 os0 s (st x0))
  (round:∀x,inv x->Good P cfg N r m c (st x) (λ e s'=>match e with | .normal=>∃x' ρ os,inv x'∧μ x'<μ x∧RH m ρ os s' (st x') | e=>K e s')):Loops P cfg N r m (.loop c) s K:=by
 refine ⟨λ n0 cx a w I O hS hrd=>?_⟩;obtain ⟨I1,O1,hS1⟩:=AL hS hE;refine wpIn_loop_ghost (λ n a w=>∃x I O,inv x∧n=μ x∧jK cfg N m cx (st x) a w I O) (μ x0) ⟨x0,I1,O1,h0,rfl,hS1⟩ ?_;intro n a w hI;obtain ⟨x,I,O,hx,rfl,hS⟩:=hI;refine wpIn_mono (round x hx n0 cx a w I O hS hrd) ?_;intro e a' w' ⟨s',I',O',h1,h2⟩;cases e with
 | normal=>
  obtain ⟨x',ρ,os,h3,h4,h5⟩:=h1;obtain ⟨I2,O2,hS2⟩:=AL h2 h5;exact ⟨μ x',h4,x',I2,O2,h3,rfl,hS2⟩
 | exit id=>exact ⟨s',I',O',h1,h2⟩
 | goto l=>exact ⟨s',I',O',h1,h2⟩
 | ret=>exact ⟨s',I',O',h1,h2⟩
 | panic ch=>exact ⟨s',I',O',h1,h2⟩
 | outgrown=>exact ⟨s',I',O',h1,h2⟩
variable {c:Code}
theorem nN (hc:iL P cfg) {rr:Option Nat} {ct:azt} {K:Exit->St->Prop} (hok:jk N c=true) {σ:Type} {F:(σ->M R)->σ->M R} {x0:σ} {r:R} (hm:dI F x0 r) (st:σ->St) (ρ0:List (Nat×Option Nat)) (os0:azt) (hE:RH m ρ0 os0 s (st x0))
  (round:∀(self:σ->M R) (x:σ),F self x r->lF cfg (Spec P cfg) ct (Loops P cfg N rr m) c (st x) (λ e s'=>match e with | .normal=>∃x' ρ os,self x' r∧RH m ρ os s' (st x') | e=>K e s')):Loops P cfg N rr m (.loop c) s K:=by
 obtain ⟨n0,h0⟩:=hm;refine aee (λ x:σ×Nat=>st x.1) (λ x=>itM F x.2 x.1 r) (λ x=>x.2) (x0,n0) ρ0 os0 h0 hE ?_;rintro ⟨x,n⟩ hx;cases n with
 | zero=>exact hx.elim
 | succ n=>
  refine (jA hc c (st x) _ hok (round (itM F n) x hx)).mono ?_;intro e s' h;cases e with
  | normal=>
   obtain ⟨x',ρ,os,h1,h2⟩:=h;exact ⟨(x',n),ρ,os,h1,ayF n,h2⟩
  | _=>exact h
theorem SH (hc:iL P cfg) {rr:Option Nat} {m:Nat} {ct:azt} {x y:Code} {s:St} {K:Exit->St->Prop} (amH:jk N x=true) (akB:jk N y=true) {σ:Type} (k:σ->M R) (r:R) (st:σ->St)
  (h1:lF cfg (Spec P cfg) ct (Loops P cfg N rr m) x s (λ e s'=>match e with | .normal=>∃x' ρ os,k x' r∧RH m ρ os s' (st x') | e=>K e s'))
  (h2:∀x',k x' r->lF cfg (Spec P cfg) ct (Loops P cfg N rr m) y (st x') K):Loops P cfg N rr m (.seq x y) s K:=by
 refine ⟨sU ((jA hc x s _ amH h1).mono ?_)⟩;intro e s' h;cases e with
 | normal=>
  obtain ⟨x',ρ,os,h3,h4⟩:=h;exact λ n0 cx a w I O hS hrd=>by
   obtain ⟨I',O',h'⟩:=AL hS h4;exact jA hc y (st x') K akB (h2 x' h3) n0 cx a w I' O' h' hrd
 | _=>exact h
structure amI (P:Program) (cfg:yx) (N:Nat) (r:Option Nat) (m:Nat) (c:Code) (K:Exit->St->Prop) (M:Nat) (s:St):Prop where
 ok:∀(n0:Nat) (cx:Ctx) (a:Act) (w:World) (I:Nat->Prop) (O:OM),jK cfg N m cx s a w I O->cx.rd=r.isSome->Code.roundsIn (FW r) n0 P c (λ e a' w'=>∃s' I' O',K e s'∧jK cfg N m cx s' a' w' I' O') M a w
theorem jr (hc:iL P cfg) {r:Option Nat} {m:Nat} {ct:azt} {s:St} {K:Exit->St->Prop} {M:Nat} (hok:jk N c=true)
  (h:lF cfg (Spec P cfg) ct (Loops P cfg N r m) c s (λ e s'=>match e with | .normal=>amI P cfg N r m c K M s' | e=>K e s')):amI P cfg N r m c K (M+1) s:=by
 refine ⟨λ n0 cx a w I O hS hrd=>?_⟩;rw [roundsIn_succ];refine wpIn_mono (jA hc c s _ hok h n0 cx a w I O hS hrd) ?_;intro e a' w' ⟨s',I',O',h1,h2⟩;cases e with
 | normal=>exact h1.ok n0 cx a' w' I' O' h2 hrd
 | exit id=>exact ⟨s',I',O',h1,h2⟩
 | goto l=>exact ⟨s',I',O',h1,h2⟩
 | ret=>exact ⟨s',I',O',h1,h2⟩
 | panic ch=>exact ⟨s',I',O',h1,h2⟩
 | outgrown=>exact ⟨s',I',O',h1,h2⟩
variable {r:Option Nat} {K:Exit->St->Prop}
theorem YJ (M:Nat) (h:amI P cfg N r m c K M s):Loops P cfg N r m (.loop c) s K:=
 ⟨λ n0 cx a w I O hS hrd=>wpIn_loop_rounds M (h.ok n0 cx a w I O hS hrd)⟩
end
end Go.Ab
namespace Go.Ab
variable {α:Type}
theorem kN {f:α->AV} {d:α} {l:List α} {k:Nat} (_h:k<=l.length):∀i,i<k->Le (bF f d l i) (bF f d (l.take k) i):=λ i hi=>by
 unfold bF;rw [getD_take l d hi];exact .refl _
variable {g:Nat->AV}
theorem fK (f:α->AV) (d:α) (l:List α) {n:Nat} (hg:g=Yq (l.map f):=by rfl) (hn:n<=l.length:=by exact ag5 rfl):∀i,i<n->Le (g i) (bF f d l i):=λ i hi=>by
 subst hg;unfold bF Yq;rw [wN,adF,au3,adF,adH om];exact .refl _
variable {n:Nat}
theorem Jy {f:α->AV} {d:α} {x:α} {l:List α} (h0:Le (g 0) (f x)) (ht:∀i,i<n->Le ((λ j=>g (j+1)) i) (bF f d l i)):∀i,i<n+1->Le (g i) (bF f d (x::l) i):=λ i hi=>by
 cases i with
 | zero=>exact h0
 | succ i=>exact ht i om
theorem iR {f:α->AV} {d:α} {l m:List α} {k:Nat} {h:Nat->AV} (hn:n=l.length) (hg:∀i,i<n->Le (g i) (bF f d l i)) (hk:k=m.length) (hh:∀i,i<k->Le (h i) (bF f d m i)):∀i,i<n+k->Le (appG n g h i) (bF f d (l++m) i):=λ i hi=>by
 unfold appG;cases hb:Nat.blt i n with
 | true=>
  have hlt:i<n:=by simpa using hb
  have:=hg i hlt;unfold bF at this ⊢;rw [ko d om];exact this
 | false=>
  have hge:n<=i:=by
   rcases aoG i n with h | h
   ·rw [show Nat.blt i n=true by simpa using h] at hb; cases hb
   exact h
  have:=hh (i - n) om;unfold bF at this ⊢;rw [adF,arF om,<- adF,<- hn];exact this
theorem akC {f:α->AV} {d:α} {l:List α} {a N:Nat} (hg:∀i,i<N->Le (g i) (bF f d l i)) (h:a+n<=N):∀i,i<n->Le (g (a+i)) (bF f d ((l.drop a).take n) i):=λ i hi=>by
 have:=hg (a+i) om;unfold bF at this ⊢;rw [getD_take _ d hi,getD_drop];exact this
theorem ac7 {f:α->AV} {d:α} {l:List α} {a N:Nat} (hg:∀i,i<N->Le (g i) (bF f d l i)) (h:a+n<=N):∀i,i<n->Le (rP a g i) (bF f d ((l.drop a).take n) i):=λ i hi=>by
 rw [EH];exact akC hg h i hi
theorem mM {f:α->AV} {d:α} {l:List α} {j:Nat} {v:AV} {x:α} (hg:∀i,i<n->Le (g i) (bF f d l i)) (hn:n=l.length) (hv:Le v (f x)):∀i,i<n->Le (afi g j v i) (bF f d (l.set j x) i):=λ i hi=>by
 unfold afi;cases hb:Nat.beq i j with
 | true=>
  have:=adU hb;subst this;unfold bF;rw [adF,aqI om];exact hv
 | false=>
  have hne:i≠j:=λ e=>by subst e; simp at hb
  have:=hg i hi;unfold bF at this ⊢;rw [adF,auM om,<- adF];exact this
def aia {α:Type} (l:List α) (i:Nat) (s:List α):List α:=l.mapIdx λ j x=>if i<=j then s.getD (j - i) x else x
theorem jG (l:List α) (i:Nat) (s:List α):(aia l i s).length=l.length:=by
 unfold aia;rw [List.length_mapIdx]
theorem ac8 (d:α) {l s:List α} {i j:Nat} (hj:j<l.length):(aia l i s).getD j d=if i<=j∧j<i+s.length then s.getD (j - i) d else l.getD j d:=by
 unfold aia;rw [adF,List.getElem?_mapIdx,adH hj,adF (l:=l),adH hj];simp only [ap9,as8];by_cases h1:i<=j
 ·rw [if_pos h1];by_cases h2:j<i+s.length
  ·rw [if_pos ⟨h1,h2⟩,adF,adF,adH om];rfl
  rw [if_neg om,adF,au7 om];rfl
 rw [if_neg h1,if_neg om]
variable {m:Nat}
theorem arE {f:α->AV} {d:α} {l s:List α} {i:Nat} {h:Nat->AV} (hn:n=l.length) (hg:∀j,j<n->Le (g j) (bF f d l j)) (hm:m=s.length) (hh:∀j,j<m->Le (h j) (bF f d s j)):∀j,j<n->Le (cpG i m g h j) (bF f d (aia l i s) j):=λ j hj=>by
 unfold bF;rw [ac8 d om];by_cases hin:i<=j∧j<i+m
 ·rw [if_pos om,ahC hin.1 hin.2];exact hh (j - i) om
 rw [if_neg om,adW hin];exact hg j hj
theorem amJ (f:α->AV) (d:α) {n:Nat} {z:AV} (hz:Le z (f d):=by exact .refl _):∀i,i<n->Le ((λ _=>z) i) (bF f d (List.replicate n d) i):=λ i hi=>by
 unfold bF;rw [adF,auV,if_pos hi];exact hz
def strOf (l:azp):ByteArray:=KR l.length 0 (bF (AV.int .u8) 0 l) ByteArray.empty
def u8L:azx->Bool
 | []=>true
 | v::l=>aqY v&&u8L l
theorem amK:∀ {es:azx},u8L es=true->∀i,i<es.length->aqY (Yq es i)=true:=by
 intro es;induction es with
 | nil=>intro _ i h; exact absurd h (ahh _)
 | cons v l ih=>
  intro h i hi;simp only [u8L,aei] at h;cases i with
  | zero=>exact h.1
  | succ i=>exact ih h.2 i (by simpa using hi)
theorem aaW {ρ:List (Nat×Option Nat)} {H':lD} {f:Nat} {u v:AV} (h:Le u v) (hp:atc v=true) (hl:v.cells.length+2<f):nC ρ H' f u v:=by
 obtain ⟨f,rfl⟩:∃f',f=f'+1:=⟨f - 1,by omega⟩;cases v with
 | agg cs'=>
  have key:∀cs,WX cs cs'->nC ρ H' (f+1) (.agg cs) (.agg cs'):=by
   intro cs hcs;unfold nC;have:=(EY _ _ hcs).1;exact apm cs cs' f (by simp [AV.cells] at hl; omega) hcs hp
  cases h with
  | refl=>exact key _ (WX.refl _)
  | agg hl h=>exact key _ (WX.ajk hl h)
 | _=>exact ajl h hp
def NK {α:Type} (f:α->AV) (X:Nat->α):Nat->AV:=λ i=>f (X i)
def upd {α:Type} (X:Nat->α) (i:Nat) (x:α):Nat->α:=λ j=>bif Nat.beq j i then x else X j
theorem akD (X:Nat->α) (i:Nat) (x:α):upd X i x i=x:=by
 unfold upd;rw [show Nat.beq i i=true by simp];rfl
theorem apq {f:α->AV} {X:Nat->α} {j:Nat} {v:AV} {x:α} (hg:∀i,i<n->Le (g i) (NK f X i)) (hv:Le v (f x)):∀i,i<n->Le (afi g j v i) (NK f (upd X j x) i):=λ i hi=>by
 unfold afi NK upd;cases hb:Nat.beq i j with
 | true=>exact hv
 | false=>exact hg i hi
theorem aef {f:α->AV} {X:Nat->α} (h1:∀x,(f x).cells=[f x]):∀(n k i:Nat),i<n->nth (lS n k (NK f X)) i=f (X (k+i)):=by
 intro n;induction n with
 | zero=>intro k i h; exact absurd h (ahh _)
 | succ n ih=>
  intro k i hi;simp only [lS];have:(NK f X k).cells=[f (X k)]:=h1 _;rw [this];cases i with
  | zero=>rfl
  | succ i=>
   show nth (lS n (k+1) (NK f X)) i=_;rw [ih (k+1) i om];congr 2;omega
theorem ac9 {f:α->AV} {X:Nat->α} (h1:∀x,(f x).cells=[f x]):∀i,i<n->Le (Yq (lS n 0 (NK f X)) i) (NK f X i):=λ i hi=>by
 unfold Yq;rw [aef h1 n 0 i hi,ahi];exact .refl _
theorem apr {f:α->AV} {d:α} {X:Nat->α} :∀i,i<n->Le (NK f X i) (bF f d ((List.range n).map X) i):=λ i hi=>by
 unfold NK bF;rw [adF,au3,List.getElem?_range hi];exact .refl _
theorem oQ (x:eP) (h:(match x with | .map .. => false | _=>true)=true:=by rfl):LeO x x:=by
 cases x with
 | box cs=>exact WX.refl cs
 | row es n g=>exact ⟨rfl,rfl,λ _ _=>.refl _⟩
 | map=>cases h
theorem length_eq {l:List α} (h:n=l.length):n=l.length:=h
theorem vac {c b:Bool} (h:(c==b)=false):¬ c=b:=by
 rintro rfl;simp at h
def W {R:Type} (m:M R) (Q:R->Prop):Prop:=∃r,m r∧Q r
variable {R:Type}
theorem aC {v:R} {Q:R->Prop} (h:Q v):W (ret v) Q:=⟨v,rfl,h⟩
theorem aP {p:Prop} {d:Decidable p} {m:M R} {Q:R->Prop} (hp:p) (h:W m Q):W (need p m) Q:=by
 obtain ⟨r,h1,h2⟩:=h;exact ⟨r,⟨hp,h1⟩,h2⟩
theorem aG {A:Type} {m:M A} {k:A->M R} {P:A->Prop} {Q:R->Prop} (h:W m P) (hk:∀v,P v->W (k v) Q):W (bnd m k) Q:=by
 obtain ⟨v,h1,h2⟩:=h;obtain ⟨r,h3,h4⟩:=hk v h2;exact ⟨r,⟨v,h1,h3⟩,h4⟩
theorem bV {c:Bool} {x y:M R} {Q:R->Prop} (h1:c=true->W x Q) (h2:c=false->W y Q):W (cond c x y) Q:=by
 cases c
 ·exact h2 rfl
 exact h1 rfl
theorem aaX {m:M R} {Q Q':R->Prop} (h:W m Q) (hq:∀r,Q r->Q' r):W m Q':=by
 obtain ⟨r,h1,h2⟩:=h;exact ⟨r,h1,hq r h2⟩
theorem Ac {m:M R} {v:R} (h:m v):W m (λ r=>r=v):=⟨v,h,rfl⟩
theorem kY {m:M R} {v:R} (h:W m (λ r=>r=v)):m v:=by
 obtain ⟨r,h1,rfl⟩:=h;exact h1
theorem vH {A:Type} [Inhabited A] {c:Prop} [Decidable c] {m:M A} {P:A->Prop} (h:c->W m P):W (grd c m) (λ v=>c->P v):=by
 by_cases hc:c
 ·obtain ⟨v,h1,h2⟩:=h hc;exact ⟨v,λ _=>h1,λ _=>h2⟩
 exact ⟨default,λ h=>absurd h hc,λ h=>absurd h hc⟩
theorem bS {σ:Type} {F:(σ->M R)->σ->M R} {Q:R->Prop} (inv:σ->Prop) (μ:σ->Nat) (h:∀(self:σ->M R) (s:σ),inv s->(∀s',inv s'->μ s'<μ s->W (self s') Q)->W (F self s) Q) {s:σ} (hs:inv s):W (dI F s) Q:=by
 have key:∀n s,inv s->μ s<n->W (itM F n s) Q:=by
  intro n;induction n with
  | zero=>intro s _ h; exact absurd h (ahh _)
  | succ n ih=>intro s hs hn; exact h _ s hs λ s' h1 h2=>ih s' h1 om
 obtain ⟨r,h1,h2⟩:=key (μ s+1) s hs (ayF _);exact ⟨r,⟨_,h1⟩,h2⟩
section
variable {P:Program} {cfg:yx} {N:Nat}
theorem ada {r:Option Nat} {n0:Nat} {oA oB:Oper} {Q:Exit->Act->World->Prop} {a:Act} {w:World} (hA:oA.guard=none) (hB:oB.guard=none) (hdA:∀c,oA.op≠.defer c) (hdB:∀c,oB.op≠.defer c)
  {x y:Value} (h1:(execOp a.eval oA).run P w=.ok (.value x) w) (h2:(execOp (a.put oA.dst x).eval oB).run P w=.ok (.value y) w) (h:Q .normal ((a.put oA.dst x).put oB.dst y) w):
  wpOpsIn (FW r) n0 P #[oA,oB] Q (List.range 2) a w:=by
 show wpOpsIn (FW r) n0 P #[oA,oB] Q [0,1] a w;unfold wpOpsIn;simp only [List.getElem?_toArray,List.getElem?_cons_zero];rw [if_pos (by unfold Region.wanted; rw [hA])];refine ad7 hdA (CY h1 ?_);unfold wpOpsIn;simp only [List.getElem?_toArray,List.getElem?_cons_succ,List.getElem?_cons_zero];rw [if_pos (by unfold Region.wanted; rw [hB])];refine ad7 hdB (CY h2 ?_);unfold wpOpsIn;exact h
variable {t:TypeId} {e:TypeId}
theorem amM {r:Option Nat} {m id:Nat} (hu:P.underlying t=some (.slice e)) {t0 d3 d4:Nat} (h3:d3<N) (h4:d4<N) {t' tyA tyB:TypeId} {pA pB:String} {aA aB:Array Edge}
  {T:List (Nat×AV)} {H:lD} {nx:Nat} {es n:Nat} {f:Bool} {g:Nat->AV} (hs:iK T t0=.sl es n f g) {K:Exit->St->Prop}
  (hK:∀b,(b=true->n=0)->K .normal ⟨(d4,.bool b)::(d3,.sl es n f g)::T,H,nx⟩):
  Good P cfg N r m (.region id #[⟨some d3,.move (.tmp t0),tyA,pA,aA,none⟩,⟨some d4,.binOp .eql t (.tmp d3) (.const (.slice none 0 0)) t',tyB,pB,aB,none⟩] false) ⟨T,H,nx⟩ K:=by
 intro n0 cx a w I O hS hrd;have hx:=hS.tmps.rep t0 rfl;have hsz:=hS.tmps.size;have hs':iK (⟨T,H,nx⟩:St).tmps t0=.sl es n f g:=hs;rw [hs'] at hx;generalize hxv:a.tmps.getD t0 Go.undef=x at hx;have hp:=hx.Iy;refine wpIn_region ?_;cases hp with
 | @sl _ _ _ _ aa cap b off vs hcap hfull ha hes hm h1 hr=>
  have hb:aa.isNone=true->n=0:=λ h=>by
   rcases aqH n with h0 | h0
   ·exact h0
   rw [(ha om).1] at h; cases h
  refine ada rfl rfl (λ c h=>by cases h) (λ c h=>by cases h) (x:=.slice aa n cap) (y:=.bool aa.isNone) ?_ ?_ ?_
  ·simp only [execOp,Act.eval];rw [hxv];rfl
  ·have e1:(a.put (some d3) (.slice aa n cap)).eval (.tmp d3)=.slice aa n cap:=by
    simp [Act.put,Act.eval,hsz,h3]
   have e2:=run_equal_slice_nil (P:=P) w t e aa n cap hu;have e3:(a.put (some d3) (.slice aa n cap)).eval (.const (.slice none 0 0))=.slice none 0 0:=rfl;have hg:(eqGuard .eql t (.tmp d3) (.const (.slice none 0 0)) (.slice aa n cap) (.slice none 0 0)).run P w=.ok () w:=by unfold eqGuard; simp
   simp only [execOp];rw [e1,e3];simp [hg,binOp,e2]
  refine ⟨_,I,O,hK aa.isNone hb,hS.m,hS.rel,?_,hS.marks⟩;have h5:=hS.tmps.put (λ _ _ h=>h) (some d3) (λ k hk=>by cases hk; exact h3) (.sl es n f g) (.slice aa n cap) true (λ _=>hx) (λ h=>by cases h);have h6:=h5.put (λ _ _ h=>h) (some d4) (λ k hk=>by cases hk; exact h4) (.bool aa.isNone) (.bool aa.isNone) true (λ _=>.pure (.bool _)) (λ h=>by cases h);refine ⟨h6.defers,h6.size,λ tt _=>?_,λ tt h=>by cases h⟩;have:=h6.rep tt (by rw [EK,EK]);show fB w I O _ (iK ((d4,.bool aa.isNone)::(d3,.sl es n f g)::T) tt) _;rw [oO,oO];exact this
theorem aaY (hc:iL P cfg) {rr:Option Nat} {m:Nat} {ct:azt} (hu:P.underlying t=some (.slice e)) {a X Y:Code} {s:St} {K:Exit->St->Prop} (ah9:jk N a=true) (arH:jk N X=true) (arI:jk N Y=true)
  {id t0 d3 d4:Nat} (h3:d3<N) (h4:d4<N) {t' tyA tyB:TypeId} {pA pB:String} {aA aB:Array Edge} (T:List (Nat×AV)) (H:lD) (nx:Nat) {es n:Nat} {f:Bool} {g:Nat->AV} (hs:iK T t0=.sl es n f g)
  (h1:lF cfg (Spec P cfg) ct (Loops P cfg N rr m) a s (λ e s'=>match e with | .normal=>s'=⟨T,H,nx⟩ | _=>False))
  (hX:n=0->lF cfg (Spec P cfg) ct (Loops P cfg N rr m) X ⟨(d4,.bool true)::(d3,.sl es n f g)::T,H,nx⟩ (λ e s'=>match e with | .normal=>False | e=>K e s'))
  (hY:lF cfg (Spec P cfg) ct (Loops P cfg N rr m) Y ⟨(d4,.bool false)::(d3,.sl es n f g)::T,H,nx⟩ K):
  Loops P cfg N rr m (.seq a (.seq (.seq (.region id #[⟨some d3,.move (.tmp t0),tyA,pA,aA,none⟩,⟨some d4,.binOp .eql t (.tmp d3) (.const (.slice none 0 0)) t',tyB,pB,aB,none⟩] false) (.cond (.tmp d4) X .skip)) Y)) s K:=by
 refine ⟨sU ((jA hc a s _ ah9 h1).mono ?_)⟩;intro e s' h;cases e with
 | normal=>
  have h:s'=⟨T,H,nx⟩:=h;subst h;refine sU (sU (amM hu h3 h4 hs λ b hb=>?_));have arJ:ZV cfg (iK (⟨(d4,.bool b)::(d3,.sl es n f g)::T,H,nx⟩:St).tmps) (.tmp d4)=.bool b:=by
   show iK ((d4,.bool b)::(d3,.sl es n f g)::T) d4=_;rw [oO];simp [jo]
  refine Xk arJ (λ hb1=>?_) (λ hb1=>?_)
  ·subst hb1;refine (jA hc X _ _ arH (hX (hb rfl))).mono ?_;intro e s' h;cases e with
   | normal=>exact h.elim
   | _=>exact h
  subst hb1;refine jA (ct:=ct) hc .skip _ _ rfl ?_;exact jA hc Y _ _ arI hY
 | _=>exact h.elim
theorem aib {r:Option Nat} {m id:Nat} (hu:P.underlying t=some (.slice e)) {t0 d3 d4:Nat} (h3:d3<N) (h4:d4<N) {t' tyA tyB:TypeId} {pA pB:String} {aA aB:Array Edge}
  {T:List (Nat×AV)} {H:lD} {nx:Nat} {ob i n:Nat} {f:Bool} (hs:iK T t0=.dR ob i n f) {oo:eP} (hoo:hget H ob=some oo) {K:Exit->St->Prop}
  (hK:∀b,(b=true->n=0)->K .normal ⟨(d4,.bool b)::(d3,.dR ob i n f)::T,H,nx⟩):
  Good P cfg N r m (.region id #[⟨some d3,.move (.tmp t0),tyA,pA,aA,none⟩,⟨some d4,.binOp .eql t (.tmp d3) (.const (.slice none 0 0)) t',tyB,pB,aB,none⟩] false) ⟨T,H,nx⟩ K:=by
 intro n0 cx a w I O hS hrd;have hx:=hS.tmps.rep t0 rfl;have hsz:=hS.tmps.size;have hs':iK (⟨T,H,nx⟩:St).tmps t0=.dR ob i n f:=hs;rw [hs'] at hx;generalize hxv:a.tmps.getD t0 Go.undef=x at hx;obtain ⟨p,hp,_⟩:=hS.rel.live hoo;obtain ⟨aa,cap,hxe,_,a2,_,a4⟩:=hx.qh hp;subst hxe;refine wpIn_region ?_;have hb:aa.isNone=true->n=0:=λ h=>by
  rcases aqH cap with h0 | h0
  ·omega
  obtain ⟨b,bo,sz,_,e2,_⟩:=a4 om;rw [e2] at h; cases h
 refine ada rfl rfl (λ c h=>by cases h) (λ c h=>by cases h) (x:=.slice aa n cap) (y:=.bool aa.isNone) ?_ ?_ ?_
 ·simp only [execOp,Act.eval];rw [hxv];rfl
 ·have e1:(a.put (some d3) (.slice aa n cap)).eval (.tmp d3)=.slice aa n cap:=by
   simp [Act.put,Act.eval,hsz,h3]
  have e2:=run_equal_slice_nil (P:=P) w t e aa n cap hu;have e3:(a.put (some d3) (.slice aa n cap)).eval (.const (.slice none 0 0))=.slice none 0 0:=rfl;have hg:(eqGuard .eql t (.tmp d3) (.const (.slice none 0 0)) (.slice aa n cap) (.slice none 0 0)).run P w=.ok () w:=by unfold eqGuard; simp
  simp only [execOp];rw [e1,e3];simp [hg,binOp,e2]
 refine ⟨_,I,O,hK aa.isNone hb,hS.m,hS.rel,?_,hS.marks⟩;have h5:=hS.tmps.put (λ _ _ h=>h) (some d3) (λ k hk=>by cases hk; exact h3) (.dR ob i n f) (.slice aa n cap) true (λ _=>hx) (λ h=>by cases h);have h6:=h5.put (λ _ _ h=>h) (some d4) (λ k hk=>by cases hk; exact h4) (.bool aa.isNone) (.bool aa.isNone) true (λ _=>.pure (.bool _)) (λ h=>by cases h);refine ⟨h6.defers,h6.size,λ tt _=>?_,λ tt h=>by cases h⟩;have:=h6.rep tt (by rw [EK,EK]);show fB w I O _ (iK ((d4,.bool aa.isNone)::(d3,.dR ob i n f)::T) tt) _;rw [oO,oO];exact this
theorem aic (hc:iL P cfg) {rr:Option Nat} {m:Nat} {ct:azt} (hu:P.underlying t=some (.slice e)) {a X Y:Code} {s:St} {K:Exit->St->Prop} (ah9:jk N a=true) (arH:jk N X=true) (arI:jk N Y=true)
  {id t0 d3 d4:Nat} (h3:d3<N) (h4:d4<N) {t' tyA tyB:TypeId} {pA pB:String} {aA aB:Array Edge} (T:List (Nat×AV)) (H:lD) (nx:Nat) {ob i n:Nat} {f:Bool} (hs:iK T t0=.dR ob i n f) {oo:eP} (hoo:hget H ob=some oo)
  (h1:lF cfg (Spec P cfg) ct (Loops P cfg N rr m) a s (λ e s'=>match e with | .normal=>s'=⟨T,H,nx⟩ | _=>False))
  (hX:n=0->lF cfg (Spec P cfg) ct (Loops P cfg N rr m) X ⟨(d4,.bool true)::(d3,.dR ob i n f)::T,H,nx⟩ (λ e s'=>match e with | .normal=>False | e=>K e s'))
  (hY:lF cfg (Spec P cfg) ct (Loops P cfg N rr m) Y ⟨(d4,.bool false)::(d3,.dR ob i n f)::T,H,nx⟩ K):
  Loops P cfg N rr m (.seq a (.seq (.seq (.region id #[⟨some d3,.move (.tmp t0),tyA,pA,aA,none⟩,⟨some d4,.binOp .eql t (.tmp d3) (.const (.slice none 0 0)) t',tyB,pB,aB,none⟩] false) (.cond (.tmp d4) X .skip)) Y)) s K:=by
 refine ⟨sU ((jA hc a s _ ah9 h1).mono ?_)⟩;intro e s' h;cases e with
 | normal=>
  have h:s'=⟨T,H,nx⟩:=h;subst h;refine sU (sU (aib hu h3 h4 hs hoo λ b hb=>?_));have arJ:ZV cfg (iK (⟨(d4,.bool b)::(d3,.dR ob i n f)::T,H,nx⟩:St).tmps) (.tmp d4)=.bool b:=by
   show iK ((d4,.bool b)::(d3,.dR ob i n f)::T) d4=_;rw [oO];simp [jo]
  refine Xk arJ (λ hb1=>?_) (λ hb1=>?_)
  ·subst hb1;refine (jA hc X _ _ arH (hX (hb rfl))).mono ?_;intro e s' h;cases e with
   | normal=>exact h.elim
   | _=>exact h
  subst hb1;refine jA (ct:=ct) hc .skip _ _ rfl ?_;exact jA hc Y _ _ arI hY
 | _=>exact h.elim
def aeg {σ R:Type} (len:Nat) (B:Nat->(σ->M R)->σ->M R) (fin:σ->M R):Nat->σ->M R
 | 0=>fin
 | j+1=>B (len - (j+1)) (aeg len B fin j)
theorem adb (hc:iL P cfg) {m:Nat} {ct ct':azt} {g:Operand} {p0 p1:Nat} {assign body:Code} {s:St} {K:Exit->St->Prop} (ah9:jk N assign=true) (arA:jk N body=true) (hp0:p0<N) (hp1:p1<N)
  {gf:FuncId} {caps:azx} {len:Nat} {e0 e1:Nat->AV} (hit:aaV P gf caps len e0 e1) (hg:ZV cfg (iK s.tmps) g=.fn gf caps) (amE:∀v∈caps,∃cs,v=.ro cs)
  {σ R:Type} {B:Nat->(σ->M R)->σ->M R} {fin:σ->M R} {x0:σ} {r:R} (hm:aeg len B fin len x0 r)
  (st:σ->St) (st1:Nat->σ->St) (hnm:∀k gx,Ub (st gx).heap=true∧Ub (st1 k gx).heap=true) (ρ0:List (Nat×Option Nat)) (h0:Emb m ρ0 s (st x0))
  (ha:∀k l gx,k<len->m<=(st gx).nx∧lF cfg (Spec P cfg) ct (Loops P cfg N (some l) (st gx).nx) assign ⟨(p1,e1 k)::(p0,e0 k)::(st gx).tmps,(st gx).heap,(st gx).nx⟩ (λ e s'=>match e with | .normal=>∃ρ,Emb (st gx).nx ρ s' (st1 k gx) | _=>False))
  (hb:∀k l self gx,k<len->B k self gx r->lF cfg (Spec P cfg) ct' (Loops P cfg N (some l) (st1 k gx).nx) body (st1 k gx) (λ e s'=>match e with | .normal=>∃x' ρ,self x' r∧Emb m ρ ⟨(st gx).tmps,s'.heap,s'.nx⟩ (st x') | .ret=>K .ret ⟨(st gx).tmps,s'.heap,s'.nx⟩ | _=>False))
  (hK:∀gx,fin gx r->K .normal (st gx)):Loops P cfg N none m (.rangeFunc g #[p0,p1] assign body) s K:=by
 refine akA (ct:=ct) (ct':=ct') hc ah9 arA hp0 hp1 hit hg amE st st1 hnm x0 ρ0 h0 (λ k x=>aeg len B fin (len - k) x r) hm (λ k l gx hk _=>ha k l gx hk) ?_ ?_
 ·intro k l gx hk hi;obtain ⟨j,hj⟩:∃j,len - k=j+1:=⟨len - k - 1,by omega⟩;have h1:=hi;rw [hj] at h1;have e1:len - (j+1)=k:=by omega
  have h2:B k (aeg len B fin j) gx r:=by
   have:B (len - (j+1)) (aeg len B fin j) gx r:=h1;rwa [e1] at this
  have e2:j=len - (k+1):=by omega
  subst e2;exact hb k l _ gx hk h2
 intro gx hi;have:=hi;rw [auQ] at this;exact hK gx this
end
end Go.Ab
namespace Go.Ab
mutual
def noR (o:Nat):AV->Bool
 | .ptr o' _ _=>!Nat.beq o' o
 | .dR o' _ _ _=>!Nat.beq o' o
 | .mref o'=>!Nat.beq o' o
 | .agg cs=>agh o cs
 | .fn _ cs=>agh o cs
 | .jX cs=>agh o cs
 | _=>true
def agh (o:Nat):azx->Bool
 | []=>true
 | v::l=>noR o v&&agh o l
end
def amN (o t0:Nat):List (Nat×AV)->Bool
 | []=>true
 | (t,v)::l=>(Nat.beq t t0||noR o v)&&amN o t0 l
def avN (o:Nat):Option eP->Bool
 | some (.box cs)=>agh o cs
 | _=>true
def amO (o:Nat):lD->Bool
 | []=>true
 | (_,x)::l=>avN o x&&amO o l
variable {o:Nat}
theorem Vm:∀ {l:azx} {j:Nat},agh o l=true->noR o (nth l j)=true:=by
 intro l;induction l with
 | nil=>intro j _; cases j<;>rfl
 | cons v l ih=>
  intro j h;simp only [agh,aei] at h;cases j with
  | zero=>exact h.1
  | succ j=>exact ih h.2
theorem amP {t0:Nat} :∀ {l:List (Nat×AV)},amN o t0 l=true->∀t,t≠t0->noR o (iK l t)=true:=by
 intro l;induction l with
 | nil=>intro _ t _; rfl
 | cons p l ih=>
  obtain ⟨k,v⟩:=p;intro h t ht;simp only [amN,aei,al4] at h;unfold iK;simp only [look];cases hb:Nat.beq k t with
  | true=>
   have:=adU hb;subst this;rcases h.1 with h1 | h1
   ·exact absurd (adU h1) ht
   exact h1
  | false=>exact ih h.2 t ht
theorem amQ:∀ {l:lD},amO o l=true->∀o' cs,hget l o'=some (.box cs)->agh o cs=true:=by
 intro l;induction l with
 | nil=>intro _ o' cs h; cases h
 | cons p l ih=>
  obtain ⟨k,x⟩:=p;intro h o' cs hg;simp only [amO,aei] at h;unfold hget at hg;simp only [look] at hg;cases hb:Nat.beq k o' with
  | true=>
   rw [hb] at hg;cases x with
   | none=>cases hg
   | some y=>
    simp only at hg;cases hg;exact h.1
  | false=>
   rw [hb] at hg;exact ih h.2 o' cs hg
theorem fB.ajm {w:World} {I:Nat->Prop} {O O':OM} {D:Nat->Prop} (hO:∀o',o'≠o->O' o'=O o') {v:AV} {x:Value} (h:fB w I O D v x):noR o v=true->fB w I O' D v x:=by
 have ne:∀ {o':Nat},(!Nat.beq o' o)=true->o'≠o:=λ hn e=>by subst e; simp at hn
 induction h with
 | pure h=>exact λ _=>.pure h
 | ptr ho hp hi=>exact λ hn=>.ptr ((hO _ (ne hn)).trans ho) hp hi
 | dR ho hi hcap hfull hpl hext=>exact λ hn=>.dR ((hO _ (ne hn)).trans ho) hi hcap hfull hpl hext
 | mref ho hp=>exact λ hn=>.mref ((hO _ (ne hn)).trans ho) hp
 | BS ho hd h1=>exact λ hn=>.BS ((hO _ (ne hn)).trans ho) hd h1
 | BU ho hd h1=>exact λ hn=>.BU ((hO _ (ne hn)).trans ho) hd h1
 | yB ho hd h1=>exact λ hn=>.yB ((hO _ (ne hn)).trans ho) hd h1
 | agg hl hr ih=>exact λ hn=>.agg hl λ j hj=>ih j hj (Vm hn)
 | fn hl hr ih=>exact λ hn=>.fn hl λ j hj=>ih j hj (Vm hn)
 | jX hl hr ih=>exact λ hn=>.jX hl λ j hj=>ih j hj (Vm hn)
section
variable {P:Program} {cfg:yx} {N:Nat} {cx:Ctx}
def ajn (o es n:Nat) (g:Nat->AV) (u:AV) (H:lD):lD:=(o,some (.row es (n+1) (appG n g (λ _=>u))))::H
def aqx (t0 o n:Nat) (T:List (Nat×AV)):List (Nat×AV):=(t0,.dR o 0 n true)::T
theorem aie {m:Nat} {s:St} {a:Act} {w:World} {I:Nat->Prop} {O:OM} (hS:jK cfg N m cx s a w I O) {t0 n es:Nat} {g:Nat->AV} {u:AV} (hn:0<n) (hm:m<=o)
  (hT:iK s.tmps t0=.dR o 0 n false) (hH:hget s.heap o=some (.row es n g)) (hu:u.cells.length=es) (hu1:∀j,j<es->nth u.cells j=.undef) (hnT:amN o t0 s.tmps=true) (hnH:amO o s.heap=true):
  jK cfg N m cx ⟨aqx t0 o n s.tmps,s.heap,s.nx⟩ a w I O∨∃O',jK cfg N m cx ⟨s.tmps,ajn o es n g u s.heap,s.nx⟩ a w I O':=by
 obtain ⟨p,hp,rY⟩:=hS.rel.live hH;have hr:=hS.tmps.rep t0 rfl;rw [hT] at hr;obtain ⟨aa,cap,hxv,h2,hcap,hfl,hpl⟩:=hr.qh hp;by_cases hc:cap=n
 ·refine .inl ⟨hS.m,hS.rel,⟨rfl,hS.tmps.size,λ t _=>?_,λ t h=>by cases h⟩,hS.marks⟩;show fB w I O _ (iK ((t0,.dR o 0 n true)::s.tmps) t) _;rw [oO];by_cases ht:t=t0
  ·subst ht;rw [Oz];generalize a.tmps.getD t Go.undef=x at hr hxv ⊢;subst hxv;cases hr with
   | pure h=>cases h
   | dR ho h1 h2 h3 h4 h5=>exact .dR ho h1 h2 (λ _=>hc) h4 h5
   | yB ho=>rw [hp] at ho; cases ho
  rw [upd_ne _ _ _ _ (by simpa using λ e:t0=t=>ht e.symm)];exact hS.tmps.rep t rfl
 refine .inr ?_;have hcap1:n+1<=cap:=by omega
 obtain ⟨hpn,hes,hcl,hd⟩:=rY;obtain ⟨b,bo,sz,hpb,hal,hle,hcs⟩:∃b bo sz,p.pl=some (b,bo,sz)∧yC w b bo sz∧bo+n*es<=sz∧∀i j,i<n->j<es->iP w I (nth (g i).cells j) (cellAt w b (bo+(i*es+j)))∧(cellAt w b (bo+(i*es+j))).oneCell'=true:=by
  rcases hd with h | h
  ·omega
  exact h
 obtain ⟨b',pO,sz',atS,haa,hroom⟩:=hpl om;rw [hpb] at atS;cases atS;simp only [ahi] at hroom;rw [hes] at hroom;have hroom1:bo+(n+1)*es<=sz:=afQ (Nat.add_le_add_left (afh _ hcap1) _) hroom;let O':OM:=λ o'=>if o'=o then some ⟨p.es,n+1,p.pl⟩ else O o'
 have hO':∀o',o'≠o->O' o'=O o':=λ o' h=>if_neg h;have hOo:O' o=some ⟨p.es,n+1,p.pl⟩:=if_pos rfl;have back:∀ {o' p'},O' o'=some p'->∃q,O o'=some q∧q.pl=p'.pl:=λ {o' p'} h=>by
  by_cases e:o'=o
  ·subst e; rw [hOo] at h; cases h; exact ⟨p,hp,rfl⟩
  rw [hO' _ e] at h; exact ⟨p',h,rfl⟩
 have hHg:∀o',hget (ajn o es n g u s.heap) o'=if o'=o then some (.row es (n+1) (appG n g (λ _=>u))) else hget s.heap o':=λ o'=>by
  unfold ajn hget;simp only [look];cases hb:Nat.beq o o' with
  | true=>have:=adU hb; subst this; simp
  | false=>
   have:o'≠o:=λ e=>by subst e; simp at hb
   rw [if_neg this]
 have hR:=hS.rel;refine ⟨O',hS.m,?_,⟨rfl,hS.tmps.size,λ t _=>?_,λ t h=>by cases h⟩,hS.marks⟩
 ·constructor
  ·intro o';rw [hHg];by_cases e:o'=o
   ·subst e; rw [hOo,if_pos rfl]; simp
   rw [hO' _ e,if_neg e]; exact hR.dom o'
  ·intro o' p' h;obtain ⟨q,hq,_⟩:=back h;exact hR.used o' q hq
  ·intro o' ob p' h1 h2;show je w I O' _ p' ob;rw [hHg] at h1;by_cases e:o'=o
   ·subst e;rw [if_pos rfl] at h1;cases h1;rw [hOo] at h2;cases h2;have gi:∀i,i<n->appG n g (λ _=>u) i=g i:=λ i hi=>by
     have:Nat.blt i n=true:=by simpa using hi
     simp [appG,this]
    have gn:appG n g (λ _=>u) n=u:=by
     have:Nat.blt n n=false:=by
      cases hb:Nat.blt n n with
      | false=>rfl
      | true=>exact absurd (show n<n by simp at hb) (Nat.lt_irrefl n)
     simp [appG,this]
    refine ⟨rfl,hes,λ i hi=>?_,.inr ⟨b,bo,sz,hpb,hal,hroom1,λ i j hi hj=>?_⟩⟩
    ·by_cases hin:i<n
     ·rw [gi i hin]; exact hcl i hin
     have:i=n:=by omega
     subst this;rw [gn]; exact hu
    by_cases hin:i<n
    ·rw [gi i hin]; exact hcs i j hin hj
    have:i=n:=by omega
    subst this;rw [gn,hu1 j hj];refine ⟨.undef _,hal.one _ om ?_⟩;rw [alq,avI] at hroom1;omega
   rw [if_neg e] at h1;rw [hO' _ e] at h2;have rY:=hR.objs o' ob p' h1 h2;cases ob with
   | box cs=>
    obtain ⟨q1,b,bo,sz,q2,q3,q4,q5⟩:=rY;have hnb:=amQ hnH o' cs h1;exact ⟨q1,b,bo,sz,q2,q3,q4,λ j hj=>(q5 j hj).ajm hO' (Vm hnb)⟩
   | row es n g=>exact rY
   | map kd z f=>exact rY
  ·intro o1 o2 p1 p2 b1 UZ U0 b2 bo2 sz2 h1 h2 h3 h4 hne;obtain ⟨q1,a1,a2⟩:=back h1;obtain ⟨q2,a3,a4⟩:=back h2;exact hR.inj o1 o2 q1 q2 b1 UZ U0 b2 bo2 sz2 a1 a3 (a2.trans h3) (a4.trans h4) hne
  ·intro o1 p1 b1 UZ U0 h1 h3;obtain ⟨q1,a1,a2⟩:=back h1;exact hR.qO o1 q1 b1 UZ U0 a1 (a2.trans h3)
  ·intro o1 p1 b1 UZ U0 h1 h3;obtain ⟨q1,a1,a2⟩:=back h1;exact hR.lt o1 q1 b1 UZ U0 a1 (a2.trans h3)
  ·exact hR.CV
  ·exact hR.size
  ·exact hR.frame
  ·intro o1 p1 b1 UZ U0 h1 h3;obtain ⟨q1,a1,a2⟩:=back h1;exact hR.new o1 q1 b1 UZ U0 a1 (a2.trans h3)
  ·exact hR.glob
  ·exact hR.UY
  ·exact hR.W9
  ·intro o' ho';have hm':=hS.m;rw [hO' _ om];exact hR.ZY o' ho'
  ·exact hR.Dm
  exact hR.env
 show fB w I O' _ (iK s.tmps t) _;by_cases ht:t=t0
 ·subst ht;rw [hT,hxv];exact .dR hOo (by simp) hcap (λ h=>by cases h) (λ h=>⟨b,bo,sz,hpb,haa,by simp only [ahi]; rw [hes]; exact hroom⟩) (by simpa using hcap1)
 exact (hS.tmps.rep t rfl).ajm hO' (amP hnT t ht)
end
end Go.Ab
namespace Go.Ab
def both {R:Type} [DecidableEq R] (x y:M R):M R:=bnd x λ a=>bnd y λ b=>need (a=b) (ret a)
theorem agi {R:Type} [DecidableEq R] {x y:M R} {r:R} (h:both x y r):x r∧y r:=by
 obtain ⟨a,h1,b,h2,h3,h4⟩:=h;have h4:r=a:=h4;subst h4;subst h3;exact ⟨h1,h2⟩
def aqy {E R:Type} (l:List E) (k:E->M R):M R:=match l with
 | [x]=>k x
 | _=>.bot
theorem akE {E R:Type} {l:List E} {k:E->M R} {r:R} (h:aqy l k r):∃x,l=[x]∧k x r:=by
 match l,h with
 | [x],h=>exact ⟨x,rfl,h⟩
 | [],h=>exact h.elim
 | _::_::_,h=>exact h.elim
theorem arK {α:Type} {f:α->AV} {d:α} {x:α} {u:AV}:∀i,i<2->Le (cpG (0+1) 1 (appG 1 (bF f d [x]) (λ _=>u)) (rP 0 (appG 1 (bF f d [x]) (λ _=>u))) i) (bF f d [x,x] i)
 | 0,_=>.refl _
 | 1,_=>.refl _
 | _+2,h=>absurd h om
section
variable {P:Program} {cfg:yx} {N:Nat}
theorem amR (hc:iL P cfg) {rr:Option Nat} {m:Nat} {ct:azt} {x y:Code} {s:St} {K:Exit->St->Prop} (amH:jk N x=true) (akB:jk N y=true) {σ E R:Type} (k:σ->M R) (r:R) (st:σ->St)
  (kA kB:σ->E->M R) (stA stB:σ->E->St) (o t0 es:Nat) (u:AV) (hm:m<=o) (hu:u.cells.length=es) (hu1:∀j,j<es->nth u.cells j=.undef)
  (hk:∀g,k g r->∃e f,kA g e r∧kB g e r∧iK (st g).tmps t0=.dR o 0 1 false∧hget (st g).heap o=some (.row es 1 f)∧amN o t0 (st g).tmps=true∧amO o (st g).heap=true∧
    RH m [] [o] ⟨aqx t0 o 1 (st g).tmps,(st g).heap,(st g).nx⟩ (stA g e)∧RH m [] [] ⟨(st g).tmps,ajn o es 1 f u (st g).heap,(st g).nx⟩ (stB g e))
  (h1:lF cfg (Spec P cfg) ct (Loops P cfg N rr m) x s (λ e s'=>match e with | .normal=>∃x' ρ os,k x' r∧RH m ρ os s' (st x') | e=>K e s'))
  (hA:∀g e,kA g e r->lF cfg (Spec P cfg) ct (Loops P cfg N rr m) y (stA g e) K) (hB:∀g e,kB g e r->lF cfg (Spec P cfg) ct (Loops P cfg N rr m) y (stB g e) K):Loops P cfg N rr m (.seq x y) s K:=by
 refine ⟨sU ((jA hc x s _ amH h1).mono ?_)⟩;intro e s' h;cases e with
 | normal=>
  obtain ⟨x',ρ,os,h3,h4⟩:=h;exact λ n0 cx a w I O hS hrd=>by
   obtain ⟨I',O',h'⟩:=AL hS h4;obtain ⟨e,f,q1,q2,q3,q4,q5,q6,q7,q8⟩:=hk x' h3;rcases aie h' (Nat.zero_lt_one) hm q3 q4 hu hu1 q5 q6 with h5 | ⟨O2,h5⟩
   ·obtain ⟨I3,O3,h6⟩:=AL h5 q7;exact jA hc y (stA x' e) K akB (hA x' e q1) n0 cx a w I3 O3 h6 hrd
   obtain ⟨I3,O3,h6⟩:=AL h5 q8;exact jA hc y (stB x' e) K akB (hB x' e q2) n0 cx a w I3 O3 h6 hrd
 | _=>exact h
end
end Go.Ab

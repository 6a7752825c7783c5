/- A part of the proof. -/
import Derived.Test.YtccjmcmolnbiiaaGreatDoorA2
import Derived.RangeFuncLeaves
import Derived.RangeFuncNested
import Derived.LoopNIn
import Derived.Laws.Cover3
set_option linter.defProp false
set_option linter.unusedVariables false
set_option linter.unusedSimpArgs false
namespace Go.Ab
section
variable {P:Program} {cfg:y9} {cx:Ctx} {N:Nat}
def oH (ρ:List (Nat×Option Nat)) (H':lK) (O:OM):OM:=λ o'=>match hget H' o' with
 | none=>none
 | some y=>match uL ρ o' with
  | some o=>O o
  | none=>match y with
   | .row es _ _=>some ⟨es,0,none⟩
   | .box _=>none
   | .map .. => none
variable {H:lK}
def ac4 {o:Nat}:aac H o=true↔∃x,hget H o=some x:=by
 unfold aac;cases hget H o with
 | none=>simp
 | some x=>simp
def IY {α:Type}:∀(l:List (Nat×α)) (k:Nat) (x:α),look l k=some x->(k,x)∈l:=by
 intro l;induction l with
 | nil=>intro k x h;cases h
 | cons p l ih=>
  intro k x h;obtain⟨k',y⟩:=p;simp only[look]at h;cases hb:Nat.beq k' k with
  | true=>simp only[hb]at h;cases h;rw[Nat.eq_of_beq_eq_true hb];simp
  | false=>simp only[hb]at h;exact List.mem_cons_of_mem _ (ih k x h)
def El {o:Nat} {x:eD} (h:hget H o=some x):look H o=some (some x):=by
 unfold hget at h;split at h
 ·rename_i y hy;cases h;exact hy
 cases h
variable {ρ:List (Nat×Option Nat)} {H':lK}
theorem ai0:∀(l:lK),alx ρ H' H l->∀o' y,(o',some y)∈l->
  (match uL ρ o' with
  | some o=>∃x,hget H o=some x/\afb ρ H' x y
  | none=>∃es g,y=.row es 0 g):=by
 intro l;induction l with
 | nil=>intro _ o' y h;cases h
 | cons p l ih=>
  intro h o' y hm;obtain⟨k,z⟩:=p;cases z with
  | none=>
   rcases List.mem_cons.1 hm with e | e
   ·cases e
   exact ih h o' y e
  | some z=>
   obtain⟨h1,h2⟩:=h;rcases List.mem_cons.1 hm with e | e
   ·cases e;split
    ·rename_i o ho;rw[ho]at h1;simp only at h1;split at h1
     ·rename_i x hx;exact⟨x,hx,h1⟩
     exact h1.elim
    rename_i ho;rw[ho]at h1;simp only at h1;split at h1
    ·rename_i es n g;subst h1;exact⟨es,g,rfl⟩
    exact h1.elim
   exact ih h2 o' y e
structure aoB (ρ:List (Nat×Option Nat)) (H' H:lK):Prop where
 ren:∀o' y o,hget H' o'=some y->uL ρ o'=some o->∃x,hget H o=some x
 ghost:∀o' y,hget H' o'=some y->uL ρ o'=none->∃es g,y=.row es 0 g
structure aoC (ρ:List (Nat×Option Nat)) (H' H:lK):Prop where
 ren:∀o' y o,hget H' o'=some y->uL ρ o'=some o->∃x,hget H o=some x/\afb ρ H' x y
 ghost:∀o' y,hget H' o'=some y->uL ρ o'=none->∃es g,y=.row es 0 g
def ai1 (h:alx ρ H' H H'):aoC ρ H' H where
 ren:=λ o' y o hy ho=>by
  have:=ai0 H' h o' y (IY _ _ _ (El hy));rw[ho]at this;exact this
 ghost:=λ o' y hy ho=>by
  have:=ai0 H' h o' y (IY _ _ _ (El hy));rw[ho]at this;exact this
def aoC.x (h:aoC ρ H' H):aoB ρ H' H where
 ren:=λ o' y o h1 h2=>let⟨x,h3,_⟩:=h.ren o' y o h1 h2;⟨x,h3⟩
 ghost:=h.ghost
def WJ:∀(f:Nat) (l m:aiA),nG.Uq ρ H' f l m->l.length=m.length/\∀j,j<m.length->∃f',f'<f/\nG ρ H' f' (nth l j) (nth m j):=by
 intro f;induction f with
 | zero=>intro l m h;exact absurd h (by simp[nG.Uq])
 | succ f ih=>
  intro l m h;cases l with
  | nil=>cases m with
   | nil=>exact⟨rfl,λ j hj=>by cases hj⟩
   | cons v m=>exact absurd h (by simp[nG.Uq])
  | cons u l=>cases m with
   | nil=>exact absurd h (by simp[nG.Uq])
   | cons v m=>
    simp only[nG.Uq]at h
    obtain⟨h1,h2⟩:=ih l m h.2
    refine⟨by simp[h1],λ j hj=>?_⟩
    cases j with
    | zero=>exact⟨f,Nat.lt_succ_self _,h.1⟩
    | succ j=>
     obtain⟨f',h3,h4⟩:=h2 j (by simpa using hj)
     exact⟨f',by omega,h4⟩
theorem UH {w:World} {I:Nat->Prop} {O:OM} {D D':Nat->Prop} (hd:∀o,O o=none↔hget H o=none) (hW:aoB ρ H' H):
  ∀(f:Nat) (u v:AV) (x:Value),fC w I O D u x->nG ρ H' f u v->fC w I (oH ρ H' O) D' v x:=by
 have live:∀o' o,aac H' o'=true->uL ρ o'=some o->∃p,O o=some p/\oH ρ H' O o'=some p:=by
  intro o' o h1 h2;obtain⟨y,hy⟩:=ac4.1 h1;obtain⟨z,hz⟩:=hW.ren o' y o hy h2;cases ho:O o with
  | none=>rw[(hd o).1 ho]at hz;cases hz
  | some p=>exact⟨p,rfl,by unfold oH;rw[hy,h2];exact ho⟩
 intro f;induction f using Nat.strongRecOn with
 | ind f ih=>
  intro u v x hr he;cases f with
  | zero=>exact absurd he (by simp[nG])
  | succ f=>
   have many:∀(cs cs':aiA) (vs:Array Value),vs.size=cs.length->(∀j,j<cs.length->fC w I O D (nth cs j) (vs.getD j Go.undef))->nG.Uq ρ H' f cs cs'->
     vs.size=cs'.length/\∀j,j<cs'.length->fC w I (oH ρ H' O) D' (nth cs' j) (vs.getD j Go.undef):=by
    intro cs cs' vs h1 h2 h3
    obtain⟨h4,h5⟩:=WJ f cs cs' h3
    refine⟨by omega,λ j hj=>?_⟩
    obtain⟨f',h6,h7⟩:=h5 j hj
    exact ih f' om _ _ _ (h2 j om) h7
   cases v with
   | undef=>exact .pure (.undef x)
   | bool b'=>
    cases u<;>simp only[nG]at he;subst he;rw[hr.l8];exact .pure (.bool _)
   | int k n=>
    cases u<;>simp only[nG]at he;obtain⟨rfl,rfl⟩:=he;rw[hr.iZ];exact .pure (.int _ _)
   | str s=>
    cases u<;>simp only[nG]at he;subst he;rw[hr.Dq];exact .pure (.str _)
   | FT=>
    cases u<;>simp only[nG]at he;cases hr with | pure h=>exact .pure h
   | ro cs=>
    cases u<;>simp only[nG]at he;exact(Le.roL he).rep (.pure hr.aai)
   | sl es' n' f' g'=>
    cases u<;>simp only[nG]at he;rename_i es n fu g;obtain⟨h0,h1,h2,h3⟩:=he;exact(Le.sl h0 h1 h2 h3).rep (.pure hr.BQ)
   | ptr o' i' off'=>
    cases u<;>simp only[nG]at he;rename_i o i off;obtain⟨h1,h2,rfl,rfl⟩:=he;obtain⟨p,hp,hp'⟩:=live o' o h1 h2;obtain⟨b,bo,sz,h3,h4,rfl⟩:=hr.pF hp;exact .ptr hp' h3 h4
   | eO o' i' n' f'=>
    cases u<;>simp only[nG]at he
    ·rename_i es n fu g;obtain⟨h1,atB,rfl,rfl,rfl,rfl⟩:=he;obtain⟨y,hy⟩:=ac4.1 h1;obtain⟨es',g',rfl⟩:=hW.ghost o' y hy atB;have hp:oH ρ H' O o'=some ⟨es',0,none⟩:=by unfold oH;rw[hy,atB]
     cases hr.BQ with
     | sl b off vs hcap hfull ha hes hm hone hrr=>
      have hc:=hfull rfl;exact .eO hp (Nat.le_refl _) hcap (λ _=>hc) (λ h=>absurd hc h) (Nat.zero_le _)
    rename_i o i n fu;obtain⟨h1,h2,rfl,rfl,h3⟩:=he;obtain⟨p,hp,hp'⟩:=live o' o h1 h2;obtain⟨a,cap,rfl,h4,h5,h6,h7⟩:=hr.nH hp;exact .eO hp' h4 h5 (λ h=>h6 (h3 h)) h7 (hr.Gb hp)
   | mref o'=>
    cases u<;>simp only[nG]at he;rename_i o;obtain⟨h1,h2⟩:=he;obtain⟨p,hp,hp'⟩:=live o' o h1 h2;obtain⟨b,bo,sz,h3,rfl⟩:=hr.aaj hp;exact .mref hp' h3
   | agg cs'=>
    cases u<;>simp only[nG]at he;obtain⟨vs,rfl,h1,h2⟩:=hr.xq;obtain⟨h3,h4⟩:=many _ cs' vs h1 h2 he;exact .agg h3 h4
   | kP cs'=>
    cases u<;>simp only[nG]at he;obtain⟨vs,rfl,h1,h2⟩:=hr.Kr;obtain⟨h3,h4⟩:=many _ cs' vs h1 h2 he;exact .kP h3 h4
   | fn g cs'=>
    cases u<;>simp only[nG]at he;obtain⟨rfl,he⟩:=he;obtain⟨vs,rfl,h1,h2⟩:=hr.NY;obtain⟨h3,h4⟩:=many _ cs' vs h1 h2 he;exact .fn h3 h4
variable {I:Nat->Prop}
theorem aoD {w:World} {O:OM} {D D':Nat->Prop} (hd:∀o,O o=none↔hget H o=none) (hW:aoC ρ H' H) {x y:eD} {p:Own} (h:jm w I O D p x) (he:afb ρ H' x y):
  jm w I (oH ρ H' O) D' p y:=by
 cases x with
 | box cs=>
  cases y with
  | row es n g=>exact he.elim
  | map kd z f=>exact he.elim
  | box cs'=>
   obtain⟨h1,b,bo,sz,hp,ha,hl,hr⟩:=h;obtain⟨h2,h3⟩:=WJ _ cs cs' he;refine⟨h1,b,bo,sz,hp,ha,by omega,λ j hj=>?_⟩;obtain⟨f',_,h4⟩:=h3 j hj;exact UH hd hW.x f' _ _ _ (hr j om) h4
 | row es n g=>
  cases y with
  | box cs'=>exact he.elim
  | map kd z f=>exact he.elim
  | row es' n' g'=>
   have hO:jm w I (oH ρ H' O) D' p (.row es n g):=by
    obtain⟨h1,h2,h3,h4⟩:=h;refine⟨h1,h2,h3,?_⟩;rcases h4 with h4 | ⟨b,bo,sz,hp,ha,hl,hr⟩
    ·exact .inl h4
    exact .inr ⟨b,bo,sz,hp,ha,hl,hr⟩
   exact LeO.rep (x:=.row es n g) (y:=.row es' n' g') he hO
 | map kd z f=>
  cases y with
  | box cs'=>exact he.elim
  | row es n g=>exact he.elim
  | map kd' z' f'=>
   obtain⟨rfl,rfl,rfl⟩:=he;exact h
def afM {m nx:Nat} :∀(H:lK),SQ m nx ρ H=true->∀p∈H,p.1<nx/\(p.1<m->uL ρ p.1=some p.1):=by
 intro H;induction H with
 | nil=>intro _ p h;cases h
 | cons q H ih=>
  intro h p hp;obtain⟨o',z⟩:=q;unfold SQ at h;cases h1:Nat.blt o' nx with
  | false=>simp[h1]at h
  | true=>
   simp only[h1]at h;have hlt:o'<nx:=by simpa using h1
   have rest:SQ m nx ρ H=true/\(o'<m->uL ρ o'=some o'):=by
    split at h
    ·rename_i o ho;split at h
     ·rename_i hb;have:=Nat.eq_of_beq_eq_true hb;subst this;exact⟨h,λ _=>ho⟩
     split at h
     ·rename_i hle;have hle':=Nat.le_of_ble_eq_true hle;exact⟨h,λ hlt=>by omega⟩
     cases h
    split at h
    ·rename_i hle;have hle':=Nat.le_of_ble_eq_true hle;exact⟨h,λ hlt=>by omega⟩
    cases h
   rcases List.mem_cons.1 hp with e | e
   ·subst e;exact⟨hlt,rest.2⟩
   exact ih rest.1 p e
def afN:∀(H:lK) (o' o:Nat) (y:eD),(o',some y)∈H->uL ρ o'=some o->o∈aad ρ H:=by
 intro H;induction H with
 | nil=>intro o' o y h;cases h
 | cons q H ih=>
  intro o' o y h hr;obtain⟨k,z⟩:=q;rcases List.mem_cons.1 h with e | e
  ·cases e;simp only[aad,hr];simp
  have:=ih o' o y e hr;cases z with
  | none=>exact this
  | some z=>
   simp only[aad];split
   ·exact List.mem_cons_of_mem _ this
   exact this
def al8:∀(H:lK),pz (aad ρ H)=true->∀o1 o2 o y1 y2,(o1,some y1)∈H->(o2,some y2)∈H->uL ρ o1=some o->uL ρ o2=some o->o1=o2:=by
 intro H;induction H with
 | nil=>intro _ o1 o2 o y1 y2 h;cases h
 | cons q H ih=>
  intro hnd o1 o2 o y1 y2 h1 h2 hr1 hr2;obtain⟨k,z⟩:=q;have tail:pz (aad ρ H)=true/\∀y,z=some y->∀o,uL ρ k=some o->o ∉ aad ρ H:=by
   cases z with
   | none=>exact⟨hnd,λ y h=>by cases h⟩
   | some z=>
    simp only[aad]at hnd;split at hnd
    ·rename_i oo hoo;unfold pz at hnd;split at hnd
     ·cases hnd
     rename_i hm;refine⟨hnd,λ y _ o ho=>?_⟩;rw[hoo]at ho;cases ho;exact zF hm
    rename_i hnone;exact⟨hnd,λ y _ o ho=>by rw[hnone]at ho;cases ho⟩
  rcases List.mem_cons.1 h1 with e1 | e1<;>rcases List.mem_cons.1 h2 with e2 | e2
  ·cases e1;cases e2;rfl
  ·cases e1;exact absurd (afN H o2 o y2 e2 hr2) (tail.2 _ rfl o hr1)
  ·cases e2;exact absurd (afN H o1 o y1 e1 hr1) (tail.2 _ rfl o hr2)
  exact ih tail.1 o1 o2 o y1 y2 e1 e2 hr1 hr2
def al9 {T:List (Nat×AV)}:∀(l:List (Nat×AV)),aqv ρ H' T l->∀t,iY l t=.undef\/nG ρ H' fuel (iY T t) (iY l t):=by
 intro l;induction l with
 | nil=>intro _ t;exact .inl rfl
 | cons p l ih=>
  intro h t;obtain⟨k,v⟩:=p;obtain⟨h1,h2⟩:=h;unfold iY;simp only[look];cases hb:Nat.beq k t with
  | true=>
   have:=Nat.eq_of_beq_eq_true hb;subst this;exact .inr h1
  | false=>exact ih h2 t
def IZ {m:Nat} {s s':St} {a:Act} {w:World} {O:OM} (hS:jV cfg N m cx s a w I O) (h:Emb m ρ s s'):jV cfg N m cx s' a w I (oH ρ s'.heap O):=by
 obtain⟨ahQ,htm,hhp⟩:=h;obtain⟨hm,hR,hT,hMk⟩:=hS;have hW:=ai1 hhp;unfold ahi at ahQ;split at ahQ
 ·rename_i hk hnd hun;have hle:m<=s'.nx:=Nat.le_of_ble_eq_true ahQ;have hkeys:=afM _ hk;have inv:∀o' p,oH ρ s'.heap O o'=some p->∃y,hget s'.heap o'=some y/\((∃o,uL ρ o'=some o/\O o=some p)\/p.pl=none):=by
   intro o' p hp;unfold oH at hp;split at hp
   ·cases hp
   rename_i y hy;refine⟨y,hy,?_⟩;split at hp
   ·rename_i o ho;exact .inl ⟨o,ho,hp⟩
   split at hp
   ·cases hp;exact .inr rfl
   ·cases hp
   cases hp
  refine⟨hm,⟨?_,?_,?_,?_,?_,?_,hR.BP,hR.size,hR.frame,?_,hR.glob,hR.Us,hR.XU,?_,?_,hR.env,λ o' kd z f p b bo sz q1 q2 q3=>?_⟩,⟨rfl,hT.size,λ t _=>?_,λ t h=>by cases h⟩,hMk⟩
  ·intro o';constructor
   ·intro h;cases hy:hget s'.heap o' with
    | none=>rfl
    | some y=>
     exfalso;unfold oH at h;rw[hy]at h;simp only at h;split at h
     ·rename_i o ho;obtain⟨x,hx,_⟩:=hW.ren o' y o hy ho;rw[(hR.dom o).1 h]at hx;cases hx
     rename_i ho;obtain⟨es,g,rfl⟩:=hW.ghost o' y hy ho;cases h
   intro h;unfold oH;rw[h]
  ·intro o' p hp;obtain⟨y,hy,_⟩:=inv o' p hp;exact(hkeys _ (IY _ _ _ (El hy))).1
  ·intro o' y p hy hp;unfold oH at hp;rw[hy]at hp;simp only at hp;split at hp
   ·rename_i o ho;obtain⟨x,hx,he⟩:=hW.ren o' y o hy ho;exact aoD hR.dom hW (hR.objs o x p hx hp) he
   rename_i ho;obtain⟨es,g,rfl⟩:=hW.ghost o' y hy ho;cases hp;exact⟨rfl,rfl,λ i hi=>absurd hi (Nat.not_lt_zero i),.inl ⟨rfl,rfl⟩⟩
  ·intro o1 o2 p1 p2 b bo sz b' qy sz' h1 h2 hp1 hp2 hne;obtain⟨y1,hy1,e1⟩:=inv o1 p1 h1;obtain⟨y2,hy2,e2⟩:=inv o2 p2 h2;rcases e1 with⟨q1,hr1,ho1⟩ | e1
   ·rcases e2 with⟨q2,hr2,ho2⟩ | e2
    ·refine hR.inj q1 q2 p1 p2 b bo sz b' qy sz' ho1 ho2 hp1 hp2 λ e=>?_;subst e;exact hne (al8 _ hnd o1 o2 q1 y1 y2 (IY _ _ _ (El hy1)) (IY _ _ _ (El hy2)) hr1 hr2)
    rw[e2]at hp2;cases hp2
   rw[e1]at hp1;cases hp1
  ·intro o p b bo sz h hp;obtain⟨y,hy,⟨q,hr,ho⟩ | e⟩:=inv o p h
   ·exact hR.qz q p b bo sz ho hp
   rw[e]at hp;cases hp
  ·intro o p b bo sz h hp;obtain⟨y,hy,⟨q,hr,ho⟩ | e⟩:=inv o p h
   ·exact hR.lt q p b bo sz ho hp
   rw[e]at hp;cases hp
  ·intro o p b bo sz h hp;obtain⟨y,hy,⟨q,hr,ho⟩ | e⟩:=inv o p h
   ·exact hR.new q p b bo sz ho hp
   rw[e]at hp;cases hp
  ·intro o hlt;rw[hm]at hlt;cases hy:hget s'.heap o with
   | none=>exact .inr (by unfold oH;rw[hy])
   | some y=>
    have:=(hkeys _ (IY _ _ _ (El hy))).2 hlt;have e:oH ρ s'.heap O o=O o:=by unfold oH;rw[hy,this]
    rw[e];exact hR.O0O o (by rw[hm];exact hlt)
  ·intro o hlt;rw[hm]at hlt;exact Nat.lt_of_lt_of_le hlt hle
  ·obtain⟨y,hy,⟨q,hr,ho⟩ | e⟩:=inv o' p q2
   ·obtain⟨x,hx,hxe⟩:=hW.ren o' _ q q1 hr;cases x with
    | box=>exact hxe.elim
    | row=>exact hxe.elim
    | map kd' z' f'=>exact hR.maps q kd' z' f' p b bo sz hx ho q3
   rw[e]at q3;cases q3
  rcases al9 _ htm t with e | e
  ·rw[e];exact .pure (.undef _)
  exact UH hR.dom hW.x _ _ _ _ (hT.rep t rfl) e
 cases ahQ
end
end Go.Ab
namespace Go.Ab
section
variable {P:Program} {cfg:y9} {N:Nat} {cx:Ctx}
structure tH (w' w:World):Prop where
 cell:∀a v,w.cell? a=some v->w'.cell? a=some v
 frozen:∀a,(w.cell? a).isSome=true->w'.frozen? a=w.frozen? a
 size:w.heap.size<=w'.heap.size
 maps:∀(b:Nat) (es:Array MapEntry) (c:Nat),w.heap[b]? = some (Obj.map es c)->w'.heap[b]? = some (Obj.map es c)
variable {w:World} {w':World} {I:Nat->Prop}
def iH.turn (h:tH w' w) {v:AV} {x:Value} (hp:iH w I v x):iH w' I v x:=by
 induction hp with
 | undef x=>exact .undef x
 | bool b=>exact .bool b
 | int k n=>exact .int k n
 | str s=>exact .str s
 | FT=>exact .FT
 | sl b off vs hcap hfull ha hes hm h1 hr ih=>exact .sl b off vs hcap hfull ha hes (λ i j hi hj=>h.cell _ _ (hm i j hi hj)) h1 ih
 | ro b off vs hI hm hr ih=>exact .ro b off vs hI (λ j hj=>h.cell _ _ (hm j hj)) ih
 | agg hl hr ih=>exact .agg hl ih
 | fn hl hr ih=>exact .fn hl ih
 | kP hl hr ih=>exact .kP hl ih
variable {D:Nat->Prop}
def fC.turn (h:tH w' w) {O:OM} {v:AV} {x:Value} (hp:fC w I O D v x):fC w' I O D v x:=by
 induction hp with
 | pure hp=>exact .pure (hp.turn h)
 | ptr ho hp hi=>exact .ptr ho hp hi
 | eO ho hi hcap hfull hpl hext=>exact .eO ho hi hcap hfull hpl hext
 | Et ho hd h1=>exact .Et ho hd h1
 | CK ho hd h1=>exact .CK ho hd h1
 | mref ho hp=>exact .mref ho hp
 | Ur ho hd h1=>exact .Ur ho hd h1
 | agg hl hr ih=>exact .agg hl ih
 | fn hl hr ih=>exact .fn hl ih
 | kP hl hr ih=>exact .kP hl ih
def jm.turn (h:tH w' w) {O:OM} {p:Own} {x:eD} (hp:jm w I O D p x):jm w' I O D p x:=by
 have hal:∀b sz,NU w b sz->NU w' b sz:=λ b sz ha j hj=>by
  obtain⟨h1,h2⟩:=ha j hj;obtain⟨v,hv⟩:=Option.isSome_iff_exists.1 h1;rw[h.cell _ _ hv,h.frozen _ h1];exact⟨rfl,h2⟩
 have hca:∀b sz j,NU w b sz->j<sz->cellAt w' b j=cellAt w b j:=λ b sz j ha hj=>by
  obtain⟨v,hv⟩:=Option.isSome_iff_exists.1 (ha j hj).1;unfold cellAt;rw[h.cell _ _ hv,hv]
 cases x with
 | box cs=>
  obtain⟨h1,b,bo,sz,h2,h3,h4,h5⟩:=hp;exact⟨h1,b,bo,sz,h2,hal b sz h3,h4,λ j hj=>by rw[hca b sz _ h3 om];exact(h5 j hj).turn h⟩
 | row es n g=>
  obtain⟨h1,h2,h3,h4⟩:=hp;refine⟨h1,h2,h3,h4.imp id ?_⟩;rintro ⟨b,bo,sz,q1,q2,q3,q4⟩;exact⟨b,bo,sz,q1,hal b sz q2,q3,λ i j hi hj=>by
   have hlt:i*es+j<n*es:=by
    have:(i+1)*es<=n*es:=Nat.mul_le_mul_right _ hi;rw[Nat.add_mul]at this;omega
   rw[hca b sz _ q2 om];exact⟨(q4 i j hi hj).1.turn h,(q4 i j hi hj).2⟩⟩
 | map kd z f=>
  obtain⟨h1,b,bo,sz,es,clock,q1,q2,q3⟩:=hp;exact⟨h1,b,bo,sz,es,clock,q1,h.maps b es clock q2,q3⟩
def Rel.turn {H:Nat->Option eD} {O:OM} (h:tH w' w) (hfr:∀b,b<cx.w0.heap.size->w'.heap[b]? = w.heap[b]?) (he:II cx w') (hR:Rel cfg cx H D w I O):Rel cfg cx H D w' I O where
 dom:=hR.dom
 used:=hR.used
 objs:=λ o ob p h1 h2=>(hR.objs o ob p h1 h2).turn h
 inj:=hR.inj
 qz:=hR.qz
 lt:=λ o p b bo sz h1 h2=>Nat.lt_of_lt_of_le (hR.lt o p b bo sz h1 h2) h.size
 BP:=λ b hb=>Nat.lt_of_lt_of_le (hR.BP b hb) h.size
 size:=Nat.le_trans hR.size h.size
 frame:=λ b h1 h2=>by rw[hfr b h1];exact hR.frame b h1 h2
 new:=hR.new
 glob:=λ g cs hg=>(hR.glob g cs hg).turn h
 Us:=hR.Us
 XU:=hR.XU
 O0O:=hR.O0O
 Dm:=hR.Dm
 maps:=hR.maps
 env:=he
def jV.turn {m:Nat} {s:St} {a a':Act} {O:OM} (h:tH w' w) (hfr:∀b,b<cx.w0.heap.size->w'.heap[b]? = w.heap[b]?) (he:II cx w') (ha:a'.tmps=a.tmps) (hm:Marks cx w' a'.defers) (hS:jV cfg N m cx s a w I O):jV cfg N m cx s a' w' I O:=
 ⟨hS.m,hS.rel.turn h hfr he,⟨rfl,by rw[ha];exact hS.tmps.size,λ t ht=>by rw[ha];exact(hS.tmps.rep t ht).turn h,λ t ht=>by cases ht⟩,hm⟩
def H6 {D:Nat} {o o':Obj} (h:w.heap[D]? = some o) (ho:QA o=true) (hnm:∀es c,o≠.map es c:=by intro _ _ h;cases h):tH (w.putObj D o') w:=by
 have hlt:D<w.heap.size:=by
  rcases Nat.lt_or_ge D w.heap.size with h1 | h1
  ·exact h1
  rw[Array.getElem?_eq_none h1]at h;cases h
 have hno:∀a:Addr,a.block=D->w.cell? a=none:=λ a e=>by
  unfold World.cell?;rw[e,h];cases o<;>first | rfl | exact absurd ho Bool.false_ne_true
 refine⟨λ a v hv=>?_,λ a hv=>?_,by simp[World.putObj],λ b es c hb=>?_⟩
 ·by_cases e:a.block=D
  ·rw[hno a e]at hv;cases hv
  unfold World.cell? at hv ⊢;rw[World.putObj_heap_other e];exact hv
 ·by_cases e:a.block=D
  ·rw[hno a e]at hv;cases hv
  unfold World.frozen?;rw[World.putObj_heap_other e]
 by_cases e:b=D
 ·subst e;rw[h]at hb;exact absurd (Option.some.inj hb) (hnm es c)
 rw[World.putObj_heap_other e];exact hb
def aoE {D:Nat} {o':Obj} (hD:cx.w0.heap.size<=D) (hK:∀k o,¬ cx.K k o) (he:II cx w):II cx (w.putObj D o'):=by
 refine⟨⟨he.same.os,he.same.tape,he.same.output,λ k o hk ho=>?_⟩,λ k o h=>absurd h (hK k o)⟩;have hlt:k<cx.w0.heap.size:=by
  rcases Nat.lt_or_ge k cx.w0.heap.size with h1 | h1
  ·exact h1
  rw[Array.getElem?_eq_none h1]at hk;cases hk
 rw[World.putObj_heap_other om];exact he.same.keep k o hk ho
theorem Dt {F:Fence} {n m:Nat} {fn:Func} {s:St} {R:Ending->World->Prop} (hK:∀k o,¬ cx.K k o)
  (fin:∀(a:Act) (w:World) (I:Nat->Prop) (O:OM),jV cfg N m cx s a w I O->∃v,(results fn a.tmps).run P w=.ok v w/\R (.returned v) w):
  ∀(ms:ahb) (tmps:Array Value) (w:World) (I:Nat->Prop) (O:OM),ms.Nodup->(∀D∈ms,cx.w0.heap.size<=D/\w.heap[D]? = some (.deferred (some [])))->jV cfg N m cx s ⟨tmps,[]⟩ w I O->LeavesInM F n P fn tmps R (ms.map aaz) .returning w:=by
 intro ms;induction ms with
 | nil=>
  intro tmps w I O _ _ hS;exact fin _ w I O hS
 | cons D ms ih=>
  intro tmps w I O hnd hms hS;obtain⟨hD1,hD2⟩:=hms D (List.mem_cons_self ..);rw[List.nodup_cons]at hnd;refine⟨nofun,.inl ⟨D,w.putObj D (.deferred none),rfl,run_takeDeferred hD2,?_⟩⟩;refine ih tmps _ I O hnd.2 (λ D' hD'=>?_) ?_
  ·have hne:D'≠D:=λ e=>hnd.1 (e ▸ hD');rw[World.putObj_heap_other hne];exact hms D' (List.mem_cons_of_mem _ hD')
  exact hS.turn (H6 hD2 rfl) (λ b hb=>World.putObj_heap_other om) (aoE hD1 hK hS.rel.env) rfl ⟨[],List.nodup_nil,λ _=>rfl,rfl,λ _ h=>by cases h⟩
end
end Go.Ab
namespace Go.Ab
section
variable {P:Program} {cfg:y9} {cx:Ctx} {N:Nat}
def afO (tmps:Array Value):ResultVar->Sem Value
 | .tmp t=>pure (tmps.getD t undef)
 | .cell a t=>do loadVar t (<- asAddr (tmps.getD a undef))
variable {w:World} {I:Nat->Prop}
theorem afP (hc:iI P cfg) {m:Nat} {s:St} {a:Act} {O:OM} (hS:jV cfg N m cx s a w I O):∀(rs:List ResultVar) (vs:aiA),Lp cfg s rs=some vs->
  ∃xs:akS,(rs.mapM (afO a.tmps)).run P w=.ok xs w/\xs.length=vs.length/\∀j,j<vs.length->fC w I O (λ o=>o<s.nx) (nth vs j) (xs.getD j Go.undef):=by
 intro rs;induction rs with
 | nil=>intro vs h;cases h;exact⟨[],by simp,rfl,λ j hj=>by cases hj⟩
 | cons q rs ih=>
  intro vs h;cases q with
  | tmp t=>
   simp only[Lp]at h;split at h
   ·rename_i vs' hvs;cases h;obtain⟨xs,h1,h2,h3⟩:=ih vs' hvs;refine⟨a.tmps.getD t Go.undef::xs,?_,by simp[h2],λ j hj=>?_⟩
    ·rw[List.mapM_cons];simp[afO,h1]
    cases j with
    | zero=>exact hS.tmps.rep t rfl
    | succ j=>exact h3 j (by simpa using hj)
   cases h
  | cell ad ty=>
   simp only[Lp]at h;split at h
   ·rename_i vs' o ti hvs had hty;have key:∀(cs:aiA) (b bo sz:Nat),a.tmps.getD ad Go.undef=.pointer (some ⟨b,bo,none⟩)->NU w b sz->bo+cs.length<=sz->(∀j,j<cs.length->fC w I O (λ o=>o<s.nx) (nth cs j) (cellAt w b (bo+j)))->
      ∀v,fZ (λ _ _ _ _ _=>True) (hget s.heap) (BN ti cs) v [] []->∃xs:akS,((ResultVar.cell ad ty::rs).mapM (afO a.tmps)).run P w=.ok xs w/\xs.length=(v::vs').length/\∀j,j<(v::vs').length->fC w I O (λ o=>o<s.nx) (nth (v::vs') j) (xs.getD j Go.undef):=by
     intro cs b bo sz hgd hal hle hcs v hv
     obtain⟨xs,h1,h2,h3⟩:=ih vs' hvs
     obtain⟨_,x,hrun,hx⟩:=rQ (w:=w) (I:=I) (O:=O) (D:=λ o=>o<s.nx) hc hty hv b bo (λ j=>cellAt w b (bo+j)) (λ j hj=>wu hal om) (λ j hj=>hcs j hj)
     have hrun':(loadVar ty ⟨b,bo,none⟩).run P w=.ok x w:=by
      have:=hrun
      simp[Instr.loadAt,Instr.sureAddr]at this
      exact this
     refine⟨x::xs,?_,by simp[h2],λ j hj=>?_⟩
     ·rw[List.mapM_cons,Sem.run_bind]
      have e:(afO a.tmps (.cell ad ty)).run P w=.ok x w:=by
       unfold afO
       simp only
       rw[hgd]
       simp[asAddr,hrun']
      rw[e]
      simp[h1]
     cases j with
     | zero=>exact hx
     | succ j=>exact h3 j (by simpa using hj)
    have hrep:=hS.tmps.rep ad rfl;rw[had]at hrep;split at h
    ·rename_i cs nW;obtain⟨p,hp,hO⟩:=hS.rel.live nW;obtain⟨b,bo,sz,hpl,hi,hxv⟩:=hrep.pF hp;obtain⟨hn,b',qy,sz',hpl',hal,hle,hcs⟩:=hO;rw[hpl]at hpl';cases hpl';simp only[Nat.zero_mul,Nat.add_zero]at hxv;have key:=key cs b bo sz hxv hal hle hcs;split at h
     ·rename_i hag;split at h
      ·rename_i hsz;cases h;refine key _ ?_;unfold BN;rw[hag];simp only[gT,hsz];exact .ret _ _
      cases h
     rename_i hag;split at h
     ·cases h;refine key _ ?_;unfold BN;rw[hag];exact .ret _ _
     cases h
    ·rename_i es n g nW;obtain⟨p,hp,hO⟩:=hS.rel.live nW;obtain⟨b,bo,sz,hpl,hi,hxv⟩:=hrep.pF hp;obtain⟨hn,hes,hlen,hpl' | ⟨b',qy,sz',hpl',hal,hle,hcs⟩⟩:=hO
     ·rw[hpl]at hpl';cases hpl'.2
     rw[hpl]at hpl';cases hpl';simp only[Nat.zero_mul,Nat.add_zero]at hxv;obtain⟨hrl,hrr⟩:=Uv hlen hcs;have key:=key (ji n 0 g) b bo sz hxv hal om (λ j hj=>.pure (hrr j hj));split at h
     ·rename_i hag;split at h
      ·rename_i hsz;cases h;refine key _ ?_;unfold BN;rw[hag];simp only[gT,hsz];exact .ret _ _
      cases h
     cases h
    cases h
   cases h
theorem X7 (hc:iI P cfg) {m:Nat} {s:St} {a:Act} {O:OM} (hS:jV cfg N m cx s a w I O) {fn:Func} {vs:aiA} (h:Lp cfg s fn.results.toList=some vs):
  ∃x,(results fn a.tmps).run P w=.ok x w/\fC w I O (λ o=>o<s.nx) (oneOf vs) x:=by
 obtain⟨xs,h1,h2,h3⟩:=afP hc hS _ _ h;have hrun:(results fn a.tmps).run P w=.ok (if h:xs.toArray.size=1 then xs.toArray[0]else .tuple xs.toArray) w:=by
  have e0:results fn a.tmps=(fn.results.mapM (afO a.tmps)) >>= λ vs=>pure (if h:vs.size=1 then vs[0]else .tuple vs):=by
   unfold results;congr 1
  have e2:fn.results.mapM (afO a.tmps)=Functor.map List.toArray (fn.results.toList.mapM (afO a.tmps)):=by
   rw[<- List.mapM_toArray]
  rw[e0,Sem.run_bind,e2,Sem.run_map,h1];rfl
 refine⟨_,hrun,?_⟩;match xs,vs,h2,h3 with
 | [],[],_,_=>exact .kP rfl λ j hj=>by cases hj
 | [x],[v],_,h3=>exact h3 0 (by simp)
 | x::x'::xs,v::v'::vs,h2,h3=>
  have:¬ (x::x'::xs).toArray.size=1:=by simp
  rw[dif_neg this]
  exact .kP (by simpa using h2) λ j hj=>by simpa using h3 j hj
def afQ:∀(obs:ajN) (i o:Nat),hget (Kq.pE obs i) o=if i<=o then hof obs (o - i)else none:=by
 intro obs;induction obs with
 | nil=>intro i o;simp[Kq.pE,hget,look,hof]
 | cons x l ih=>
  intro i o;unfold Kq.pE hget;simp only[look];cases hb:Nat.beq i o with
  | true=>
   have:=Nat.eq_of_beq_eq_true hb;subst this;simp[hof]
  | false=>
   have hne:i≠o:=λ e=>by subst e;simp at hb
   have:=ih (i+1) o;unfold hget at this;simp only;rw[this];by_cases hi:i<=o
   ·rw[if_pos hi,if_pos om,show o - i=(o - (i+1))+1 by omega];rfl
   rw[if_neg hi,if_neg om]
def Kz (obs:ajN):hget (Kq.pE obs 0)=hof obs:=by
 funext o;rw[afQ];simp
def aaA:∀(l:aiA) (i t:Nat),iY (Lr l i) t=if i<=t then nth l (t - i)else .undef:=by
 intro l;induction l with
 | nil=>intro i t;simp[Lr,iY,look,nth]
 | cons v l ih=>
  intro i t;unfold Lr iY;simp only[look];cases hb:Nat.beq i t with
  | true=>
   have:=Nat.eq_of_beq_eq_true hb;subst this;simp[nth]
  | false=>
   have hne:i≠t:=λ e=>by subst e;simp at hb
   have:=ih (i+1) t;unfold iY at this;simp only;rw[this];by_cases hi:i<=t
   ·rw[if_pos hi,if_pos om,show t - i=(t - (i+1))+1 by omega];rfl
   rw[if_neg hi,if_neg om]
def akg:∀(n i:Nat),(upTo n i).length=n/\∀j,j<n->iG (upTo n i) j=i+j:=by
 intro n;induction n with
 | zero=>intro i;exact⟨rfl,λ j hj=>by cases hj⟩
 | succ n ih=>
  intro i;obtain⟨h1,h2⟩:=ih (i+1);refine⟨by simp[upTo,h1],λ j hj=>?_⟩;cases j with
  | zero=>rfl
  | succ j=>show iG (upTo n (i+1)) j=_;rw[h2 j om];omega
def ab9 (l m:ahb) (j:Nat) (h:j<l.length):iG (l++m) j=iG l j:=by
 induction l generalizing j with
 | nil=>cases h
 | cons x l ih=>cases j with
  | zero=>rfl
  | succ j=>exact ih j (by simpa using h)
def afR {H:lK}:∀(sg:ahb) (obs:ajN),aae H sg obs->obs.length=sg.length/\∀j,j<sg.length->∃x y,hget H (iG sg j)=some x/\hof obs j=some y/\Zo x=true/\afb [] [] x y:=by
 intro sg;induction sg with
 | nil=>intro obs h;cases obs with
  | nil=>exact⟨rfl,λ j hj=>by cases hj⟩
  | cons=>exact h.elim
 | cons o sg ih=>intro obs h;cases obs with
  | nil=>exact h.elim
  | cons y obs=>
   obtain⟨h1,h2⟩:=h
   obtain⟨h3,h4⟩:=ih obs h2
   refine⟨by simp[h3],λ j hj=>?_⟩
   cases j with
   | zero=>
    split at h1
    ·rename_i x hx
     split at h1
     ·rename_i hp;exact⟨x,y,hx,rfl,hp,h1⟩
     exact h1.elim
    exact h1.elim
   | succ j=>exact h4 j (by simpa using hj)
def ama:aoB [] [] [] where
 ren:=λ _ _ _ h=>by cases h
 ghost:=λ _ _ h=>by cases h
def jm.aqP {I':Nat->Prop} {O O':OM} {D D':Nat->Prop} {p:Own} {x y:eD} (hI:∀b,I b->I' b) (h:jm w I O D p x) (hp:Zo x=true) (he:afb [] [] x y):jm w I' O' D' p y:=by
 cases x with
 | box cs=>
  cases y with
  | row es n g=>exact he.elim
  | map kd z f=>exact he.elim
  | box cs'=>
   obtain⟨h1,b,bo,sz,hpl,ha,hl,hr⟩:=h;obtain⟨h2,h3⟩:=WJ _ cs cs' he;refine⟨h1,b,bo,sz,hpl,ha,by omega,λ j hj=>?_⟩;obtain⟨f',_,h4⟩:=h3 j hj;have hx:=(hr j om).AZ (ab5 hp j om);have hy:fC w I (oH [] [] λ _=>none) (λ _=>False) (nth cs' j) (cellAt w b (bo+j)):=UH (H:=[]) (O:=λ _=>none) (D:=λ _=>False) (λ o=>by simp[hget,look]) ama f' _ _ _ (.pure hx) h4;have e:(oH [] [] λ _=>none)=(λ _=>none:OM):=by funext o;simp[oH,hget,look]
   rw[e]at hy;exact .pure ((Gc hy).mono hI λ _ _=>rfl)
 | row es n g=>
  cases y with
  | box cs'=>exact he.elim
  | map kd z f=>exact he.elim
  | row es' n' g'=>
   have hO:jm w I' O' D' p (.row es n g):=by
    obtain⟨h1,h2,h3,h4⟩:=h;refine⟨h1,h2,h3,?_⟩;rcases h4 with h4 | ⟨b,bo,sz,hp,ha,hl,hr⟩
    ·exact .inl h4
    exact .inr ⟨b,bo,sz,hp,ha,hl,λ i j hi hj=>⟨(hr i j hi hj).1.mono hI λ _ _=>rfl,(hr i j hi hj).2⟩⟩
   exact LeO.rep (x:=.row es n g) (y:=.row es' n' g') he hO
 | map kd z f=>cases hp
variable {obs:ajN}
theorem Rel.home {H:Nat->Option eD} {D:Nat->Prop} {O:OM} (hR:Rel cfg cx H D w I O) {ex ids:ahb} (hnd:pz (upTo cx.m 0++ex)=true) (hdj:NP ids (upTo cx.m 0++ex)=true) (hl:obs.length=(upTo cx.m 0++ex).length)
  (Yw:∀j,j<(upTo cx.m 0++ex).length->∃x y,H (iG (upTo cx.m 0++ex) j)=some x/\hof obs j=some y/\Zo x=true/\afb [] [] x y):
  Rel cfg cx (hof obs) (λ o=>o<obs.length) w (λ b=>I b\/FQ O ids b) (qB O (upTo cx.m 0++ex))/\∀o,o<cx.m->qB O (upTo cx.m 0++ex) o=cx.O0 o:=by
 have hup:=akg cx.m 0;have aqQ:∀j,j<cx.m->j<(upTo cx.m 0++ex).length/\iG (upTo cx.m 0++ex) j=j:=λ j hj=>by
  refine⟨by simp[hup.1];omega,?_⟩;rw[ab9 _ _ _ (by rw[hup.1];exact hj),hup.2 j hj];simp
 generalize hsg:upTo cx.m 0++ex=sg at hnd hdj hl Yw aqQ;have hsub:∀ {j p},qB O sg j=some p->j<sg.length/\O (iG sg j)=some p:=λ h=>by
  unfold qB at h;split at h
  ·exact⟨by assumption,h⟩
  cases h
 have hO0:∀o,o<cx.m->qB O sg o=cx.O0 o:=λ o ho=>by
  obtain⟨h1,h2⟩:=aqQ o ho;obtain⟨x,y,h3,_⟩:=Yw o h1;rw[h2]at h3;unfold qB;rw[if_pos h1,h2];rcases hR.O0O o ho with e | e
  ·exact e
  rw[(hR.dom o).1 e]at h3;cases h3
 refine⟨?_,hO0⟩;exact {
  maps:=λ j kd z f p b bo sz h h' _=>by
   obtain⟨h1,_⟩:=hsub h'
   obtain⟨x,y,_,h4,h5,h6⟩:=Yw j h1
   rw[h]at h4
   cases h4
   cases x with
   | map=>cases h5
   | box=>exact h6.elim
   | row=>exact h6.elim
  dom:=λ j=>by
   unfold qB
   by_cases hj:j<sg.length
   ·obtain⟨x,y,h1,h2,_⟩:=Yw j hj
    obtain⟨p,hp,_⟩:=hR.live h1
    simp[hj,h2,hp]
   rw[if_neg hj,UC obs j om]
   simp
  used:=λ j p h=>by have:=(hsub h).1;omega
  objs:=λ j ob p h h'=>by
   obtain⟨h1,h2⟩:=hsub h'
   obtain⟨x,y,h3,h4,h5,h6⟩:=Yw j h1
   rw[h]at h4
   cases h4
   exact(hR.objs _ _ p h3 h2).aqP (λ _ h=>.inl h) h5 h6
  inj:=λ j j' p p' b bo sz b' qy sz' h1 h2 h3 h4 h5=>by
   obtain⟨q1,q2⟩:=hsub h1
   obtain⟨q3,q4⟩:=hsub h2
   exact hR.inj _ _ p p' b bo sz b' qy sz' q2 q4 h3 h4 (λ e=>h5 (Kv sg hnd j j' q1 q3 e))
  qz:=λ j p b bo sz h1 h2 h3=>by
   obtain⟨q1,q2⟩:=hsub h1
   rcases h3 with h3 | ⟨o',p',qy,sz',q3,q4,q5⟩
   ·exact hR.qz _ p b bo sz q2 h2 h3
   exact hR.inj _ o' p p' b bo sz b qy sz' q2 q4 h2 q5 (λ e=>SV ids sg hdj o' q3 (e ▸ rR sg j q1)) rfl
  lt:=λ j p b bo sz h1 h2=>hR.lt _ p b bo sz (hsub h1).2 h2
  BP:=(hR.freeze ids).BP
  size:=hR.size
  frame:=hR.frame
  env:=hR.env
  new:=λ j p b bo sz h1 h2=>hR.new _ p b bo sz (hsub h1).2 h2
  glob:=(hR.freeze ids).glob
  Us:=λ b h=>.inl (hR.Us b h)
  XU:=(hR.freeze ids).XU
  O0O:=λ o ho=>.inl (hO0 o ho)
  Dm:=λ o ho=>by have:=(aqQ o ho).1;omega }
theorem ad3 (hc:iI P cfg) {f:FuncId} {fn:Func} {c:Code} {args:aiA} {obs:ajN} {r:AV} {gy:ajN} (hf:P.funcs[f]? = some fn) (hb:fn.body=some c) (hnm:(fn.name == "runtime.NumGoroutine")=false)
  (hN:args.length<=fn.ntmps) (hle:obs.length<=gy.length)
  (h:Good P cfg fn.ntmps none obs.length c ⟨Lr args 0,Kq.pE obs 0,obs.length⟩ (Kq cfg (Spec P cfg) fn.results.toList obs.length r gy)):Spec P cfg f args obs r gy:=by
 refine⟨⟨fn,hf,by rw[hb];rfl,hnm⟩,hle,λ w I O vals hR hvs hrep=>?_⟩;refine(callsIn_wide (n:=0)).1 (callsIn_of_wp_marks hf hb trivial ?_);have hS:jV cfg fn.ntmps obs.length (Nk w I O obs.length) ⟨Lr args 0,Kq.pE obs 0,obs.length⟩ { tmps:=vals++Array.replicate (fn.ntmps - vals.size) undef,defers:=[] } w I O:=by
  refine⟨rfl,?_,⟨rfl,by simp;omega,λ t _=>?_,λ t h=>by cases h⟩,⟨[],List.nodup_nil,λ _=>rfl,rfl,λ _ h=>by cases h⟩⟩
  ·rw[Kz];exact hR
  rw[aaA];simp only[Nat.zero_le,if_true,Nat.sub_zero];by_cases ht:t<args.length
  ·have e:(vals++Array.replicate (fn.ntmps - vals.size) undef).getD t Go.undef=vals.getD t Go.undef:=by
    have:t<vals.size:=by omega
    simp[Array.getElem?_append_left this]
   rw[e];exact hrep t ht
  have e:nth args t=.undef:=by
   rw[vM];simp[List.getElem?_eq_none (Nat.le_of_not_lt ht)]
  rw[e];exact .pure (.undef _)
 refine wpIn_mono (h 0 _ _ w I O hS rfl) ?_;intro e a0 w0 ⟨s,I0,O0,hK,hS0⟩;have main:∀(a':Act) (w':World) (I':Nat->Prop) (O':OM),jV cfg fn.ntmps obs.length (Nk w I O obs.length) s a' w' I' O'->(∃vs,Lp cfg s fn.results.toList=some vs/\ev (Spec P cfg) [] (hget s.heap) (Qy (upTo obs.length 0++adL obs.length r (oneOf vs)) (oneOf vs) λ v' ids=>gT (pz (upTo obs.length 0++adL obs.length r (oneOf vs))) (gT (NP ids (upTo obs.length 0++adL obs.length r (oneOf vs))) (kD v'))) []
   λ v' _ _=>nG [] (Kq.pE gy 0) fuel v' r/\aae s.heap (upTo obs.length 0++adL obs.length r (oneOf vs)) gy)->∃v,(results fn a'.tmps).run P w'=.ok v w'/\∃x I'' O'',Ending.returned v=.returned x/\Rel cfg (Nk w I O obs.length) (FV gy) (λ o=>o<gy.length) w' I'' O''/\
   fC w' I'' O'' (λ o=>o<gy.length) r x:=by
  rintro a' w' I' O' hS' ⟨vs,hvs,hev⟩
  obtain⟨x,hrun,hx⟩:=X7 hc hS' hvs
  refine⟨x,hrun,x,?_⟩
  obtain⟨v',ups,AU,⟨h1,h2⟩,_,h3⟩:=Zw _ _ _ _ _ hev
  obtain⟨rr,h4,_⟩:=h3 (λ q hq=>by cases hq)
  obtain⟨h5,h6⟩:=afR _ _ h2
  obtain⟨u',ids,r',h7,h8⟩:=RP hS'.rel (λ j hj=>let⟨x,y,h9,_⟩:=h6 j hj;⟨x,h9⟩) h4
  obtain⟨hnd,h7⟩:=h7.dh
  obtain⟨hdj,h7⟩:=h7.dh
  obtain⟨rfl,_⟩:=h7.fQ
  obtain⟨h10,h11⟩:=Rel.home hS'.rel hnd hdj h5 h6
  have hgn:FV gy=hof gy:=aod λ j y hy=>by
   have hj:j<(upTo obs.length 0++adL obs.length r (oneOf vs)).length:=by
    rcases Nat.lt_or_ge j gy.length with h | h
    ·omega
    rw[UC _ _ h]at hy;cases hy
   obtain⟨q,y',_,q2,q3,q4⟩:=h6 j hj
   rw[hy]at q2
   cases q2
   cases y with
   | map=>cases q<;>first | exact q4.elim | cases q3
   | _=>rfl
  refine⟨_,_,rfl,by rw[hgn];exact h10,?_⟩
  have hdom:=h10.dom
  rw[<- Kz gy]at hdom
  have hX:aoB [] (Kq.pE gy 0) (Kq.pE gy 0):=⟨λ o' y o hy ho=>by cases ho;exact⟨y,hy⟩,λ o' y hy ho=>by cases ho⟩
  have:=UH (D':=λ o=>o<gy.length) hdom hX fuel _ _ x (h8 x hx) h1
  have e:oH [] (Kq.pE gy 0) (qB O' (upTo obs.length 0++adL obs.length r (oneOf vs)))=qB O' (upTo obs.length 0++adL obs.length r (oneOf vs)):=by
   funext o
   unfold oH
   split
   ·rename_i hn;exact((hdom o).2 hn).symm
   rfl
  exact e ▸ this
 have hret:∀(a':Act) (w':World) (I':Nat->Prop) (O':OM),jV cfg fn.ntmps obs.length (Nk w I O obs.length) s a' w' I' O'->∀vs,Lp cfg s fn.results.toList=vs->(match vs with
   | some vs=>match oneOf vs with
    | v=>match upTo obs.length 0++adL obs.length r v with
     | sg=>ev (Spec P cfg) [] (hget s.heap) (Qy sg v λ v' ids=>gT (pz sg) (gT (NP ids sg) (kD v'))) [] λ v' _ _=>nG [] (Kq.pE gy 0) fuel v' r/\aae s.heap sg gy
   | none=>False)->∃v,(results fn a'.tmps).run P w'=.ok v w'/\∃x I'' O'',Ending.returned v=.returned x/\Rel cfg (Nk w I O obs.length) (FV gy) (λ o=>o<gy.length) w' I'' O''/\
   fC w' I'' O'' (λ o=>o<gy.length) r x:=by
  intro a' w' I' O' hS' vs hvs h
  cases vs with
  | none=>exact h.elim
  | some vs=>exact main a' w' I' O' hS' ⟨vs,hvs,h⟩
 obtain⟨ms,hnd,_,hds,hms⟩:=hS0.marks;have hS1:=jV.turn (a:=a0) (w:=w0) (a':=⟨a0.tmps,[]⟩) ⟨λ _ _ h=>h,λ _ _=>rfl,Nat.le_refl _,λ _ _ _ h=>h⟩ (λ _ _=>rfl) hS0.rel.env rfl ⟨[],List.nodup_nil,λ _=>rfl,rfl,λ _ h=>by cases h⟩ hS0;cases e with
 | normal=>
  show LeavesInM _ _ _ _ _ _ a0.defers _ _;rw[hds];exact Dt (cx:=Nk w I O obs.length) (λ _ _ h=>h) (λ a w' I' O' hS'=>hret a w' I' O' hS' _ rfl hK) ms a0.tmps w0 I0 O0 hnd hms hS1
 | ret=>
  show LeavesInM _ _ _ _ _ _ a0.defers _ _;rw[hds];exact Dt (cx:=Nk w I O obs.length) (λ _ _ h=>h) (λ a w' I' O' hS'=>hret a w' I' O' hS' _ rfl hK) ms a0.tmps w0 I0 O0 hnd hms hS1
 | exit id=>exact hK.elim
 | goto l=>exact hK.elim
 | panic ch=>exact hK.elim
 | outgrown=>exact hK.elim
def akh (hc:iI P cfg) {f:FuncId} {fn:Func} {c:Code} {ct:ahb} {args:aiA} {obs:ajN} {r:AV} {gy:ajN} (hf:P.funcs[f]? = some fn) (hb:fn.body=some c) (hnm:(fn.name == "runtime.NumGoroutine")=false)
  (hN:args.length<=fn.ntmps) (hok:jq fn.ntmps c=true) (hle:obs.length<=gy.length)
  (h:lN cfg (Spec P cfg) ct (Loops P cfg fn.ntmps none obs.length) c ⟨Lr args 0,Kq.pE obs 0,obs.length⟩ (Kq cfg (Spec P cfg) fn.results.toList obs.length r gy)):Spec P cfg f args obs r gy:=
 ad3 hc hf hb hnm hN hle (ko hc c _ _ hok h)
end
end Go.Ab
namespace Go.Ab
section
variable {P:Program} {cfg:y9} {N:Nat} {cx:Ctx}
def amb (o es:Nat) (g:Nat->AV) (v:AV):AV:=match v with
 | .eO o' i n f=>match Nat.beq o' o with
  | true=>.sl es n f (rP i g)
  | false=>.eO o' i n f
 | v=>v
def aki (o es:Nat) (g:Nat->AV):aiA->aiA
 | []=>[]
 | v::l=>amb o es g v::aki o es g l
def amc (o es:Nat) (g:Nat->AV) (v:AV):AV:=match v with
 | .agg cs=>.agg (aki o es g cs)
 | v=>amb o es g v
def afS (o es:Nat) (g:Nat->AV):aiA->aiA
 | []=>[]
 | v::l=>amc o es g v::afS o es g l
def aoF (o es:Nat) (g:Nat->AV) (v:AV):AV:=match v with
 | .kP cs=>.kP (afS o es g cs)
 | v=>amc o es g v
def UJ (o es:Nat) (g:Nat->AV) (l:aiA):(aki o es g l).length=l.length:=by
 induction l with
 | nil=>rfl
 | cons v l ih=>simp[aki,ih]
def afT (o es:Nat) (g:Nat->AV):∀(l:aiA) (j:Nat),nth (aki o es g l) j=amb o es g (nth l j):=by
 intro l;induction l with
 | nil=>intro j;rfl
 | cons v l ih=>intro j;cases j with
  | zero=>rfl
  | succ j=>exact ih j
def ac5 (o es:Nat) (g:Nat->AV) (l:aiA):(afS o es g l).length=l.length:=by
 induction l with
 | nil=>rfl
 | cons v l ih=>simp[afS,ih]
def akj (o es:Nat) (g:Nat->AV):∀(l:aiA) (j:Nat),nth (afS o es g l) j=amc o es g (nth l j):=by
 intro l;induction l with
 | nil=>intro j;rfl
 | cons v l ih=>intro j;cases j with
  | zero=>rfl
  | succ j=>exact ih j
def amd (o es:Nat) (g:Nat->AV):List (Nat×AV)->List (Nat×AV)
 | []=>[]
 | (t,v)::l=>(t,aoF o es g v)::amd o es g l
def akk (o es:Nat) (g:Nat->AV):∀(l:List (Nat×AV)) (t:Nat),iY (amd o es g l) t=aoF o es g (iY l t):=by
 intro l;induction l with
 | nil=>intro t;rfl
 | cons p l ih=>
  intro t;obtain⟨k,v⟩:=p;unfold amd iY;simp only[look];cases hb:Nat.beq k t with
  | true=>rfl
  | false=>exact ih t
variable {H:Nat->Option eD} {D:Nat->Prop} {I:Nat->Prop} {g:Nat->AV}
theorem aaB {w:World} {O:OM} (hR:Rel cfg cx H D w I O) {o es n0:Nat} (ho:H o=some (.row es n0 g)) {v:AV} {x:Value} (h:fC w I O D v x):
  fC w (λ b=>I b\/FQ O [o] b) (kill O [o]) D (amb o es g v) x:=by
 have dflt:fC w (λ b=>I b\/FQ O [o] b) (kill O [o]) D v x:=
  h.mono (λ _ h=>.inl h) (λ _ _=>rfl) (λ o' _=>by unfold kill;by_cases h0:o'∈[o]<;>simp[h0]) (λ _ h=>h) hR.used
 unfold amb;split
 ·rename_i o' i n f;split
  ·rename_i hb;have:=Nat.eq_of_beq_eq_true hb;subst this;have he:fZ (λ _ _ _ _ _=>True) H (pur 1 (.eO o' i n f) (λ u ids=>.ret u (dead ids))) (.sl es n f (rP i g)) (dead [o']) [o']:=.rd ho (.ret _ _);obtain⟨u,ids,r',h1,h2⟩:=(IL hR 1).1 _ _ _ _ _ he;have hid:u=.sl es n f (rP i g)/\dead ids=dead [o']:=by
    have:=h1.kS;exact⟨this.1.symm,this.2.symm⟩
   have avr:ids=[o']:=by
    have h3:=hid.2;match ids,h3 with
    | [],h3=>cases h3
    | [a],h3=>simp[dead]at h3;rw[h3]
    | a::b::l,h3=>simp[dead]at h3
   rw[avr]at h2;rw[<- hid.1];exact .pure (h2 x h)
  exact dflt
 exact dflt
def afU {w:World} {O:OM} (hR:Rel cfg cx H D w I O) {o es n0:Nat} (ho:H o=some (.row es n0 g)) {v:AV} {x:Value} (h:fC w I O D v x):
  fC w (λ b=>I b\/FQ O [o] b) (kill O [o]) D (amc o es g v) x:=by
 unfold amc;split
 ·obtain⟨xs,rfl,hl,hr⟩:=h.xq;refine .agg (by rw[UJ];exact hl) λ j hj=>?_;rw[UJ]at hj;rw[afT];exact aaB hR ho (hr j hj)
 exact aaB hR ho h
def aoG {w:World} {O:OM} (hR:Rel cfg cx H D w I O) {o es n0:Nat} (ho:H o=some (.row es n0 g)) {v:AV} {x:Value} (h:fC w I O D v x):
  fC w (λ b=>I b\/FQ O [o] b) (kill O [o]) D (aoF o es g v) x:=by
 unfold aoF;split
 ·obtain⟨xs,rfl,hl,hr⟩:=h.Kr;refine .kP (by rw[ac5];exact hl) λ j hj=>?_;rw[ac5]at hj;rw[akj];exact afU hR ho (hr j hj)
 exact afU hR ho h
end
end Go.Ab
namespace Go.Ab
section
variable {P:Program} {cfg:y9}
def aaC (P:Program) (cfg:y9) (N:Nat) (r:Option Nat) (m:Nat) (c:Code) (s:St) (K:Exit->St->Prop):Prop:=
 ∃e0 s0,K e0 s0/\Good P cfg N r m c s (λ e s=>e=e0/\s=s0)
structure avs (P:Program) (cfg:y9) (N:Nat) (r:Option Nat) (m:Nat) (c:Code) (s:St) (K:Exit->St->Prop):Prop where
 ok:aaC P cfg N r m c s K
def aaC.seq {N:Nat} {r:Option Nat} {m:Nat} {x y:Code} {s:St} {K:Exit->St->Prop} (h:aaC P cfg N r m x s λ e s'=>match e with | .normal=>aaC P cfg N r m y s' K | e=>K e s'):aaC P cfg N r m (.seq x y) s K:=by
 obtain⟨e1,s1,h1,h2⟩:=h;cases e1 with
 | normal=>
  obtain⟨e0,s0,h3,h4⟩:=h1;refine⟨e0,s0,h3,uN (h2.mono λ e s' h=>?_)⟩;obtain⟨rfl,rfl⟩:=h;exact h4
 | _=>
  refine⟨_,s1,h1,uN (h2.mono λ e s' h=>?_)⟩;obtain⟨rfl,rfl⟩:=h;exact⟨rfl,rfl⟩
end
end Go.Ab
namespace Go.Ab
section
variable {P:Program} {cfg:y9} {N:Nat} {cx:Ctx}
def ame (o es:Nat) (g:Nat->AV):Option eD->Option eD
 | some (.box cs)=>some (.box (aki o es g cs))
 | x=>x
def ac6 (o es:Nat) (g:Nat->AV):lK->lK
 | []=>[]
 | (k,x)::l=>(k,ame o es g x)::ac6 o es g l
def aqR (o:Nat) (s:St):St:=match hget s.heap o with
 | some (.row es _ g)=>⟨amd o es g s.tmps,(o,none)::ac6 o es g s.heap,s.nx⟩
 | _=>s
def ac7:ahb->St->St
 | [],s=>s
 | o::l,s=>ac7 l (aqR o s)
def ahS (o es:Nat) (g:Nat->AV):∀(l:lK) (k:Nat),look (ac6 o es g l) k=(look l k).map (ame o es g):=by
 intro l;induction l with
 | nil=>intro k;rfl
 | cons p l ih=>
  intro k;obtain⟨j,x⟩:=p;simp only[ac6,look];cases Nat.beq j k with
  | true=>rfl
  | false=>exact ih k
def ahT (o es:Nat) (g:Nat->AV) (l:lK) (k:Nat):hget (ac6 o es g l) k=ame o es g (hget l k):=by
 unfold hget;rw[ahS];cases look l k with
 | none=>rfl
 | some x=>cases x with
  | none=>rfl
  | some y=>cases y<;>rfl
def ahU {m:Nat} {s:St} {a:Act} {w:World} {I:Nat->Prop} {O:OM} (hS:jV cfg N m cx s a w I O) (o:Nat):∃I' O',jV cfg N m cx (aqR o s) a w I' O':=by
 unfold aqR;split
 ·rename_i es n0 g ho;obtain⟨hm,hR,hT,hMk⟩:=hS;refine⟨λ b=>I b\/FQ O [o] b,kill O [o],hm,?_,⟨rfl,hT.size,λ t ht=>?_,hT.gone⟩,hMk⟩
  ·have hF:=hR.freeze [o];have e:∀o',hget ((o,none)::ac6 o es g s.heap) o'=if o'=o then none else ame o es g (hget s.heap o'):=by
    intro o';rw[<- ahT];unfold hget;simp only[look];cases hb:Nat.beq o o' with
    | true=>have:=Nat.eq_of_beq_eq_true hb;subst this;simp
    | false=>
     have:o'≠o:=λ e=>by subst e;simp at hb
     simp[this]
   have e2:∀o',ni (hget s.heap) (dead [o]) o'=if o'=o then none else hget s.heap o':=by
    intro o';rw[IJ];by_cases h:o'=o<;>simp[h]
   refine { hF with
    dom:=λ o'=>?_
    objs:=λ o' ob p nW hp=>?_
    maps:=λ o' kd z f p b bo sz nW hp hpl=>?_ }
   ·rw[hF.dom o',e,e2];by_cases h:o'=o
    ·simp[h]
    rw[if_neg h,if_neg h];cases hget s.heap o' with
    | none=>exact Iff.rfl
    | some y=>cases y<;>simp[ame]
   ·rw[e]at nW;by_cases h:o'=o
    ·rw[if_pos h]at nW;cases nW
    rw[if_neg h]at nW;have hk:kill O [o] o'=O o':=by unfold kill;simp[h]
    rw[hk]at hp;cases hy:hget s.heap o' with
    | none=>rw[hy]at nW;cases nW
    | some y=>
     rw[hy]at nW;have h2:=hF.objs o' y p (by rw[e2,if_neg h];exact hy) (by rw[hk];exact hp);cases y with
     | row es' n' g'=>cases nW;exact h2
     | map kd z f=>cases nW;exact h2
     | box cs=>
      cases nW;obtain⟨h3,b,bo,sz,h4,h5,h6,h7⟩:=hR.objs o' (.box cs) p hy hp;refine⟨h3,b,bo,sz,h4,h5,by rw[UJ];exact h6,λ j hj=>?_⟩;rw[UJ]at hj;rw[afT];exact aaB hR ho (h7 j hj)
   rw[e]at nW;by_cases h:o'=o
   ·rw[if_pos h]at nW;cases nW
   rw[if_neg h]at nW;cases hy:hget s.heap o' with
   | none=>rw[hy]at nW;cases nW
   | some y=>
    rw[hy]at nW;cases y with
    | row=>cases nW
    | box=>cases nW
    | map kd' z' f'=>
     cases nW;exact hF.maps o' kd z f p b bo sz (by rw[e2,if_neg h];exact hy) hp hpl
  show fC w _ _ _ (iY (amd o es g s.tmps) t) _;rw[akk];exact aoG hR ho (hT.rep t ht)
 exact⟨I,O,hS⟩
def X8 {m:Nat}:∀(l:ahb) {s:St} {a:Act} {w:World} {I:Nat->Prop} {O:OM},jV cfg N m cx s a w I O->∃I' O',jV cfg N m cx (ac7 l s) a w I' O':=by
 intro l;induction l with
 | nil=>intro s a w I O h;exact⟨I,O,h⟩
 | cons o l ih=>
  intro s a w I O h;obtain⟨I',O',h'⟩:=ahU h o;exact ih h'
def Tc (m:Nat) (ρ:List (Nat×Option Nat)) (os:ahb) (s s':St):Prop:=Emb m ρ (ac7 os s) s'
def Td {m:Nat} {ρ:List (Nat×Option Nat)} {os:ahb} {s s':St} {a:Act} {w:World} {I:Nat->Prop} {O:OM} (hS:jV cfg N m cx s a w I O) (h:Tc m ρ os s s'):∃I' O',jV cfg N m cx s' a w I' O':=by
 obtain⟨I',O',h'⟩:=X8 os hS;exact⟨I',_,IZ h' h⟩
end
end Go.Ab
namespace Go.Ab
section
variable {P:Program} {cfg:y9} {N:Nat} {cx:Ctx}
theorem acd (hc:iI P cfg) {f:FuncId} {fn:Func} {c:Code} {args:aiA} {obs:ajN} {r:AV} {gy:ajN} {K:Exit->St->Prop} (hf:P.funcs[f]? = some fn) (hb:fn.body=some c) (hnm:(fn.name == "runtime.NumGoroutine")=false)
  (hN:args.length<=fn.ntmps) (hle:obs.length<=gy.length)
  (h:Good P cfg fn.ntmps none obs.length c ⟨Lr args 0,Kq.pE obs 0,obs.length⟩ K)
  (hend:∀e s,K e s->(e=.normal\/e=.ret)/\∀(cx:Ctx) (a':Act) (w':World) (I':Nat->Prop) (O':OM),cx.m=obs.length->jV cfg fn.ntmps obs.length cx s a' w' I' O'->∃v,(results fn a'.tmps).run P w'=.ok v w'/\∃I'' O'',Rel cfg cx (FV gy) (λ o=>o<gy.length) w' I'' O''/\
    fC w' I'' O'' (λ o=>o<gy.length) r v):Spec P cfg f args obs r gy:=by
 refine⟨⟨fn,hf,by rw[hb];rfl,hnm⟩,hle,λ w I O vals hR hvs hrep=>?_⟩;refine(callsIn_wide (n:=0)).1 (callsIn_of_wp_marks hf hb trivial ?_);have hS:jV cfg fn.ntmps obs.length (Nk w I O obs.length) ⟨Lr args 0,Kq.pE obs 0,obs.length⟩ { tmps:=vals++Array.replicate (fn.ntmps - vals.size) undef,defers:=[] } w I O:=by
  refine⟨rfl,?_,⟨rfl,by simp;omega,λ t _=>?_,λ t h=>by cases h⟩,⟨[],List.nodup_nil,λ _=>rfl,rfl,λ _ h=>by cases h⟩⟩
  ·rw[Kz];exact hR
  rw[aaA];simp only[Nat.zero_le,if_true,Nat.sub_zero];by_cases ht:t<args.length
  ·have e:(vals++Array.replicate (fn.ntmps - vals.size) undef).getD t Go.undef=vals.getD t Go.undef:=by
    have:t<vals.size:=by omega
    simp[Array.getElem?_append_left this]
   rw[e];exact hrep t ht
  have e:nth args t=.undef:=by
   rw[vM];simp[List.getElem?_eq_none (Nat.le_of_not_lt ht)]
  rw[e];exact .pure (.undef _)
 refine wpIn_mono (h 0 _ _ w I O hS rfl) ?_;intro e a0 w0 ⟨s,I0,O0,hK,hS0⟩;obtain⟨hex,hend⟩:=hend e s hK;have hret:∀(a':Act) (w':World) (I':Nat->Prop) (O':OM),jV cfg fn.ntmps obs.length (Nk w I O obs.length) s a' w' I' O'->∃v,(results fn a'.tmps).run P w'=.ok v w'/\∃x I'' O'',Ending.returned v=.returned x/\Rel cfg (Nk w I O obs.length) (FV gy) (λ o=>o<gy.length) w' I'' O''/\
   fC w' I'' O'' (λ o=>o<gy.length) r x:=λ a' w' I' O' hS'=>by
  obtain⟨v,h1,I'',O'',h2,h3⟩:=hend _ a' w' I' O' rfl hS'
  exact⟨v,h1,v,I'',O'',rfl,h2,h3⟩
 obtain⟨ms,hnd,_,hds,hms⟩:=hS0.marks;have hS1:=jV.turn (a:=a0) (w:=w0) (a':=⟨a0.tmps,[]⟩) ⟨λ _ _ h=>h,λ _ _=>rfl,Nat.le_refl _,λ _ _ _ h=>h⟩ (λ _ _=>rfl) hS0.rel.env rfl ⟨[],List.nodup_nil,λ _=>rfl,rfl,λ _ h=>by cases h⟩ hS0;cases e with
 | normal=>
  show LeavesInM _ _ _ _ _ _ a0.defers _ _;rw[hds];exact Dt (cx:=Nk w I O obs.length) (λ _ _ h=>h) (λ a w' I' O' hS'=>hret a w' I' O' hS') ms a0.tmps w0 I0 O0 hnd hms hS1
 | ret=>
  show LeavesInM _ _ _ _ _ _ a0.defers _ _;rw[hds];exact Dt (cx:=Nk w I O obs.length) (λ _ _ h=>h) (λ a w' I' O' hS'=>hret a w' I' O' hS') ms a0.tmps w0 I0 O0 hnd hms hS1
 | exit id=>rcases hex with h | h<;>cases h
 | goto l=>rcases hex with h | h<;>cases h
 | panic ch=>rcases hex with h | h<;>cases h
 | outgrown=>rcases hex with h | h<;>cases h
def amf (cfg:y9) (rs:List ResultVar) (m:Nat) (r:AV) (gy:ajN) (e:Exit) (s:St):Prop:=
 match (match e with | .normal=>true | .ret=>true | _=>false)with
 | true=>∃fz ρ,match ac7 fz s with
  | s'=>match Lp cfg s' rs with
   | some vs=>Emb m ρ s' ⟨[],aaf gy 0,gy.length⟩/\nG ρ (aaf gy 0) fuel (oneOf vs) r
   | none=>False
 | false=>False
def akl:∀(obs:ajN) (i o:Nat),hget (aaf obs i) o=if i<=o then FV obs (o - i)else none:=by
 intro obs;induction obs with
 | nil=>intro i o;simp[aaf,hget,look,FV]
 | cons x l ih=>
  intro i o;unfold aaf hget;simp only[look];cases hb:Nat.beq i o with
  | true=>
   have:=Nat.eq_of_beq_eq_true hb;subst this;simp only[Nat.le_refl,if_true,Nat.sub_self,FV];cases gz x<;>rfl
  | false=>
   have hne:i≠o:=λ e=>by subst e;simp at hb
   have:=ih (i+1) o;unfold hget at this;simp only;rw[this];by_cases h:i<=o
   ·rw[if_pos h,if_pos om];obtain⟨k,hk⟩:∃k,o - i=k+1:=⟨o - i - 1,by omega⟩;rw[hk,show o - (i+1)=k by omega];rfl
   rw[if_neg h,if_neg om]
def ahV (obs:ajN):hget (aaf obs 0)=FV obs:=by
 funext o;rw[akl];simp
variable {gy:ajN}
theorem amg (hc:iI P cfg) {fn:Func} {m:Nat} {r:AV} {e:Exit} {s:St} (hm:m<=gy.length) (h:amf cfg fn.results.toList m r gy e s):(e=.normal\/e=.ret)/\∀(cx:Ctx) (a':Act) (w':World) (I':Nat->Prop) (O':OM),cx.m=m->jV cfg fn.ntmps m cx s a' w' I' O'->
  ∃v,(results fn a'.tmps).run P w'=.ok v w'/\∃I'' O'',Rel cfg cx (FV gy) (λ o=>o<gy.length) w' I'' O''/\fC w' I'' O'' (λ o=>o<gy.length) r v:=by
 unfold amf at h;have he:(e=.normal\/e=.ret):=by
  cases e with
  | normal=>exact .inl rfl
  | ret=>exact .inr rfl
  | _=>exact h.elim
 refine⟨he,λ cx a' w' I' O' hcm hS=>?_⟩;have h:∃fz ρ,match ac7 fz s with
  | s'=>match Lp cfg s' fn.results.toList with
   | some vs=>Emb m ρ s' ⟨[],aaf gy 0,gy.length⟩/\nG ρ (aaf gy 0) fuel (oneOf vs) r
   | none=>False:=by
  rcases he with rfl | rfl<;>exact h
 obtain⟨fz,ρ,h⟩:=h;obtain⟨I1,O1,hS1⟩:=X8 fz hS;generalize ac7 fz s=s' at h hS1;simp only at h;cases hv:Lp cfg s' fn.results.toList with
 | none=>rw[hv]at h;exact h.elim
 | some vs=>
  rw[hv]at h;obtain⟨hE,hV⟩:=h;obtain⟨x,hrun,hx⟩:=X7 hc hS1 hv;have hS2:=IZ hS1 hE;refine⟨x,hrun,I1,oH ρ (aaf gy 0) O1,?_,?_⟩
  ·have:=hS2.rel;rw[show hget (aaf gy 0)=FV gy from ahV gy]at this;exact this
  exact UH hS1.rel.dom (ai1 hE.heap).x fuel _ _ x hx hV
def nT (hc:iI P cfg) {f:FuncId} {fn:Func} {c:Code} {ct:ahb} {args:aiA} {obs:ajN} {r:AV} {gy:ajN} (hf:P.funcs[f]? = some fn) (hb:fn.body=some c) (hnm:(fn.name == "runtime.NumGoroutine")=false)
  (hN:args.length<=fn.ntmps) (hok:jq fn.ntmps c=true) (hle:obs.length<=gy.length)
  (h:lN cfg (Spec P cfg) ct (Loops P cfg fn.ntmps none obs.length) c ⟨Lr args 0,Kq.pE obs 0,obs.length⟩ (amf cfg fn.results.toList obs.length r gy)):Spec P cfg f args obs r gy:=
 acd hc hf hb hnm hN hle (ko hc c _ _ hok h) (λ _ _ hk=>amg hc hle hk)
end
end Go.Ab
namespace Go.Ab
section
variable {P:Program} {cfg:y9}
def aqS:ZK->Value->Bool
 | .bool,.bool false=>true
 | .int k,.int k' n=>decide (k=k')&&decide (n=0)
 | .str,.string s=>s.data.isEmpty
 | .slice,.slice none 0 0=>true
 | .ptr,.pointer none=>true
 | .other,x=>x.oneCell'
 | _,_=>false
def ai2:ajY->akS->Bool
 | [],[]=>true
 | z::l,v::m=>aqS z v&&ai2 l m
 | _,_=>false
def aqT:TD->TypeDesc->Bool
 | .bool,.bool=>true
 | .int k,.int k'=>decide (k=k')
 | .str,.string=>true
 | .slice e,.slice e'=>Nat.beq e e'
 | .pointer e,.pointer e'=>Nat.beq e e'
 | .map k e,.map k' e'=>Nat.beq k k'&&Nat.beq e e'
 | .array n e,.array n' e'=>Nat.beq n n'&&Nat.beq e e'
 | .struct fs,.struct fields=>decide (fields.toList.map (λ f=>(f.offset,f.type))=fs)
 | .other,_=>true
 | _,_=>false
def fieldsB (P:Program):TypeDesc->Bool
 | .struct fields=>fields.toList.all λ f=>(P.info? f.type).isSome
 | _=>true
def ai3 (P:Program) (t:TypeId) (ti:RL):Bool:=
 match P.info? t,P.underlying t with
 | some i,some d=>match i.zero with
  | some z=>Nat.beq i.size ti.size&&Nat.beq i.bytes ti.bytes&&decide (d.isRow=ti.agg)&&Nat.beq z.cells.size ti.size&&ai2 ti.zero z.cells.toList&&aqT ti.desc d&&fieldsB P d&&(ti.agg||z.oneCell')
  | none=>false
 | _,_=>false
def ad4 (P:Program):List (Nat×RL)->Bool
 | []=>true
 | (t,ti)::l=>ai3 P t ti&&ad4 P l
def akm {z:ZK} {v:Value} (h:aqS z v=true):NW z v:=by
 unfold aqS at h;split at h
 ·rfl
 ·simp only[Bool.and_eq_true,decide_eq_true_eq]at h;obtain⟨rfl,rfl⟩:=h;rfl
 ·rename_i s;show Value.string s=.string ByteArray.empty;have:s.data=#[]:=by simpa using h
  cases s;simp only at this;rw[this];rfl
 ·rfl
 ·rfl
 ·exact h
 cases h
def ahW:∀(zs:ajY) (vs:akS),ai2 zs vs=true->zs.length=vs.length/\∀j,j<zs.length->NW (zs.getD j .other) (vs.getD j Go.undef):=by
 intro zs;induction zs with
 | nil=>intro vs h;cases vs with
  | nil=>exact⟨rfl,λ j hj=>by cases hj⟩
  | cons=>cases h
 | cons z zs ih=>intro vs h;cases vs with
  | nil=>cases h
  | cons v vs=>
   simp only[ai2,Bool.and_eq_true]at h
   obtain⟨h1,h2⟩:=ih vs h.2
   refine⟨by simp[h1],λ j hj=>?_⟩
   cases j with
   | zero=>exact akm h.1
   | succ j=>simpa using h2 j (by simpa using hj)
def akn {t:TD} {d:TypeDesc} (h:aqT t d=true):alz t d:=by
 unfold aqT at h;split at h
 ·rfl
 ·have:=of_decide_eq_true h;subst this;rfl
 ·rfl
 ·have:=Nat.eq_of_beq_eq_true h;subst this;rfl
 ·have:=Nat.eq_of_beq_eq_true h;subst this;rfl
 ·simp only[Bool.and_eq_true]at h;have h1:=Nat.eq_of_beq_eq_true h.1;have h2:=Nat.eq_of_beq_eq_true h.2;subst h1;subst h2;rfl
 ·simp only[Bool.and_eq_true]at h;have h1:=Nat.eq_of_beq_eq_true h.1;have h2:=Nat.eq_of_beq_eq_true h.2;subst h1;subst h2;rfl
 ·exact⟨_,rfl,of_decide_eq_true h⟩
 ·trivial
 cases h
def ako {z:Value} (h:z.oneCell'=true):z.cells=#[z]:=by cases z<;>first | rfl | cases h
variable {t:TypeId}
def aaD {ti:RL} (h:ai3 P t ti=true):as7 P t ti/\∀d,P.underlying t=some d->XV P d:=by
 unfold ai3 at h;split at h
 ·rename_i i d hi hd;split at h
  ·rename_i z hz;simp only[Bool.and_eq_true,decide_eq_true_eq]at h;obtain⟨⟨⟨⟨⟨⟨⟨h1,h2⟩,h3⟩,h4⟩,h5⟩,h6⟩,h7⟩,h10⟩:=h;have e1:=Nat.eq_of_beq_eq_true h1;have e2:=Nat.eq_of_beq_eq_true h2;have e4:=Nat.eq_of_beq_eq_true h4;obtain⟨h8,h9⟩:=ahW _ _ h5;have hlen:ti.zero.length=ti.size:=by rw[h8,<- e4];simp
   refine⟨⟨⟨i,d,z,hi,hd,hz,e1,e2,h3,e4,hlen,λ j hj=>?_,akn h6⟩,λ ha i' z' hi' hz'=>?_⟩,λ d' hd'=>?_⟩
   ·have:=h9 j om;simpa using this
   ·rw[hi]at hi';cases hi';rw[hz]at hz';cases hz';rw[ha]at h10;exact ako h10
   rw[hd]at hd';cases hd';cases d with
   | struct fields=>
    simp only[fieldsB,List.all_eq_true]at h7;exact h7
   | _=>trivial
  cases h
 cases h
def X9:∀(l:List (Nat×RL)),ad4 P l=true->∀t ti,look l t=some ti->ai3 P t ti=true:=by
 intro l;induction l with
 | nil=>intro _ t ti h;cases h
 | cons q l ih=>
  intro h t ti hl;obtain⟨k,tk⟩:=q;simp only[ad4,Bool.and_eq_true]at h;simp only[look]at hl;cases hb:Nat.beq k t with
  | true=>
   simp only[hb]at hl;cases hl;rw[<- Nat.eq_of_beq_eq_true hb];exact h.1
  | false=>simp only[hb]at hl;exact ih h.2 t ti hl
def amh (P:Program) (t:TypeId):Option ZK:=match P.underlying t with
 | some .bool=>some .bool
 | some (.int k)=>some (.int k)
 | some .string=>some .str
 | _=>none
def aaE (P:Program) (fl:TypeId->Option ajY):List Field->Nat->Option ajY
 | [],_=>some []
 | f::fs,k=>match decide (f.name ≠ "_")&&Nat.beq f.offset k with
  | true=>match amh P f.type with
   | some z=>match aaE P fl fs (k+1)with
    | some l=>some (z::l)
    | none=>none
   | none=>match fl f.type with
    | some z1=>match Nat.beq (P.cellsOf f.type) z1.length,aaE P fl fs (k+z1.length)with
     | true,some l=>some (z1++l)
     | _,_=>none
    | none=>none
  | false=>none
def ai4 (P:Program):Nat->TypeId->Option ajY
 | 0,_=>none
 | n+1,t=>match P.underlying t,P.stoodInHeld t with
  | some (.struct fields),false=>aaE P (ai4 P n) fields.toList 0
  | _,_=>none
def ai5 (P:Program) (t:TypeId) (zs:ajY):Bool:=decide (ai4 P 4 t=some zs)&&!P.eqGuardType P.depth t
def ad5 (P:Program):List (Nat×ajY)->Bool
 | []=>true
 | (t,zs)::l=>ai5 P t zs&&ad5 P l
def ahX {z:ZK} (h:amh P t=some z):∃d,P.underlying t=some d/\adM z d:=by
 unfold amh at h;split at h
 ·rename_i e;cases h;exact⟨_,e,rfl⟩
 ·rename_i e;cases h;exact⟨_,e,rfl⟩
 ·rename_i e;cases h;exact⟨_,e,rfl⟩
 cases h
def afV {fl:TypeId->Option ajY} {ok:TypeId->ajY->Prop} (hfl:∀t zs,fl t=some zs->ok t zs):∀(fs:List Field) (zs:ajY) (k:Nat),aaE P fl fs k=some zs->aoc P ok fs zs k:=by
 intro fs;induction fs with
 | nil=>intro zs k h;cases h;trivial
 | cons f fs ih=>
  intro zs k h;unfold aaE at h;split at h
  ·rename_i hb;simp only[Bool.and_eq_true,decide_eq_true_eq]at hb;refine⟨hb.1,Nat.eq_of_beq_eq_true hb.2,?_⟩;split at h
   ·rename_i z hz;split at h
    ·rename_i l hl;cases h;obtain⟨d,h1,h2⟩:=ahX hz;exact⟨[z],l,rfl,.inl ⟨z,d,rfl,h1,h2⟩,ih _ _ hl⟩
    cases h
   split at h
   ·rename_i z1 hz1;split at h
    ·rename_i l hs hl;cases h;exact⟨z1,l,rfl,.inr ⟨hfl _ _ hz1,Nat.eq_of_beq_eq_true hs⟩,ih _ _ hl⟩
    cases h
   cases h
  cases h
def ahY:∀(n:Nat) (t:TypeId) (zs:ajY),ai4 P n t=some zs->EqT P n t zs:=by
 intro n;induction n with
 | zero=>intro t zs h;cases h
 | succ n ih=>
  intro t zs h;unfold ai4 at h;split at h
  ·rename_i fields hu hh;exact⟨fields,hu,hh,afV ih _ _ _ h⟩
  cases h
def ahZ {zs:ajY} (h:ai5 P t zs=true):as8 P t zs:=by
 unfold ai5 at h;simp only[Bool.and_eq_true,Bool.not_eq_true',decide_eq_true_eq]at h;exact⟨ahY _ _ _ h.1,h.2⟩
def afW:∀(l:List (Nat×ajY)),ad5 P l=true->∀t zs,look l t=some zs->ai5 P t zs=true:=by
 intro l;induction l with
 | nil=>intro _ t ti h;cases h
 | cons q l ih=>
  intro h t ti hl;obtain⟨k,tk⟩:=q;simp only[ad5,Bool.and_eq_true]at h;simp only[look]at hl;cases hb:Nat.beq k t with
  | true=>
   simp only[hb]at hl;cases hl;rw[<- Nat.eq_of_beq_eq_true hb];exact h.1
  | false=>simp only[hb]at hl;exact ih h.2 t ti hl
def ami (h:ad4 P cfg.ty=true) (hm:P.follows .mixedOrders=true) (he:ad5 P cfg.eqs=true):iI P cfg where
 ty:=λ t ti hl=>(aaD (X9 _ h t ti hl)).1
 fields:=λ t ti d hl=>(aaD (X9 _ h t ti hl)).2 d
 mixed:=hm
 eqs:=λ t zs hl=>ahZ (afW _ he t zs hl)
def UK {c:Bool} {A B:Prop} (h1:c=true->A) (h2:c=false->B):Z7 c A B:=by
 cases c
 ·exact h2 rfl
 exact h1 rfl
end
end Go.Ab
namespace Go.Ab
def SN.ai6 {l m:aiA} (h1:l.length=m.length) (h2:∀j,j<l.length->Le (nth l j) (nth m j)):SN l m:=by
 induction l generalizing m with
 | nil=>cases m with
  | nil=>trivial
  | cons=>simp at h1
 | cons u l ih=>cases m with
  | nil=>simp at h1
  | cons v m=>exact⟨h2 0 (by simp),ih (by simpa using h1) λ j hj=>h2 (j+1) (by simpa using hj)⟩
variable {ρ:List (Nat×Option Nat)}
def ai7 {H':lK} {f:Nat} {u v:AV} (h:Le u v) (hp:qx v=true):nG ρ H' (f+1) u v:=by
 cases h with
 | refl=>
  cases u<;>simp only[qx]at hp<;>first
   | (cases hp;done)
   | (unfold nG;exact trivial)
   | (unfold nG;exact rfl)
   | (unfold nG;exact⟨rfl,rfl⟩)
   | (unfold nG;exact⟨rfl,λ _=>rfl,λ h=>h,λ i _=>.refl _⟩)
   | (unfold nG;exact SN.refl _)
 | sl hn he hf h=>unfold nG;exact⟨hn,he,hf,h⟩
 | ro hl h=>unfold nG;exact SN.ai6 hl h
 | agg=>cases hp
 | kP=>cases hp
 | fn=>cases hp
def aoH {H':lK}:∀(l m:aiA) (f:Nat),l.length+1<f->SN l m->zC m=true->nG.Uq ρ H' f l m:=by
 intro l;induction l with
 | nil=>
  intro m f hf h _;cases m with
  | nil=>cases f with
   | zero=>omega
   | succ f=>unfold nG.Uq;trivial
  | cons=>exact h.elim
 | cons u l ih=>
  intro m f hf h hp;cases m with
  | nil=>exact h.elim
  | cons v m=>
   cases f with
   | zero=>omega
   | succ f=>
    cases f with
    | zero=>simp at hf
    | succ f=>
     unfold zC at hp;split at hp
     ·rename_i hv;unfold nG.Uq;exact⟨ai7 h.1 hv,ih m (f+1) (by simp at hf;omega) h.2 hp⟩
     cases hp
abbrev iV (n:Int):AV:=.int .i64 n
def bT {α:Type} (f:α->AV) (d:α) (l:List α):Nat->AV:=λ i=>f (l.getD i d)
def apL (l:ag8):AV:=.sl 1 l.length false (bT iV 0 l)
def I64 (l:ag8):Prop:=∀x∈l,aC x
structure Tp where
 l:ag8
 pos:Nat
def Tp.ok (t:Tp):Prop:=I64 t.l/\t.l.length<=500/\t.pos<=t.l.length
def Tp.raw (t:Tp):Int×Tp:=if t.l.length<=t.pos then(0,t)else(t.l.getD t.pos 0,⟨t.l,t.pos+1⟩)
def avt (x n:Int):Int:=if n<1 then 0 else x % n
def Tp.n (t:Tp) (n:Int):Int×Tp:=(avt t.raw.1 n,t.raw.2)
def Tp.range (t:Tp) (lo hi:Int):Int×Tp:=(lo+(t.n (hi - lo+1)).1,(t.n (hi - lo+1)).2)
def Tp.pick (t:Tp) (l:ag8):Int×Tp:=(l.getD (t.n l.length).1.toNat 0,(t.n l.length).2)
variable {α:Type} {i:Nat}
def drop_cons {l:List α} (d:α) (h:i<l.length):l.drop i=l.getD i d::l.drop (i+1):=by
 rw[List.getD_eq_getElem?_getD,List.getElem?_eq_getElem h];exact List.drop_eq_getElem_cons h
def getD_take (l:List α) (d:α) {k:Nat} (h:i<k):(l.take k).getD i d=l.getD i d:=by
 rw[List.getD_eq_getElem?_getD,List.getD_eq_getElem?_getD,List.getElem?_take_of_lt h]
def getD_drop (l:List α) (d:α) (k i:Nat):(l.drop k).getD i d=l.getD (k+i) d:=by
 rw[List.getD_eq_getElem?_getD,List.getD_eq_getElem?_getD,List.getElem?_drop]
def iq {l:List α} (d:α) (h:i<l.length):l.take (i+1)=l.take i++[l.getD i d]:=by
 rw[List.getD_eq_getElem?_getD,List.getElem?_eq_getElem h];exact List.take_succ_eq_append_getElem h
def vN {β:Type} (f:β->α->β) (a:β) {l:List α} (d:α) (h:i<l.length):(l.take (i+1)).foldl f a=f ((l.take i).foldl f a) (l.getD i d):=by
 rw[iq d h,List.foldl_append];rfl
def jI {l:List α} (d:α) (h:i<l.length):l.getD i d∈l:=by
 rw[List.getD_eq_getElem?_getD,List.getElem?_eq_getElem h];exact List.getElem_mem _
def take_len {l:List α} (h:i<=l.length):(l.take i).length=i:=by
 rw[List.length_take,Nat.min_eq_left h]
def mI {l m:List α} (d:α) (h:i<l.length):(l++m).getD i d=l.getD i d:=by
 rw[List.getD_eq_getElem?_getD,List.getD_eq_getElem?_getD,List.getElem?_append_left h]
def lX {l:List α} {x:α} {m:List α} (d:α) (h:i=l.length):(l++x::m).getD i d=x:=by
 rw[List.getD_eq_getElem?_getD,List.getElem?_append_right om,h];simp
def aaF {l:List α} (d:α) (h:l.length<=i):l.getD i d=d:=by
 rw[List.getD_eq_getElem?_getD,List.getElem?_eq_none h];rfl
section
variable {P:Program} {cfg:y9} {N:Nat} {cx:Ctx}
def afX {r:Option Nat} {n n':Nat} {c:Code} {Q:Exit->Act->World->Prop} {a:Act} {w:World} (h:c.wpIn (FW r) n P Q a w):c.wpIn (FW r) n' P Q a w:=
 λ b k cs hro hb _=>h b k cs hro hb (λ _ hd=>by cases hd)
def QG (W:World) (I:Nat->Prop) (O:OM) (m:Nat):Ctx:=⟨W,λ b=>∃o p bo sz,O o=some p/\p.pl=some (b,bo,sz),I,O,m,λ k o=>W.heap[k]? = some o/\QA o=true,true⟩
variable {H:Nat->Option eD} {D:Nat->Prop} {W:World} {I:Nat->Prop} {m:Nat}
def Rel.enter {O:OM} (hR:Rel cfg cx H D W I O) (hno:∀o kd z f,H o≠some (.map kd z f)) (hm:∀o,o<m->D o):Rel cfg (QG W I O m) H D W I O where
 maps:=λ o kd z f _ _ _ _ h _ _=>absurd h (hno o kd z f)
 dom:=hR.dom
 used:=hR.used
 objs:=hR.objs
 inj:=hR.inj
 qz:=hR.qz
 lt:=hR.lt
 BP:=hR.BP
 size:=Nat.le_refl _
 frame:=λ _ _ _=>rfl
 new:=λ o p _ bo sz h1 h2=>.inr ⟨o,p,bo,sz,h1,h2⟩
 glob:=hR.glob
 Us:=λ _ h=>h
 XU:=λ _ h=>.inl h
 O0O:=λ _ _=>.inl rfl
 Dm:=hm
 env:=⟨iM.refl _,λ _ _ h=>h⟩
variable {H':Nat->Option eD} {D':Nat->Prop} {W':World} {I':Nat->Prop}
def Rel.back {O O':OM} (h0:Rel cfg cx H D W I O) (h1:Rel cfg (QG W I O m) H' D' W' I' O') (hm:∀o,o<cx.m->o<m):Rel cfg cx H' D' W' I' O' where
 dom:=h1.dom
 maps:=λ o kd z f p b bo sz q1 q2 q3=>by
  have h2:=(h1.maps o kd z f p b bo sz q1 q2 q3).1;refine⟨Nat.le_trans h0.size h2,λ ob hk=>?_⟩;have h3:=(h0.env.kept b ob hk).1;have h2:W.heap.size<=b:=h2;rw[Array.getElem?_eq_none h2]at h3;cases h3
 used:=h1.used
 objs:=h1.objs
 inj:=h1.inj
 qz:=h1.qz
 lt:=h1.lt
 BP:=h1.BP
 size:=Nat.le_trans h0.size h1.size
 frame:=λ b hb hM=>by
  rw[h1.frame b (Nat.lt_of_lt_of_le hb h0.size) (λ⟨o,p,bo,sz,q1,q2⟩=>by
   rcases h0.new o p b bo sz q1 q2 with h | h
   ·omega
   exact hM h)]
  exact h0.frame b hb hM
 new:=λ o p b bo sz q1 q2=>by
  rcases h1.new o p b bo sz q1 q2 with h | ⟨o',p',qy,sz',q3,q4⟩
  ·exact .inl (Nat.le_trans h0.size h)
  exact h0.new o' p' b qy sz' q3 q4
 glob:=h1.glob
 Us:=λ b h=>h1.Us b (h0.Us b h)
 XU:=λ b h=>by
  rcases h1.XU b h with h | h | ⟨o',p',qy,sz',q3,q4⟩
  ·exact h0.XU b h
  ·exact .inr (.inl (Nat.le_trans h0.size h))
  exact .inr (h0.new o' p' b qy sz' q3 q4)
 O0O:=λ o ho=>by
  rcases h1.O0O o (hm o ho)with h | h
  ·rw[h];exact h0.O0O o ho
  exact .inr h
 Dm:=λ o ho=>h1.Dm o (hm o ho)
 env:=h0.env.step h1.env.same
def Rel.ah0 {O O':OM} (h0:Rel cfg cx H D W I O) (h1:Rel cfg (QG W I O m) H' D' W' I' O') (b:Nat) (hb:I b):W'.heap[b]? = W.heap[b]? :=
 h1.frame b (h0.BP b hb) (λ⟨o,p,bo,sz,q1,q2⟩=>h0.qz o p b bo sz q1 q2 hb)
def fC.behind {O O':OM} (h0:Rel cfg cx H (λ o=>o<m) W I O) (h1:Rel cfg (QG W I O m) H' D' W' I' O') {v:AV} {x:Value} (h:fC W I O (λ o=>o<m) v x):fC W' I' O' D' v x:=
 h.mono h1.Us (h0.ah0 h1) h1.O0O h1.Dm h0.used
def Lv (w:World) (o:Obj):tH (w.alloc o) w:=by
 have hlt:∀a:Addr,(w.cell? a).isSome=true->a.block<w.heap.size:=λ a h=>by
  obtain⟨v,hv⟩:=Option.isSome_iff_exists.1 h;exact World.block_lt_of_cell? _ _ hv
 have hb:∀a:Addr,a.block<w.heap.size->(w.alloc o).heap[a.block]? = w.heap[a.block]? := λ a h=>by
  show(w.heap.push o)[a.block]? = _;rw[Array.getElem?_push_lt h,Array.getElem?_eq_getElem h]
 refine⟨λ a v hv=>?_,λ a hv=>?_,by simp,λ b es c hbb=>by
  have hlt2:b<w.heap.size:=by
   rcases Nat.lt_or_ge b w.heap.size with h1 | h1
   ·exact h1
   rw[Array.getElem?_eq_none h1]at hbb;cases hbb
  show(w.heap.push o)[b]? = _;rw[Array.getElem?_push_lt hlt2,<- hbb,Array.getElem?_eq_getElem hlt2]⟩
 ·rw[<- hv,World.cell?_of_block (hb a (hlt a (by rw[hv];rfl)))]
 exact World.frozen?_of_block (hb a (hlt a hv))
def Te:lK->Bool
 | []=>true
 | (_,x)::l=>match x with
  | some (.map ..)=>false
  | _=>Te l
def Ya:∀ {H:lK},Te H=true->∀o kd z f,hget H o≠some (.map kd z f):=by
 intro H;induction H with
 | nil=>intro _ o kd z f h;cases h
 | cons u l ih=>
  intro h o kd z f;obtain⟨q,x⟩:=u;unfold Te at h;unfold hget look;split at h
  ·cases h
  rename_i hx;cases hb:Nat.beq q o with
  | true=>
   simp only;cases x with
   | none=>intro h;cases h
   | some x=>
    intro h;cases h;exact hx kd z f rfl
  | false=>simp only;exact ih h o kd z f
def aaG (P:Program) (gf:FuncId) (caps:aiA) (len:Nat) (e0 e1:Nat->AV):Prop:=
 (∀args w,(callFunc gf args).run P w=.ok (.enter gf args) w)/\
 ∀(w:World) (I:Nat->Prop) (lb:Array Value),(∀b,I b->b<w.heap.size)->lb.size=caps.length->(∀j,j<caps.length->iH w I (nth caps j) (lb.getD j Go.undef))->
  ∃v0 v1:Nat->Value,(∀k,k<len->iH w I (e0 k) (v0 k)/\iH w I (e1 k) (v1 k))/\
   ∀(l n:Nat) (J:Nat->World->Prop) (Jx:World->Prop) (W:World),(∀b,I b->W.heap[b]? = w.heap[b]?)->
    (∀k W1,k<len->J k W1->YieldAt (FW none) n P l #[v0 k,v1 k] W1 λ e W'=>(e=.returned (.bool true)/\J (k+1) W'/\∀b,I b->W'.heap[b]? = W1.heap[b]?)\/(e=.returned (.bool false)/\Jx W'))->
    J 0 W->CallsIn (FW none) n P gf (#[.func (.yield l) #[] #[]]++lb) W λ e W'=>(∃v,e=.returned v)/\(J len W'\/Jx W')
def avu {β:Type} (p0 p1:α) (v0 v1:β):(#[p0,p1]:Array α).zip #[v0,v1]=#[(p0,v0),(p1,v1)]:=by
 apply Array.toList_inj.1;simp
def Em (t:Nat):mo (λ _=>true) (some t) true=λ _=>true:=by
 funext k;unfold mo;simp
theorem akp (hc:iI P cfg) {m:Nat} {ct ct':ahb} {g:Operand} {p0 p1:Nat} {assign body:Code} {s:St} {K:Exit->St->Prop} (ah1:jq N assign=true) (aqU:jq N body=true) (hp0:p0<N) (hp1:p1<N)
  {gf:FuncId} {caps:aiA} {len:Nat} {e0 e1:Nat->AV} (hit:aaG P gf caps len e0 e1) (hg:Zq cfg (iY s.tmps) g=.fn gf caps) (amj:∀v∈caps,∃cs,v=.ro cs)
  {α:Type} (st:α->St) (st1:Nat->α->St) (hnm:∀k gx,Te (st gx).heap=true/\Te (st1 k gx).heap=true) (x0:α) (ρ0:List (Nat×Option Nat)) (h0:Emb m ρ0 s (st x0)) (inv:Nat->α->Prop) (hi0:inv 0 x0)
  (ha:∀k l gx,k<len->inv k gx->m<=(st gx).nx/\lN cfg (Spec P cfg) ct (Loops P cfg N (some l) (st gx).nx) assign ⟨(p1,e1 k)::(p0,e0 k)::(st gx).tmps,(st gx).heap,(st gx).nx⟩ (λ e s'=>match e with | .normal=>∃ρ,Emb (st gx).nx ρ s' (st1 k gx) | _=>False))
  (hb:∀k l gx,k<len->inv k gx->lN cfg (Spec P cfg) ct' (Loops P cfg N (some l) (st1 k gx).nx) body (st1 k gx) (λ e s'=>match e with | .normal=>∃x' ρ,inv (k+1) x'/\Emb m ρ ⟨(st gx).tmps,s'.heap,s'.nx⟩ (st x') | .ret=>K .ret ⟨(st gx).tmps,s'.heap,s'.nx⟩ | _=>False))
  (hK:∀gx,inv len gx->K .normal (st gx)):Loops P cfg N none m (.rangeFunc g #[p0,p1] assign body) s K:=by
 refine⟨λ n cx0 a w I O hS0 hrd=>afX (n:=3) ?_⟩;obtain⟨ms,hnd,_,hds,hms⟩:=hS0.marks;obtain⟨cx,hcx⟩:∃cx,cx=cx0.also ms:=⟨_,rfl⟩;have hcw:cx.w0=cx0.w0:=by rw[hcx];rfl
 have hcm:cx.m=cx0.m:=by rw[hcx];rfl
 have hR0:Rel cfg cx (hget s.heap) (λ o=>o<s.nx) w I O:=by rw[hcx];exact hS0.rel.also (λ D hD=>(hms D hD).2)
 obtain⟨lb,hgv,hlb,hlr⟩:=(hg ▸ wz hS0.rel hS0.tmps g (λ _ _=>rfl)).NY;have hcp:∀j,j<caps.length->iH w I (nth caps j) (lb.getD j Go.undef):=λ j hj=>by
  have hmem:nth caps j∈caps:=by rw[vM];rw[List.getD_eq_getElem?_getD,List.getElem?_eq_getElem hj];exact List.getElem_mem _
  obtain⟨cs,hcs⟩:=amj _ hmem;have:=hlr j hj;rw[hcs]at this ⊢;cases this with
  | pure h=>exact h
 obtain⟨v0,v1,hel,hrun⟩:=hit.2 w I lb hR0.BP hlb hcp;refine wpIn_rangeFunc ?_;intro fn hfn;obtain⟨rc,hrc⟩:∃rc:LoopState->Option Code->Loop,rc=λ st pe=>{ state:=st,pending:=pe,fn,tmps:=a.tmps,params:=#[p0,p1],assign,body,defers:=w.heap.size }:=⟨_,rfl⟩;obtain⟨W1,hW1⟩:∃W1,W1=(w.alloc (.deferred (some []))).alloc (.loop (rc .ready none)):=⟨_,rfl⟩;have hsz1:W1.heap.size=w.heap.size+2:=by rw[hW1];simp
 have hD1:W1.heap[w.heap.size]? = some (.deferred (some [])):=by
  rw[hW1];show((w.heap.push _).push _)[w.heap.size]? = _;have hp:(w.heap.push (Obj.deferred (some []))).size=w.heap.size+1:=Array.size_push _;rw[Array.getElem?_push,if_neg om,Array.getElem?_push_size]
 have hL1:W1.heap[w.heap.size+1]? = some (.loop (rc .ready none)):=by
  have:=World.alloc_heap_new (w.alloc (.deferred (some []))) (.loop (rc .ready none));rw[World.size_alloc]at this;rw[hW1];exact this
 have amk:∀b,b<w.heap.size->W1.heap[b]? = w.heap[b]? := λ b hb=>by
  rw[hW1];show((w.heap.push _).push _)[b]? = _;rw[Array.getElem?_push_lt (by simp;omega),Array.getElem_push_lt hb,Array.getElem?_eq_getElem hb]
 have aoI:tH W1 w:=by
  rw[hW1];have q1:=Lv w (.deferred (some []));have q2:=Lv (w.alloc (.deferred (some []))) (.loop (rc .ready none));exact⟨λ x v h=>q2.cell x v (q1.cell x v h),λ x h=>by
   rw[q2.frozen x (by obtain⟨v,hv⟩:=Option.isSome_iff_exists.1 h;rw[q1.cell x v hv];rfl),q1.frozen x h],Nat.le_trans q1.size q2.size,λ b es c h=>q2.maps b es c (q1.maps b es c h)⟩
 have atE:II cx W1:=by
  rw[hW1];exact(hR0.env.step (iM.alloc _ _)).step (iM.alloc _ _)
 have avv:∀k o,cx.K k o->k<w.heap.size:=λ k o h=>by
  have:=(hR0.env.kept k o h).1;rcases Nat.lt_or_ge k w.heap.size with h1 | h1
  ·exact h1
  rw[Array.getElem?_eq_none h1]at this;cases this
 have hw0:cx.w0.heap.size<=w.heap.size:=hR0.size;have aml:∀(W:World) (k:Nat) (o:Obj),w.heap.size<=k->II cx W->II cx (W.putObj k o):=λ W k o hk he=>by
  refine⟨⟨he.same.os,he.same.tape,he.same.output,λ i x hi hx=>?_⟩,λ i x hi=>?_⟩
  ·have hlt:i<cx.w0.heap.size:=by
    rcases Nat.lt_or_ge i cx.w0.heap.size with h1 | h1
    ·exact h1
    rw[Array.getElem?_eq_none h1]at hi;cases hi
   rw[World.putObj_heap_other om];exact he.same.keep i x hi hx
  rw[World.putObj_heap_other (by have:=avv i x hi;omega)];exact he.kept i x hi
 have Zy:∀(W:World),Marks cx W ([]:List Deferred):=λ W=>⟨[],List.nodup_nil,λ _=>rfl,rfl,λ _ h=>by cases h⟩
 have hS1:jV cfg N m cx s ⟨a.tmps,[]⟩ w I O:=⟨hcm.trans hS0.m,hR0,⟨rfl,hS0.tmps.size,hS0.tmps.rep,hS0.tmps.gone⟩,Zy w⟩;have hS2:=IZ hS1 h0;have ad6:∀ {s':St} {W:World} {I':Nat->Prop} {O':OM} {o:Obj} (o':Obj),W.heap[w.heap.size+1]? = some o->QA o=true/\(∀es c,o≠.map es c)->jV cfg N m cx s' ⟨a.tmps,[]⟩ W I' O'->jV cfg N m cx s' ⟨a.tmps,[]⟩ (W.putObj (w.heap.size+1) o') I' O':=λ o' ho hn hS=>
  hS.turn (H6 ho hn.1 hn.2) (λ b hb=>World.putObj_heap_other om) (aml _ _ _ om hS.rel.env) rfl (Zy _)
 refine⟨w.heap.size+1,[aaz w.heap.size],W1,{ target:=.fn (.func gf) lb,args:=#[.func (.yield (w.heap.size+1)) #[] #[]] },W1,gf,#[.func (.yield (w.heap.size+1)) #[] #[]]++lb,W1,?_,?_,λ _ _=>trivial,?_,(λ h=>by cases h),?_⟩
 ·rw[hW1,hrc];exact run_enterLoop_outer _ _ _ _ _
 ·simp only[resolve,hgv];simp[go_sem]
 ·simp[invoke,go_sem,hit.1]
 refine(hrun (w.heap.size+1) (3 - 1)
  (λ k W=>∃gx,inv k gx/\∃I1 O1,jV cfg N m cx (st gx) ⟨a.tmps,[]⟩ W I1 O1/\(∀b,I b->I1 b)/\(∀b,I b->W.heap[b]? = w.heap[b]?)/\W.heap[w.heap.size+1]? = some (.loop (rc .ready none))/\W.heap[w.heap.size]? = some (.deferred (some [])))
  (λ W=>∃s' I1 O1,K .ret s'/\jV cfg N m cx s' ⟨a.tmps,[]⟩ W I1 O1/\W.heap[w.heap.size+1]? = some (.loop (rc .done (some .ret)))/\W.heap[w.heap.size]? = some (.deferred (some [])))
  W1 (λ b hb=>amk b (hR0.BP b hb)) ?_ ?_).mono ?_
 ·rintro k W hk ⟨gx,hiv,I1,O1,hS,hII,hkeep,hl,hD⟩;have hlW:w.heap.size+1<W.heap.size:=(Array.getElem?_eq_some_iff.1 hl).1;have hy:=run_yield (P:=P) (args:=#[v0 k,v1 k]) hl (by rw[hrc];rfl);rw[hrc]at hy;refine⟨fn,_,assign,body,hy,roundIn_of_wpIn hfn ?_⟩;clear hy;obtain⟨hnx,hxa⟩:=ha k (w.heap.size+1) gx hk hiv;have hmx:∀o,o<cx.m->o<(st gx).nx:=λ o ho=>Nat.lt_of_lt_of_le (by rw[hS.m]at ho;exact ho) hnx;have hRr:=hS.rel.enter (Ya (hnm k gx).1) (m:=(st gx).nx) (λ _ h=>h);have hwI:∀b,I b->W.heap[b]? = w.heap[b]? := hkeep;obtain⟨he0,he1⟩:=hel k hk;have hpe:∀ {v:AV} {x:Value},iH w I v x->fC W I1 O1 (λ o=>o<(st gx).nx) v x:=λ h=>.pure (h.mono hII hwI);have hT1:=A8.put hS.tmps (λ _ _ h=>h) (some p0) (λ _ h=>by cases h;exact hp0) (e0 k) (v0 k) true (λ _=>hpe he0) (λ h=>by cases h);have hT2:=A8.put hT1 (λ _ _ h=>h) (some p1) (λ _ h=>by cases h;exact hp1) (e1 k) (v1 k) true (λ _=>hpe he1) (λ h=>by cases h);rw[Em,Em,<- qM,<- qM]at hT2;have hSa:jV cfg N (st gx).nx (QG W I1 O1 (st gx).nx) ⟨(p1,e1 k)::(p0,e0 k)::(st gx).tmps,(st gx).heap,(st gx).nx⟩ { tmps:=(a.tmps.setIfInBounds p0 (v0 k)).setIfInBounds p1 (v1 k),defers:=[] } W I1 O1:=
   ⟨rfl,hRr,hT2,⟨[],List.nodup_nil,λ _=>rfl,rfl,λ _ h=>by cases h⟩⟩
  have hga:=ko hc assign _ _ ah1 hxa (3 - 1) _ _ W I1 O1 hSa rfl;have htm:((#[p0,p1]:Array Tmp).zip #[v0 k,v1 k]).foldl (λ tmps (t,a)=>tmps.setIfInBounds t a) a.tmps=(a.tmps.setIfInBounds p0 (v0 k)).setIfInBounds p1 (v1 k):=by rw[avu];rfl
  refine wpIn_mono (htm ▸ hga) ?_;rintro e a2 W2 ⟨s2,I2,O2,hk2,hSb⟩;cases e with
  | normal=>
   obtain⟨ρ,hE⟩:=hk2;have hSc:=IZ hSb hE;have hRc:=hS.rel.back hSc.rel hmx;have hl2:=(hSc.rel.env.kept _ _ ⟨hl,rfl⟩).1;have hD2:=(hSc.rel.env.kept _ _ ⟨hD,rfl⟩).1;have avx:=λ b hb=>hS.rel.ah0 hSc.rel b (hII b hb);refine⟨_,run_beginRound hl2 (by rw[hrc]),?_⟩;have avy:w.heap.size+1<W2.heap.size:=(Array.getElem?_eq_some_iff.1 hl2).1;obtain⟨W3,hW3⟩:∃W3,W3=W2.putObj (w.heap.size+1) (.loop { rc .ready none with state:=.busy }):=⟨_,rfl⟩;rw[<- hW3];have hl3:W3.heap[w.heap.size+1]? = some (.loop { rc .ready none with state:=.busy }):=by rw[hW3];exact World.putObj_heap_same avy
   have hD3:W3.heap[w.heap.size]? = some (.deferred (some [])):=by rw[hW3];exact(World.putObj_heap_other om).trans hD2
   have aqV:tH W3 W2:=by rw[hW3];exact H6 hl2 rfl
   have hR3:Rel cfg cx (hget (st1 k gx).heap) (λ o=>o<(st1 k gx).nx) W3 I2 (oH ρ (st1 k gx).heap O2):=hRc.turn aqV (λ b hb=>by rw[hW3];exact World.putObj_heap_other om) (by rw[hW3];exact aml _ _ _ om hRc.env);have hnx1:(st gx).nx<=(st1 k gx).nx:=by
    have:=hE.Ki;unfold ahi at this;split at this
    ·exact Nat.le_of_ble_eq_true this
    cases this
   have hT0:∀t,fC W3 I2 (oH ρ (st1 k gx).heap O2) (λ o=>o<(st1 k gx).nx) (iY (st gx).tmps t) (a.tmps.getD t Go.undef):=λ t=>(fC.behind hS.rel hSc.rel (hS.tmps.rep t rfl)).turn aqV;have hRd:=hR3.enter (Ya (hnm k gx).2) (m:=(st1 k gx).nx) (λ _ ho=>ho);have hSd:jV cfg N (st1 k gx).nx (QG W3 I2 (oH ρ (st1 k gx).heap O2) (st1 k gx).nx) (st1 k gx) a2 W3 I2 (oH ρ (st1 k gx).heap O2):=by
    refine⟨rfl,hRd,⟨rfl,hSc.tmps.size,λ t ht=>(hSc.tmps.rep t ht).turn aqV,λ t ht=>by cases ht⟩,?_⟩;have:a2.defers=[]:=by
     obtain⟨ms2,_,h1,h2,_⟩:=hSc.marks;rw[h1 rfl]at h2;exact h2
    rw[this];exact⟨[],List.nodup_nil,λ _=>rfl,rfl,λ _ h=>by cases h⟩
   have hgb:=ko hc body _ _ aqU (hb k (w.heap.size+1) gx hk hiv) (3 - 1) _ _ W3 I2 _ hSd rfl;refine wpIn_mono hgb ?_;rintro e a4 W4 ⟨s4,I4,O4,hk4,hSe⟩;have hRe:=hR3.back hSe.rel (λ o ho=>Nat.lt_of_lt_of_le (hmx o ho) hnx1);have hl4:=(hSe.rel.env.kept _ _ ⟨hl3,rfl⟩).1;have hD4:=(hSe.rel.env.kept _ _ ⟨hD3,rfl⟩).1;have atF:w.heap.size+1<W4.heap.size:=(Array.getElem?_eq_some_iff.1 hl4).1;have atG:∀b,I b->I2 b:=λ b hb=>hSc.rel.Us b (hII b hb);have atH:∀b,I b->W4.heap[b]? = W.heap[b]? := λ b hb=>by
    have hbl:=hR0.BP b hb;rw[hR3.ah0 hSe.rel b (atG b hb),hW3,World.putObj_heap_other om];exact avx b hb
   have hT4:jV cfg N m cx ⟨(st gx).tmps,s4.heap,s4.nx⟩ ⟨a.tmps,[]⟩ W4 I4 O4:=
    ⟨hS.m,hRe,⟨rfl,hS.tmps.size,λ t _=>fC.behind hR3 hSe.rel (hT0 t),λ t ht=>by cases ht⟩,Zy _⟩
   cases e with
   | normal=>
    obtain⟨x4,ρ4,avz,hE4⟩:=hk4;have hSf:=IZ hT4 hE4;refine⟨_,_,run_endRound none hl4,.inl ⟨rfl,⟨x4,avz,I4,_,ad6 _ hl4 ⟨rfl,nofun⟩ hSf,λ b hb=>hSe.rel.Us b (atG b hb),λ b hb=>?_,?_,?_⟩,λ b hb=>?_⟩⟩
    ·have hbl:=hR0.BP b hb;rw[World.putObj_heap_other om,atH b hb];exact hkeep b hb
    ·rw[World.putObj_heap_same atF,hrc];rfl
    ·rw[World.putObj_heap_other om];exact hD4
    have hbl:=hR0.BP b hb;rw[World.putObj_heap_other om];exact atH b hb
   | ret=>
    refine⟨_,_,run_endRound (some .ret) hl4,.inr ⟨rfl,_,I4,O4,hk4,ad6 _ hl4 ⟨rfl,nofun⟩ hT4,?_,?_⟩⟩
    ·rw[World.putObj_heap_same atF,hrc];rfl
    rw[World.putObj_heap_other om];exact hD4
   | exit id=>exact hk4.elim
   | goto t=>exact hk4.elim
   | panic ch=>exact hk4.elim
   | outgrown=>exact hk4.elim
  | ret=>exact hk2.elim
  | exit id=>exact hk2.elim
  | goto t=>exact hk2.elim
  | panic ch=>exact hk2.elim
  | outgrown=>exact hk2.elim
 ·exact⟨x0,hi0,I,_,hS2.turn aoI (λ b hb=>amk b om) atE rfl (Zy _),λ _ h=>h,λ b hb=>amk b (hR0.BP b hb),hL1,hD1⟩
 have fin:∀ {s':St} {W:World} {I':Nat->Prop} {O':OM} {o:Obj} (o':Obj),W.heap[w.heap.size+1]? = some o->QA o=true/\(∀es c,o≠.map es c)->W.heap[w.heap.size]? = some (.deferred (some []))->jV cfg N m cx s' ⟨a.tmps,[]⟩ W I' O'->
   jV cfg N m cx0 s' { a with defers:=aaz w.heap.size::a.defers } (W.putObj (w.heap.size+1) o') I' O':=by
  intro s' W I' O' o o' ho hn hD hS
  have hS':=ad6 o' ho hn hS
  have hRx:=hS'.rel
  rw[hcx]at hRx
  obtain⟨hRy,hmy⟩:=hRx.al6
  refine⟨hS0.m,hRy,⟨rfl,hS'.tmps.size,hS'.tmps.rep,hS'.tmps.gone⟩,⟨w.heap.size::ms,?_,(λ h=>by rw[hrd]at h;cases h),?_,λ D hDm=>?_⟩⟩
  ·refine List.nodup_cons.2 ⟨λ hin=>?_,hnd⟩
   have:=(hms _ hin).2
   rw[Array.getElem?_eq_none (Nat.le_refl _)]at this
   cases this
  ·show aaz w.heap.size::a.defers=_
   rw[hds]
   rfl
  rcases List.mem_cons.1 hDm with rfl | hDm
  ·exact⟨by rw[<- hcw];exact hw0,(World.putObj_heap_other om).trans hD⟩
  exact⟨(hms D hDm).1,hmy D hDm⟩
 rintro e W2 ⟨⟨v,rfl⟩,⟨gx,hiv,I2,O2,aqW,_,_,hl2,hD2⟩ | ⟨s2,I2,O2,hk2,aqW,hl2,hD2⟩⟩
 ·exact⟨none,_,by have:=run_endLoop (P:=P) hl2 (by rw[hrc];simp);rw[hrc]at this;exact this,st gx,I2,O2,hK gx hiv,fin _ hl2 ⟨rfl,nofun⟩ hD2 aqW⟩
 exact⟨some .ret,_,by have:=run_endLoop (P:=P) hl2 (by rw[hrc];simp);rw[hrc]at this;exact this,wpIn_ret ⟨s2,I2,O2,hk2,fin _ hl2 ⟨rfl,nofun⟩ hD2 aqW⟩⟩
end
end Go.Ab
namespace Go.Ab
inductive M:Type->Type 1 where
 | ret {R:Type} (v:R):M R
 | need {R:Type} (p:Prop) (d:Decidable p) (m:M R):M R
 | grd {R:Type} (p:Prop) (d:Decidable p) (m:M R) (z:R):M R
 | bnd {A R:Type} (m:M A) (k:A->M R):M R
 | sup {R:Type} (f:Nat->M R):M R
 | bot {R:Type}:M R
def M.den:{R:Type}->M R->R->Prop
 | _,.ret v,r=>r=v
 | _,.need p _ m,r=>p/\den m r
 | _,.grd p _ m _,r=>p->den m r
 | _,.bnd m k,r=>∃v,den m v/\den (k v) r
 | _,.sup f,r=>∃n,den (f n) r
 | _,.bot,_=>False
instance {R:Type}:CoeFun (M R) λ _=>R->Prop:=⟨M.den⟩
instance {x:Int}:Decidable (aC x):=by unfold aC;infer_instance
def need {R:Type} (p:Prop) [d:Decidable p] (m:M R):M R:=.need p d m
def grd {R:Type} [Inhabited R] (p:Prop) [d:Decidable p] (m:M R):M R:=.grd p d m default
def bnd {A R:Type} (m:M A) (k:A->M R):M R:=.bnd m k
def ret {R:Type} (v:R):M R:=.ret v
def itM {σ R:Type} (F:(σ->M R)->σ->M R):Nat->σ->M R
 | 0=>λ _=>.bot
 | n+1=>F (itM F n)
def dx {σ R:Type} (F:(σ->M R)->σ->M R) (s:σ):M R:=.sup λ n=>itM F n s
noncomputable def M.ex (n:Nat) {R:Type} (m:M R):Option R:=
 @M.rec (λ R _=>Option R) (λ v=>some v) (λ _ d _ ih=>match d with | .isTrue _=>ih | .isFalse _=>none) (λ _ d _ z ih=>match d with | .isTrue _=>ih | .isFalse _=>some z)
  (λ _ _ ih ihk=>match ih with | some v=>ihk v | none=>none) (λ _ ih=>ih n) none R m
variable {R:Type}
def M.amm (n:Nat) (m:M R):∀r,m.ex n=some r->m r:=by
 induction m with
 | ret v=>intro r h;exact(Option.some.inj h).symm
 | need p d m ih=>
  intro r h;cases d with
  | isTrue hp=>exact⟨hp,ih r h⟩
  | isFalse hp=>exact absurd h (by show ¬ (none=some r);nofun)
 | grd p d m z ih=>
  intro r h;cases d with
  | isTrue hp=>exact λ _=>ih r h
  | isFalse hp=>exact λ q=>absurd q hp
 | bnd m k ih ihk=>
  intro r h;have h:(match m.ex n with | some v=>(k v).ex n | none=>none)=some r:=h;cases hv:m.ex n with
  | none=>rw[hv]at h;cases h
  | some v=>rw[hv]at h;exact⟨v,ih v hv,ihk v r h⟩
 | sup f ih=>intro r h;exact⟨n,ih n r h⟩
 | bot=>intro r h;cases h
def bB {p:Prop} {d:Decidable p} {m:M R} {r:R} {K:Prop} (hm:need p m r) (h:p->m r->K):p/\K:=⟨hm.1,h hm.1 hm.2⟩
def jd {c:Bool} {x y:M R} {r:R} {A B:Prop} (hm:(cond c x y) r) (h1:c=true->x r->A) (h2:c=false->y r->B):Z7 c A B:=by
 cases c
 ·exact h2 rfl hm
 exact h1 rfl hm
def iJ {A:Type} {m:M A} {k:A->M R} {r:R} {G:Prop} (hm:bnd m k r) (h:∀v,m v->k v r->G):G:=by
 obtain⟨v,h1,h2⟩:=hm;exact h v h1 h2
section
variable {P:Program} {cfg:y9} {N:Nat}
variable {m:Nat} {s:St}
theorem ad7 {r:Option Nat} {c:Code} {K:Exit->St->Prop} {α:Type} (st:α->St) (inv:α->Prop) (μ:α->Nat) (x0:α) (ρ0:List (Nat×Option Nat)) (os0:ahb) (h0:inv x0) (hE:Tc m ρ0 os0 s (st x0))
  (round:∀x,inv x->Good P cfg N r m c (st x) (λ e s'=>match e with | .normal=>∃x' ρ os,inv x'/\μ x'<μ x/\Tc m ρ os s' (st x') | e=>K e s')):Loops P cfg N r m (.loop c) s K:=by
 refine⟨λ n0 cx a w I O hS hrd=>?_⟩;obtain⟨I1,O1,hS1⟩:=Td hS hE;refine wpIn_loop_ghost (λ n a w=>∃x I O,inv x/\n=μ x/\jV cfg N m cx (st x) a w I O) (μ x0) ⟨x0,I1,O1,h0,rfl,hS1⟩ ?_;intro n a w hI;obtain⟨x,I,O,hx,rfl,hS⟩:=hI;refine wpIn_mono (round x hx n0 cx a w I O hS hrd) ?_;intro e a' w' ⟨s',I',O',h1,h2⟩;cases e with
 | normal=>
  obtain⟨x',ρ,os,h3,h4,h5⟩:=h1;obtain⟨I2,O2,hS2⟩:=Td h2 h5;exact⟨μ x',h4,x',I2,O2,h3,rfl,hS2⟩
 | exit id=>exact⟨s',I',O',h1,h2⟩
 | goto l=>exact⟨s',I',O',h1,h2⟩
 | ret=>exact⟨s',I',O',h1,h2⟩
 | panic ch=>exact⟨s',I',O',h1,h2⟩
 | outgrown=>exact⟨s',I',O',h1,h2⟩
variable {c:Code}
theorem wB (hc:iI P cfg) {rr:Option Nat} {ct:ahb} {K:Exit->St->Prop} (hok:jq N c=true) {σ:Type} {F:(σ->M R)->σ->M R} {x0:σ} {r:R} (hm:dx F x0 r) (st:σ->St) (ρ0:List (Nat×Option Nat)) (os0:ahb) (hE:Tc m ρ0 os0 s (st x0))
  (round:∀(self:σ->M R) (x:σ),F self x r->lN cfg (Spec P cfg) ct (Loops P cfg N rr m) c (st x) (λ e s'=>match e with | .normal=>∃x' ρ os,self x' r/\Tc m ρ os s' (st x') | e=>K e s')):Loops P cfg N rr m (.loop c) s K:=by
 obtain⟨n0,h0⟩:=hm;refine ad7 (λ x:σ×Nat=>st x.1) (λ x=>itM F x.2 x.1 r) (λ x=>x.2) (x0,n0) ρ0 os0 h0 hE ?_;rintro ⟨x,n⟩ hx;cases n with
 | zero=>exact hx.elim
 | succ n=>
  refine(ko hc c (st x) _ hok (round (itM F n) x hx)).mono ?_;intro e s' h;cases e with
  | normal=>
   obtain⟨x',ρ,os,h1,h2⟩:=h;exact⟨(x',n),ρ,os,h1,Nat.lt_succ_self n,h2⟩
  | _=>exact h
theorem aaH (hc:iI P cfg) {rr:Option Nat} {m:Nat} {ct:ahb} {x y:Code} {s:St} {K:Exit->St->Prop} (aqX:jq N x=true) (aqY:jq N y=true) {σ:Type} (k:σ->M R) (r:R) (st:σ->St)
  (h1:lN cfg (Spec P cfg) ct (Loops P cfg N rr m) x s (λ e s'=>match e with | .normal=>∃x' ρ os,k x' r/\Tc m ρ os s' (st x') | e=>K e s'))
  (h2:∀x',k x' r->lN cfg (Spec P cfg) ct (Loops P cfg N rr m) y (st x') K):Loops P cfg N rr m (.seq x y) s K:=by
 refine⟨uN ((ko hc x s _ aqX h1).mono ?_)⟩;intro e s' h;cases e with
 | normal=>
  obtain⟨x',ρ,os,h3,h4⟩:=h;exact λ n0 cx a w I O hS hrd=>by
   obtain⟨I',O',h'⟩:=Td hS h4;exact ko hc y (st x') K aqY (h2 x' h3) n0 cx a w I' O' h' hrd
 | _=>exact h
structure amn (P:Program) (cfg:y9) (N:Nat) (r:Option Nat) (m:Nat) (c:Code) (K:Exit->St->Prop) (M:Nat) (s:St):Prop where
 ok:∀(n0:Nat) (cx:Ctx) (a:Act) (w:World) (I:Nat->Prop) (O:OM),jV cfg N m cx s a w I O->cx.rd=r.isSome->Code.roundsIn (FW r) n0 P c (λ e a' w'=>∃s' I' O',K e s'/\jV cfg N m cx s' a' w' I' O') M a w
theorem pI (hc:iI P cfg) {r:Option Nat} {m:Nat} {ct:ahb} {s:St} {K:Exit->St->Prop} {M:Nat} (hok:jq N c=true)
  (h:lN cfg (Spec P cfg) ct (Loops P cfg N r m) c s (λ e s'=>match e with | .normal=>amn P cfg N r m c K M s' | e=>K e s')):amn P cfg N r m c K (M+1) s:=by
 refine⟨λ n0 cx a w I O hS hrd=>?_⟩;rw[roundsIn_succ];refine wpIn_mono (ko hc c s _ hok h n0 cx a w I O hS hrd) ?_;intro e a' w' ⟨s',I',O',h1,h2⟩;cases e with
 | normal=>exact h1.ok n0 cx a' w' I' O' h2 hrd
 | exit id=>exact⟨s',I',O',h1,h2⟩
 | goto l=>exact⟨s',I',O',h1,h2⟩
 | ret=>exact⟨s',I',O',h1,h2⟩
 | panic ch=>exact⟨s',I',O',h1,h2⟩
 | outgrown=>exact⟨s',I',O',h1,h2⟩
variable {r:Option Nat} {K:Exit->St->Prop}
def afY (M:Nat) (h:amn P cfg N r m c K M s):Loops P cfg N r m (.loop c) s K:=
 ⟨λ n0 cx a w I O hS hrd=>wpIn_loop_rounds M (h.ok n0 cx a w I O hS hrd)⟩
end
end Go.Ab
namespace Go.Ab
variable {α:Type}
def lC {f:α->AV} {d:α} {l:List α} {k:Nat} (_h:k<=l.length):∀i,i<k->Le (bT f d l i) (bT f d (l.take k) i):=λ i hi=>by
 unfold bT;rw[getD_take l d hi];exact .refl _
variable {g:Nat->AV}
def fK (f:α->AV) (d:α) (l:List α) {n:Nat} (hg:g=XQ (l.map f):=by rfl) (hn:n<=l.length:=by exact Nat.le_of_ble_eq_true rfl):∀i,i<n->Le (g i) (bT f d l i):=λ i hi=>by
 subst hg;unfold bT XQ;rw[vM,List.getD_eq_getElem?_getD,List.getElem?_map,List.getD_eq_getElem?_getD,List.getElem?_eq_getElem om];exact .refl _
variable {n:Nat}
def uO {f:α->AV} {d:α} {x:α} {l:List α} (h0:Le (g 0) (f x)) (ht:∀i,i<n->Le ((λ j=>g (j+1)) i) (bT f d l i)):∀i,i<n+1->Le (g i) (bT f d (x::l) i):=λ i hi=>by
 cases i with
 | zero=>exact h0
 | succ i=>exact ht i om
def iN {f:α->AV} {d:α} {l m:List α} {k:Nat} {h:Nat->AV} (hn:n=l.length) (hg:∀i,i<n->Le (g i) (bT f d l i)) (hk:k=m.length) (hh:∀i,i<k->Le (h i) (bT f d m i)):∀i,i<n+k->Le (appG n g h i) (bT f d (l++m) i):=λ i hi=>by
 unfold appG;cases hb:Nat.blt i n with
 | true=>
  have hlt:i<n:=by simpa using hb
  have:=hg i hlt;unfold bT at this ⊢;rw[mI d om];exact this
 | false=>
  have hge:n<=i:=by
   rcases Nat.lt_or_ge i n with h | h
   ·rw[show Nat.blt i n=true by simpa using h]at hb;cases hb
   exact h
  have:=hh (i - n) om;unfold bT at this ⊢;rw[List.getD_eq_getElem?_getD,List.getElem?_append_right om,<- List.getD_eq_getElem?_getD,<- hn];exact this
def akq {f:α->AV} {d:α} {l:List α} {a N:Nat} (hg:∀i,i<N->Le (g i) (bT f d l i)) (h:a+n<=N):∀i,i<n->Le (g (a+i)) (bT f d ((l.drop a).take n) i):=λ i hi=>by
 have:=hg (a+i) om;unfold bT at this ⊢;rw[getD_take _ d hi,getD_drop];exact this
def lQ {f:α->AV} {d:α} {l:List α} {j:Nat} {v:AV} {x:α} (hg:∀i,i<n->Le (g i) (bT f d l i)) (hn:n=l.length) (hv:Le v (f x)):∀i,i<n->Le (ae1 g j v i) (bT f d (l.set j x) i):=λ i hi=>by
 unfold ae1;cases hb:Nat.beq i j with
 | true=>
  have:=Nat.eq_of_beq_eq_true hb;subst this;unfold bT;rw[List.getD_eq_getElem?_getD,List.getElem?_set_self om];exact hv
 | false=>
  have hne:i≠j:=λ e=>by subst e;simp at hb
  have:=hg i hi;unfold bT at this ⊢;rw[List.getD_eq_getElem?_getD,List.getElem?_set_ne om,<- List.getD_eq_getElem?_getD];exact this
def Yy {α:Type} (l:List α) (i:Nat) (s:List α):List α:=l.mapIdx λ j x=>if i<=j then s.getD (j - i) x else x
def iE (l:List α) (i:Nat) (s:List α):(Yy l i s).length=l.length:=by
 unfold Yy;rw[List.length_mapIdx]
def QH (d:α) {l s:List α} {i j:Nat} (hj:j<l.length):(Yy l i s).getD j d=if i<=j/\j<i+s.length then s.getD (j - i) d else l.getD j d:=by
 unfold Yy;rw[List.getD_eq_getElem?_getD,List.getElem?_mapIdx,List.getElem?_eq_getElem hj,List.getD_eq_getElem?_getD (l:=l),List.getElem?_eq_getElem hj];simp only[Option.map_some,Option.getD_some];by_cases h1:i<=j
 ·rw[if_pos h1];by_cases h2:j<i+s.length
  ·rw[if_pos ⟨h1,h2⟩,List.getD_eq_getElem?_getD,List.getD_eq_getElem?_getD,List.getElem?_eq_getElem om];rfl
  rw[if_neg om,List.getD_eq_getElem?_getD,List.getElem?_eq_none om];rfl
 rw[if_neg h1,if_neg om]
variable {m:Nat}
def ad8 {f:α->AV} {d:α} {l s:List α} {i:Nat} {h:Nat->AV} (hn:n=l.length) (hg:∀j,j<n->Le (g j) (bT f d l j)) (hm:m=s.length) (hh:∀j,j<m->Le (h j) (bT f d s j)):∀j,j<n->Le (cpG i m g h j) (bT f d (Yy l i s) j):=λ j hj=>by
 unfold bT;rw[QH d om];by_cases hin:i<=j/\j<i+m
 ·rw[if_pos om,aar hin.1 hin.2];exact hh (j - i) om
 rw[if_neg om,UA hin];exact hg j hj
def UL (f:α->AV) (d:α) {n:Nat} {z:AV} (hz:Le z (f d):=by exact .refl _):∀i,i<n->Le ((λ _=>z) i) (bT f d (List.replicate n d) i):=λ i hi=>by
 unfold bT;rw[List.getD_eq_getElem?_getD,List.getElem?_replicate,if_pos hi];exact hz
def strOf (l:ag8):ByteArray:=Kn l.length 0 (bT (AV.int .u8) 0 l) ByteArray.empty
def u8L:aiA->Bool
 | []=>true
 | v::l=>aqr v&&u8L l
def amo:∀ {es:aiA},u8L es=true->∀i,i<es.length->aqr (XQ es i)=true:=by
 intro es;induction es with
 | nil=>intro _ i h;exact absurd h (Nat.not_lt_zero _)
 | cons v l ih=>
  intro h i hi;simp only[u8L,Bool.and_eq_true]at h;cases i with
  | zero=>exact h.1
  | succ i=>exact ih h.2 i (by simpa using hi)
def oI {ρ:List (Nat×Option Nat)} {H':lK} {f:Nat} {u v:AV} (h:Le u v) (hp:as0 v=true) (hl:v.cells.length+2<f):nG ρ H' f u v:=by
 obtain⟨f,rfl⟩:∃f',f=f'+1:=⟨f - 1,by omega⟩;cases v with
 | agg cs'=>
  have key:∀cs,SN cs cs'->nG ρ H' (f+1) (.agg cs) (.agg cs'):=by
   intro cs hcs;unfold nG;have:=(Ey _ _ hcs).1;exact aoH cs cs' f (by simp[AV.cells]at hl;omega) hcs hp
  cases h with
  | refl=>exact key _ (SN.refl _)
  | agg hl h=>exact key _ (SN.ai6 hl h)
 | _=>exact ai7 h hp
def BR {α:Type} (f:α->AV) (X:Nat->α):Nat->AV:=λ i=>f (X i)
def upd {α:Type} (X:Nat->α) (i:Nat) (x:α):Nat->α:=λ j=>bif Nat.beq j i then x else X j
def akr (X:Nat->α) (i:Nat) (x:α):upd X i x i=x:=by
 unfold upd;rw[show Nat.beq i i=true by simp];rfl
def aoK {f:α->AV} {X:Nat->α} {j:Nat} {v:AV} {x:α} (hg:∀i,i<n->Le (g i) (BR f X i)) (hv:Le v (f x)):∀i,i<n->Le (ae1 g j v i) (BR f (upd X j x) i):=λ i hi=>by
 unfold ae1 BR upd;cases hb:Nat.beq i j with
 | true=>exact hv
 | false=>exact hg i hi
def ad9 {f:α->AV} {X:Nat->α} (h1:∀x,(f x).cells=[f x]):∀(n k i:Nat),i<n->nth (ji n k (BR f X)) i=f (X (k+i)):=by
 intro n;induction n with
 | zero=>intro k i h;exact absurd h (Nat.not_lt_zero _)
 | succ n ih=>
  intro k i hi;simp only[ji];have:(BR f X k).cells=[f (X k)]:=h1 _;rw[this];cases i with
  | zero=>rfl
  | succ i=>
   show nth (ji n (k+1) (BR f X)) i=_;rw[ih (k+1) i om];congr 2;omega
def ac8 {f:α->AV} {X:Nat->α} (h1:∀x,(f x).cells=[f x]):∀i,i<n->Le (XQ (ji n 0 (BR f X)) i) (BR f X i):=λ i hi=>by
 unfold XQ;rw[ad9 h1 n 0 i hi,Nat.zero_add];exact .refl _
def aoL {f:α->AV} {d:α} {X:Nat->α} :∀i,i<n->Le (BR f X i) (bT f d ((List.range n).map X) i):=λ i hi=>by
 unfold BR bT;rw[List.getD_eq_getElem?_getD,List.getElem?_map,List.getElem?_range hi];exact .refl _
def jv (x:eD) (h:(match x with | .map .. => false | _=>true)=true:=by rfl):LeO x x:=by
 cases x with
 | box cs=>exact SN.refl cs
 | row es n g=>exact⟨rfl,rfl,λ _ _=>.refl _⟩
 | map=>cases h
def vac {c b:Bool} (h:(c==b)=false):¬ c=b:=by
 rintro rfl;simp at h
def W {R:Type} (m:M R) (Q:R->Prop):Prop:=∃r,m r/\Q r
variable {R:Type}
def ay {v:R} {Q:R->Prop} (h:Q v):W (ret v) Q:=⟨v,rfl,h⟩
def aK {p:Prop} {d:Decidable p} {m:M R} {Q:R->Prop} (hp:p) (h:W m Q):W (need p m) Q:=by
 obtain⟨r,h1,h2⟩:=h;exact⟨r,⟨hp,h1⟩,h2⟩
def aG {A:Type} {m:M A} {k:A->M R} {P:A->Prop} {Q:R->Prop} (h:W m P) (hk:∀v,P v->W (k v) Q):W (bnd m k) Q:=by
 obtain⟨v,h1,h2⟩:=h;obtain⟨r,h3,h4⟩:=hk v h2;exact⟨r,⟨v,h1,h3⟩,h4⟩
def bL {c:Bool} {x y:M R} {Q:R->Prop} (h1:c=true->W x Q) (h2:c=false->W y Q):W (cond c x y) Q:=by
 cases c
 ·exact h2 rfl
 exact h1 rfl
def zG {m:M R} {Q Q':R->Prop} (h:W m Q) (hq:∀r,Q r->Q' r):W m Q':=by
 obtain⟨r,h1,h2⟩:=h;exact⟨r,h1,hq r h2⟩
def yV {m:M R} {v:R} (h:m v):W m (λ r=>r=v):=⟨v,h,rfl⟩
def mg {m:M R} {v:R} (h:W m (λ r=>r=v)):m v:=by
 obtain⟨r,h1,rfl⟩:=h;exact h1
def uq {A:Type} [Inhabited A] {c:Prop} [Decidable c] {m:M A} {P:A->Prop} (h:c->W m P):W (grd c m) (λ v=>c->P v):=by
 by_cases hc:c
 ·obtain⟨v,h1,h2⟩:=h hc;exact⟨v,λ _=>h1,λ _=>h2⟩
 exact⟨default,λ h=>absurd h hc,λ h=>absurd h hc⟩
def bK {σ:Type} {F:(σ->M R)->σ->M R} {Q:R->Prop} (inv:σ->Prop) (μ:σ->Nat) (h:∀(self:σ->M R) (s:σ),inv s->(∀s',inv s'->μ s'<μ s->W (self s') Q)->W (F self s) Q) {s:σ} (hs:inv s):W (dx F s) Q:=by
 have key:∀n s,inv s->μ s<n->W (itM F n s) Q:=by
  intro n;induction n with
  | zero=>intro s _ h;exact absurd h (Nat.not_lt_zero _)
  | succ n ih=>intro s hs hn;exact h _ s hs λ s' h1 h2=>ih s' h1 om
 obtain⟨r,h1,h2⟩:=key (μ s+1) s hs (Nat.lt_succ_self _);exact⟨r,⟨_,h1⟩,h2⟩
theorem ar2 {p:Nat->Prop} (a:p 0) (b:p 1):∀k,k<2->p k
 | 0,_=>a
 | 1,_=>b
 | k+2,h=>absurd h om
theorem ar3 {p:Nat->Prop} (a:p 0) (b:p 1) (c:p 2):∀k,k<3->p k
 | 0,_=>a
 | 1,_=>b
 | 2,_=>c
 | k+3,h=>absurd h om
section
variable {P:Program} {cfg:y9} {N:Nat}
def ac9 {r:Option Nat} {n0:Nat} {oA oB:Oper} {Q:Exit->Act->World->Prop} {a:Act} {w:World} (hA:oA.guard=none) (hB:oB.guard=none) (hdA:∀c,oA.op≠.defer c) (hdB:∀c,oB.op≠.defer c)
  {x y:Value} (h1:(execOp a.eval oA).run P w=.ok (.value x) w) (h2:(execOp (a.put oA.dst x).eval oB).run P w=.ok (.value y) w) (h:Q .normal ((a.put oA.dst x).put oB.dst y) w):
  wpOpsIn (FW r) n0 P #[oA,oB] Q (List.range 2) a w:=by
 show wpOpsIn (FW r) n0 P #[oA,oB] Q [0,1] a w;unfold wpOpsIn;simp only[List.getElem?_toArray,List.getElem?_cons_zero];rw[if_pos (by unfold Region.wanted;rw[hA])];refine adZ hdA (uF h1 ?_);unfold wpOpsIn;simp only[List.getElem?_toArray,List.getElem?_cons_succ,List.getElem?_cons_zero];rw[if_pos (by unfold Region.wanted;rw[hB])];refine adZ hdB (uF h2 ?_);unfold wpOpsIn;exact h
variable {t:TypeId} {e:TypeId}
theorem amq {r:Option Nat} {m id:Nat} (hu:P.underlying t=some (.slice e)) {t0 d3 d4:Nat} (h3:d3<N) (h4:d4<N) {t' tyA tyB:TypeId} {pA pB:String} {aA aB:Array Edge}
  {T:List (Nat×AV)} {H:lK} {nx:Nat} {es n:Nat} {f:Bool} {g:Nat->AV} (hs:iY T t0=.sl es n f g) {K:Exit->St->Prop}
  (hK:∀b,(b=true->n=0)->K .normal ⟨(d4,.bool b)::(d3,.sl es n f g)::T,H,nx⟩):
  Good P cfg N r m (.region id #[⟨some d3,.move (.tmp t0),tyA,pA,aA,none⟩,⟨some d4,.binOp .eql t (.tmp d3) (.const (.slice none 0 0)) t',tyB,pB,aB,none⟩] false) ⟨T,H,nx⟩ K:=by
 intro n0 cx a w I O hS hrd;have hx:=hS.tmps.rep t0 rfl;have hsz:=hS.tmps.size;have hs':iY (⟨T,H,nx⟩:St).tmps t0=.sl es n f g:=hs;rw[hs']at hx;generalize hxv:a.tmps.getD t0 Go.undef=x at hx;have hp:=hx.BQ;refine wpIn_region ?_;cases hp with
 | @sl _ _ _ _ aa cap b off vs hcap hfull ha hes hm h1 hr=>
  have hb:aa.isNone=true->n=0:=λ h=>by
   rcases Nat.eq_zero_or_pos n with h0 | h0
   ·exact h0
   rw[(ha om).1]at h;cases h
  refine ac9 rfl rfl (λ c h=>by cases h) (λ c h=>by cases h) (x:=.slice aa n cap) (y:=.bool aa.isNone) ?_ ?_ ?_
  ·simp only[execOp,Act.eval];rw[hxv];rfl
  ·have e1:(a.put (some d3) (.slice aa n cap)).eval (.tmp d3)=.slice aa n cap:=by
    simp[Act.put,Act.eval,hsz,h3]
   have e2:=run_equal_slice_nil (P:=P) w t e aa n cap hu;have e3:(a.put (some d3) (.slice aa n cap)).eval (.const (.slice none 0 0))=.slice none 0 0:=rfl;have hg:(eqGuard .eql t (.tmp d3) (.const (.slice none 0 0)) (.slice aa n cap) (.slice none 0 0)).run P w=.ok () w:=by unfold eqGuard;simp
   simp only[execOp];rw[e1,e3];simp[hg,binOp,e2]
  refine⟨_,I,O,hK aa.isNone hb,hS.m,hS.rel,?_,hS.marks⟩;have h5:=hS.tmps.put (λ _ _ h=>h) (some d3) (λ k hk=>by cases hk;exact h3) (.sl es n f g) (.slice aa n cap) true (λ _=>hx) (λ h=>by cases h);have h6:=h5.put (λ _ _ h=>h) (some d4) (λ k hk=>by cases hk;exact h4) (.bool aa.isNone) (.bool aa.isNone) true (λ _=>.pure (.bool _)) (λ h=>by cases h);refine⟨h6.defers,h6.size,λ tt _=>?_,λ tt h=>by cases h⟩;have:=h6.rep tt (by rw[Em,Em]);show fC w I O _ (iY ((d4,.bool aa.isNone)::(d3,.sl es n f g)::T) tt) _;rw[qM,qM];exact this
theorem aaJ (hc:iI P cfg) {rr:Option Nat} {m:Nat} {ct:ahb} (hu:P.underlying t=some (.slice e)) {a X Y:Code} {s:St} {K:Exit->St->Prop} (ah1:jq N a=true) (aq1:jq N X=true) (aq2:jq N Y=true)
  {id t0 d3 d4:Nat} (h3:d3<N) (h4:d4<N) {t' tyA tyB:TypeId} {pA pB:String} {aA aB:Array Edge} (T:List (Nat×AV)) (H:lK) (nx:Nat) {es n:Nat} {f:Bool} {g:Nat->AV} (hs:iY T t0=.sl es n f g)
  (h1:lN cfg (Spec P cfg) ct (Loops P cfg N rr m) a s (λ e s'=>match e with | .normal=>s'=⟨T,H,nx⟩ | _=>False))
  (hX:n=0->lN cfg (Spec P cfg) ct (Loops P cfg N rr m) X ⟨(d4,.bool true)::(d3,.sl es n f g)::T,H,nx⟩ (λ e s'=>match e with | .normal=>False | e=>K e s'))
  (hY:lN cfg (Spec P cfg) ct (Loops P cfg N rr m) Y ⟨(d4,.bool false)::(d3,.sl es n f g)::T,H,nx⟩ K):
  Loops P cfg N rr m (.seq a (.seq (.seq (.region id #[⟨some d3,.move (.tmp t0),tyA,pA,aA,none⟩,⟨some d4,.binOp .eql t (.tmp d3) (.const (.slice none 0 0)) t',tyB,pB,aB,none⟩] false) (.cond (.tmp d4) X .skip)) Y)) s K:=by
 refine⟨uN ((ko hc a s _ ah1 h1).mono ?_)⟩;intro e s' h;cases e with
 | normal=>
  have h:s'=⟨T,H,nx⟩:=h;subst h;refine uN (uN (amq hu h3 h4 hs λ b hb=>?_));have aq3:Zq cfg (iY (⟨(d4,.bool b)::(d3,.sl es n f g)::T,H,nx⟩:St).tmps) (.tmp d4)=.bool b:=by
   show iY ((d4,.bool b)::(d3,.sl es n f g)::T) d4=_;rw[qM];simp[mo]
  refine WI aq3 (λ hb1=>?_) (λ hb1=>?_)
  ·subst hb1;refine(ko hc X _ _ aq1 (hX (hb rfl))).mono ?_;intro e s' h;cases e with
   | normal=>exact h.elim
   | _=>exact h
  subst hb1;refine ko (ct:=ct) hc .skip _ _ rfl ?_;exact ko hc Y _ _ aq2 hY
 | _=>exact h.elim
def ah2 {r:Option Nat} {m id:Nat} (hu:P.underlying t=some (.slice e)) {t0 d3 d4:Nat} (h3:d3<N) (h4:d4<N) {t' tyA tyB:TypeId} {pA pB:String} {aA aB:Array Edge}
  {T:List (Nat×AV)} {H:lK} {nx:Nat} {ob i n:Nat} {f:Bool} (hs:iY T t0=.eO ob i n f) {oo:eD} (hoo:hget H ob=some oo) {K:Exit->St->Prop}
  (hK:∀b,(b=true->n=0)->K .normal ⟨(d4,.bool b)::(d3,.eO ob i n f)::T,H,nx⟩):
  Good P cfg N r m (.region id #[⟨some d3,.move (.tmp t0),tyA,pA,aA,none⟩,⟨some d4,.binOp .eql t (.tmp d3) (.const (.slice none 0 0)) t',tyB,pB,aB,none⟩] false) ⟨T,H,nx⟩ K:=by
 intro n0 cx a w I O hS hrd;have hx:=hS.tmps.rep t0 rfl;have hsz:=hS.tmps.size;have hs':iY (⟨T,H,nx⟩:St).tmps t0=.eO ob i n f:=hs;rw[hs']at hx;generalize hxv:a.tmps.getD t0 Go.undef=x at hx;obtain⟨p,hp,_⟩:=hS.rel.live hoo;obtain⟨aa,cap,hxe,_,a2,_,a4⟩:=hx.nH hp;subst hxe;refine wpIn_region ?_;have hb:aa.isNone=true->n=0:=λ h=>by
  rcases Nat.eq_zero_or_pos cap with h0 | h0
  ·omega
  obtain⟨b,bo,sz,_,e2,_⟩:=a4 om;rw[e2]at h;cases h
 refine ac9 rfl rfl (λ c h=>by cases h) (λ c h=>by cases h) (x:=.slice aa n cap) (y:=.bool aa.isNone) ?_ ?_ ?_
 ·simp only[execOp,Act.eval];rw[hxv];rfl
 ·have e1:(a.put (some d3) (.slice aa n cap)).eval (.tmp d3)=.slice aa n cap:=by
   simp[Act.put,Act.eval,hsz,h3]
  have e2:=run_equal_slice_nil (P:=P) w t e aa n cap hu;have e3:(a.put (some d3) (.slice aa n cap)).eval (.const (.slice none 0 0))=.slice none 0 0:=rfl;have hg:(eqGuard .eql t (.tmp d3) (.const (.slice none 0 0)) (.slice aa n cap) (.slice none 0 0)).run P w=.ok () w:=by unfold eqGuard;simp
  simp only[execOp];rw[e1,e3];simp[hg,binOp,e2]
 refine⟨_,I,O,hK aa.isNone hb,hS.m,hS.rel,?_,hS.marks⟩;have h5:=hS.tmps.put (λ _ _ h=>h) (some d3) (λ k hk=>by cases hk;exact h3) (.eO ob i n f) (.slice aa n cap) true (λ _=>hx) (λ h=>by cases h);have h6:=h5.put (λ _ _ h=>h) (some d4) (λ k hk=>by cases hk;exact h4) (.bool aa.isNone) (.bool aa.isNone) true (λ _=>.pure (.bool _)) (λ h=>by cases h);refine⟨h6.defers,h6.size,λ tt _=>?_,λ tt h=>by cases h⟩;have:=h6.rep tt (by rw[Em,Em]);show fC w I O _ (iY ((d4,.bool aa.isNone)::(d3,.eO ob i n f)::T) tt) _;rw[qM,qM];exact this
theorem Tf (hc:iI P cfg) {rr:Option Nat} {m:Nat} {ct:ahb} (hu:P.underlying t=some (.slice e)) {a X Y:Code} {s:St} {K:Exit->St->Prop} (ah1:jq N a=true) (aq1:jq N X=true) (aq2:jq N Y=true)
  {id t0 d3 d4:Nat} (h3:d3<N) (h4:d4<N) {t' tyA tyB:TypeId} {pA pB:String} {aA aB:Array Edge} (T:List (Nat×AV)) (H:lK) (nx:Nat) {ob i n:Nat} {f:Bool} (hs:iY T t0=.eO ob i n f) {oo:eD} (hoo:hget H ob=some oo)
  (h1:lN cfg (Spec P cfg) ct (Loops P cfg N rr m) a s (λ e s'=>match e with | .normal=>s'=⟨T,H,nx⟩ | _=>False))
  (hX:n=0->lN cfg (Spec P cfg) ct (Loops P cfg N rr m) X ⟨(d4,.bool true)::(d3,.eO ob i n f)::T,H,nx⟩ (λ e s'=>match e with | .normal=>False | e=>K e s'))
  (hY:lN cfg (Spec P cfg) ct (Loops P cfg N rr m) Y ⟨(d4,.bool false)::(d3,.eO ob i n f)::T,H,nx⟩ K):
  Loops P cfg N rr m (.seq a (.seq (.seq (.region id #[⟨some d3,.move (.tmp t0),tyA,pA,aA,none⟩,⟨some d4,.binOp .eql t (.tmp d3) (.const (.slice none 0 0)) t',tyB,pB,aB,none⟩] false) (.cond (.tmp d4) X .skip)) Y)) s K:=by
 refine⟨uN ((ko hc a s _ ah1 h1).mono ?_)⟩;intro e s' h;cases e with
 | normal=>
  have h:s'=⟨T,H,nx⟩:=h;subst h;refine uN (uN (ah2 hu h3 h4 hs hoo λ b hb=>?_));have aq3:Zq cfg (iY (⟨(d4,.bool b)::(d3,.eO ob i n f)::T,H,nx⟩:St).tmps) (.tmp d4)=.bool b:=by
   show iY ((d4,.bool b)::(d3,.eO ob i n f)::T) d4=_;rw[qM];simp[mo]
  refine WI aq3 (λ hb1=>?_) (λ hb1=>?_)
  ·subst hb1;refine(ko hc X _ _ aq1 (hX (hb rfl))).mono ?_;intro e s' h;cases e with
   | normal=>exact h.elim
   | _=>exact h
  subst hb1;refine ko (ct:=ct) hc .skip _ _ rfl ?_;exact ko hc Y _ _ aq2 hY
 | _=>exact h.elim
def ace {σ R:Type} (len:Nat) (B:Nat->(σ->M R)->σ->M R) (fin:σ->M R):Nat->σ->M R
 | 0=>fin
 | j+1=>B (len - (j+1)) (ace len B fin j)
def WK (hc:iI P cfg) {m:Nat} {ct ct':ahb} {g:Operand} {p0 p1:Nat} {assign body:Code} {s:St} {K:Exit->St->Prop} (ah1:jq N assign=true) (aqU:jq N body=true) (hp0:p0<N) (hp1:p1<N)
  {gf:FuncId} {caps:aiA} {len:Nat} {e0 e1:Nat->AV} (hit:aaG P gf caps len e0 e1) (hg:Zq cfg (iY s.tmps) g=.fn gf caps) (amj:∀v∈caps,∃cs,v=.ro cs)
  {σ R:Type} {B:Nat->(σ->M R)->σ->M R} {fin:σ->M R} {x0:σ} {r:R} (hm:ace len B fin len x0 r)
  (st:σ->St) (st1:Nat->σ->St) (hnm:∀k gx,Te (st gx).heap=true/\Te (st1 k gx).heap=true) (ρ0:List (Nat×Option Nat)) (h0:Emb m ρ0 s (st x0))
  (ha:∀k l gx,k<len->m<=(st gx).nx/\lN cfg (Spec P cfg) ct (Loops P cfg N (some l) (st gx).nx) assign ⟨(p1,e1 k)::(p0,e0 k)::(st gx).tmps,(st gx).heap,(st gx).nx⟩ (λ e s'=>match e with | .normal=>∃ρ,Emb (st gx).nx ρ s' (st1 k gx) | _=>False))
  (hb:∀k l self gx,k<len->B k self gx r->lN cfg (Spec P cfg) ct' (Loops P cfg N (some l) (st1 k gx).nx) body (st1 k gx) (λ e s'=>match e with | .normal=>∃x' ρ,self x' r/\Emb m ρ ⟨(st gx).tmps,s'.heap,s'.nx⟩ (st x') | .ret=>K .ret ⟨(st gx).tmps,s'.heap,s'.nx⟩ | _=>False))
  (hK:∀gx,fin gx r->K .normal (st gx)):Loops P cfg N none m (.rangeFunc g #[p0,p1] assign body) s K:=by
 refine akp (ct:=ct) (ct':=ct') hc ah1 aqU hp0 hp1 hit hg amj st st1 hnm x0 ρ0 h0 (λ k x=>ace len B fin (len - k) x r) hm (λ k l gx hk _=>ha k l gx hk) ?_ ?_
 ·intro k l gx hk hi;obtain⟨j,hj⟩:∃j,len - k=j+1:=⟨len - k - 1,by omega⟩;have h1:=hi;rw[hj]at h1;have e1:len - (j+1)=k:=by omega
  have h2:B k (ace len B fin j) gx r:=by
   have:B (len - (j+1)) (ace len B fin j) gx r:=h1;rwa [e1]at this
  have e2:j=len - (k+1):=by omega
  subst e2;exact hb k l _ gx hk h2
 intro gx hi;have:=hi;rw[Nat.sub_self]at this;exact hK gx this
end
end Go.Ab

/- An abstract machine over the model's code, that it is sound; models of the functions and their proofs. -/
import Derived.Test.YtccjmcmolnbiiaaGreatDoorA2
import Derived.RangeFuncLeaves
import Derived.RangeFuncNested
import Derived.LoopNIn
import Derived.Laws.Cover3
set_option linter.unusedVariables false
set_option linter.unusedSimpArgs false
namespace Go.Ab
section
variable {P:Program} {cfg:xV} {cx:Ctx} {N:Nat}
def nS (ρ:List (Nat×Option Nat)) (H':lC) (O:OM):OM:=fun o'=>match hget H' o' with
 | none=>none
 | some y=>match tC ρ o' with
  | some o=>O o
  | none=>match y with
   | .row es _ _=>some ⟨es,0,none⟩
   | .box _=>none
   | .map .. => none
theorem abm {H:lC} {o:Nat}:YB H o=true↔∃x,hget H o=some x:=by
 unfold YB;cases hget H o with
 | none=>simp
 | some x=>simp
theorem GX {α:Type}:∀(l:List (Nat×α)) (k:Nat) (x:α),look l k=some x→(k,x)∈l:=by
 intro l;induction l with
 | nil=>intro k x h; cases h
 | cons p l ih=>
  intro k x h;obtain ⟨k',y⟩:=p;simp only [look] at h;cases hb:Nat.beq k' k with
  | true=>simp only [hb] at h; cases h; rw [Nat.eq_of_beq_eq_true hb]; simp
  | false=>simp only [hb] at h; exact List.mem_cons_of_mem _ (ih k x h)
theorem C8 {H:lC} {o:Nat} {x:dY} (h:hget H o=some x):look H o=some (some x):=by
 unfold hget at h;split at h
 ·rename_i y hy; cases h; exact hy
 ·cases h
theorem ag5 {ρ:List (Nat×Option Nat)} {H' H:lC}:∀(l:lC),ajl ρ H' H l→∀o' y,(o',some y)∈l→
  (match tC ρ o' with
  | some o=>∃x,hget H o=some x∧adr ρ H' x y
  | none=>∃es g,y=.row es 0 g):=by
 intro l;induction l with
 | nil=>intro _ o' y h; cases h
 | cons p l ih=>
  intro h o' y hm;obtain ⟨k,z⟩:=p;cases z with
  | none=>
   rcases List.mem_cons.1 hm with e | e
   ·cases e
   ·exact ih h o' y e
  | some z=>
   obtain ⟨h1,h2⟩:=h;rcases List.mem_cons.1 hm with e | e
   ·cases e;split
    ·rename_i o ho;rw [ho] at h1;simp only at h1;split at h1
     ·rename_i x hx; exact ⟨x,hx,h1⟩
     ·exact h1.elim
    ·rename_i ho;rw [ho] at h1;simp only at h1;split at h1
     ·rename_i es n g; subst h1; exact ⟨es,g,rfl⟩
     ·exact h1.elim
   ·exact ih h2 o' y e
structure ami (ρ:List (Nat×Option Nat)) (H' H:lC):Prop where
 ren:∀o' y o,hget H' o'=some y→tC ρ o'=some o→∃x,hget H o=some x
 ghost:∀o' y,hget H' o'=some y→tC ρ o'=none→∃es g,y=.row es 0 g
structure amj (ρ:List (Nat×Option Nat)) (H' H:lC):Prop where
 ren:∀o' y o,hget H' o'=some y→tC ρ o'=some o→∃x,hget H o=some x∧adr ρ H' x y
 ghost:∀o' y,hget H' o'=some y→tC ρ o'=none→∃es g,y=.row es 0 g
theorem ag6 {ρ:List (Nat×Option Nat)} {H' H:lC} (h:ajl ρ H' H H'):amj ρ H' H where
 ren:=fun o' y o hy ho=>by
  have:=ag5 H' h o' y (GX _ _ _ (C8 hy));rw [ho] at this;exact this
 ghost:=fun o' y hy ho=>by
  have:=ag5 H' h o' y (GX _ _ _ (C8 hy));rw [ho] at this;exact this
theorem amj.x {ρ:List (Nat×Option Nat)} {H' H:lC} (h:amj ρ H' H):ami ρ H' H where
 ren:=fun o' y o h1 h2=>let ⟨x,h3,_⟩:=h.ren o' y o h1 h2; ⟨x,h3⟩
 ghost:=h.ghost
theorem U8 {ρ:List (Nat×Option Nat)} {H':lC}:∀(f:Nat) (l m:List AV),mR.R7 ρ H' f l m→l.length=m.length∧∀j,j<m.length→∃f',f'<f∧mR ρ H' f' (nth l j) (nth m j):=by
 intro f;induction f with
 | zero=>intro l m h; exact absurd h (by simp [mR.R7])
 | succ f ih=>
  intro l m h;cases l with
  | nil=>cases m with
   | nil=>exact ⟨rfl,fun j hj=>by cases hj⟩
   | cons v m=>exact absurd h (by simp [mR.R7])
  | cons u l=>cases m with
   | nil=>exact absurd h (by simp [mR.R7])
   | cons v m=>
    simp only [mR.R7] at h
    obtain ⟨h1,h2⟩:=ih l m h.2
    refine ⟨by simp [h1],fun j hj=>?_⟩
    cases j with
    | zero=>exact ⟨f,Nat.lt_succ_self _,h.1⟩
    | succ j=>
     obtain ⟨f',h3,h4⟩:=h2 j (by simpa using hj)
     exact ⟨f',by omega,h4⟩
theorem Sr {ρ:List (Nat×Option Nat)} {H' H:lC} {w:World} {I:Nat→Prop} {O:OM} {D D':Nat→Prop} (hd:∀o,O o=none↔hget H o=none) (hW:ami ρ H' H):
  ∀(f:Nat) (u v:AV) (x:Value),eT w I O D u x→mR ρ H' f u v→eT w I (nS ρ H' O) D' v x:=by
 have live:∀o' o,YB H' o'=true→tC ρ o'=some o→∃p,O o=some p∧nS ρ H' O o'=some p:=by
  intro o' o h1 h2;obtain ⟨y,hy⟩:=abm.1 h1;obtain ⟨z,hz⟩:=hW.ren o' y o hy h2;cases ho:O o with
  | none=>rw [(hd o).1 ho] at hz; cases hz
  | some p=>exact ⟨p,rfl,by unfold nS; rw [hy,h2]; exact ho⟩
 intro f;induction f using Nat.strongRecOn with
 | ind f ih=>
  intro u v x hr he;cases f with
  | zero=>exact absurd he (by simp [mR])
  | succ f=>
   have many:∀(cs cs':List AV) (vs:Array Value),vs.size=cs.length→(∀j,j<cs.length→eT w I O D (nth cs j) (vs.getD j Go.undef))→mR.R7 ρ H' f cs cs'→
     vs.size=cs'.length∧∀j,j<cs'.length→eT w I (nS ρ H' O) D' (nth cs' j) (vs.getD j Go.undef):=by
    intro cs cs' vs h1 h2 h3
    obtain ⟨h4,h5⟩:=U8 f cs cs' h3
    refine ⟨by omega,fun j hj=>?_⟩
    obtain ⟨f',h6,h7⟩:=h5 j hj
    exact ih f' om _ _ _ (h2 j om) h7
   cases v with
   | undef=>exact .pure (.undef x)
   | bool b'=>
    cases u<;>simp only [mR] at he;subst he;rw [hr.lK]; exact .pure (.bool _)
   | int k n=>
    cases u<;>simp only [mR] at he;obtain ⟨rfl,rfl⟩:=he;rw [hr.iO]; exact .pure (.int _ _)
   | str s=>
    cases u<;>simp only [mR] at he;subst he;rw [hr.BU]; exact .pure (.str _)
   | Ey=>
    cases u<;>simp only [mR] at he;cases hr with | pure h=>exact .pure h
   | ro cs=>
    cases u<;>simp only [mR] at he;exact (Le.roL he).rep (.pure hr.YH)
   | sl es' n' f' g'=>
    cases u<;>simp only [mR] at he;rename_i es n fu g;obtain ⟨h0,h1,h2,h3⟩:=he;exact (Le.sl h0 h1 h2 h3).rep (.pure hr.Av)
   | ptr o' i' off'=>
    cases u<;>simp only [mR] at he;rename_i o i off;obtain ⟨h1,h2,rfl,rfl⟩:=he;obtain ⟨p,hp,hp'⟩:=live o' o h1 h2;obtain ⟨b,bo,sz,h3,h4,rfl⟩:=hr.oL hp;exact .ptr hp' h3 h4
   | eH o' i' n' f'=>
    cases u<;>simp only [mR] at he
    ·rename_i es n fu g;obtain ⟨h1,ap0,rfl,rfl,rfl,rfl⟩:=he;obtain ⟨y,hy⟩:=abm.1 h1;obtain ⟨es',g',rfl⟩:=hW.ghost o' y hy ap0;have hp:nS ρ H' O o'=some ⟨es',0,none⟩:=by unfold nS; rw [hy,ap0]
     cases hr.Av with
     | sl b off vs hcap hfull ha hes hm hone hrr=>
      have hc:=hfull rfl;exact .eH hp (Nat.le_refl _) hcap (fun _=>hc) (fun h=>absurd hc h) (Nat.zero_le _)
    ·rename_i o i n fu;obtain ⟨h1,h2,rfl,rfl,h3⟩:=he;obtain ⟨p,hp,hp'⟩:=live o' o h1 h2;obtain ⟨a,cap,rfl,h4,h5,h6,h7⟩:=hr.mU hp;exact .eH hp' h4 h5 (fun h=>h6 (h3 h)) h7 (hr.EO hp)
   | mref o'=>
    cases u<;>simp only [mR] at he;rename_i o;obtain ⟨h1,h2⟩:=he;obtain ⟨p,hp,hp'⟩:=live o' o h1 h2;obtain ⟨b,bo,sz,h3,rfl⟩:=hr.YI hp;exact .mref hp' h3
   | agg cs'=>
    cases u<;>simp only [mR] at he;obtain ⟨vs,rfl,h1,h2⟩:=hr.vV;obtain ⟨h3,h4⟩:=many _ cs' vs h1 h2 he;exact .agg h3 h4
   | kH cs'=>
    cases u<;>simp only [mR] at he;obtain ⟨vs,rfl,h1,h2⟩:=hr.Ja;obtain ⟨h3,h4⟩:=many _ cs' vs h1 h2 he;exact .kH h3 h4
   | fn g cs'=>
    cases u<;>simp only [mR] at he;obtain ⟨rfl,he⟩:=he;obtain ⟨vs,rfl,h1,h2⟩:=hr.Mf;obtain ⟨h3,h4⟩:=many _ cs' vs h1 h2 he;exact .fn h3 h4
theorem amk {ρ:List (Nat×Option Nat)} {H' H:lC} {w:World} {I:Nat→Prop} {O:OM} {D D':Nat→Prop} (hd:∀o,O o=none↔hget H o=none) (hW:amj ρ H' H) {x y:dY} {p:Own} (h:iY w I O D p x) (he:adr ρ H' x y):
  iY w I (nS ρ H' O) D' p y:=by
 cases x with
 | box cs=>
  cases y with
  | row es n g=>exact he.elim
  | map kd z f=>exact he.elim
  | box cs'=>
   obtain ⟨h1,b,bo,sz,hp,ha,hl,hr⟩:=h;obtain ⟨h2,h3⟩:=U8 _ cs cs' he;refine ⟨h1,b,bo,sz,hp,ha,by omega,fun j hj=>?_⟩;obtain ⟨f',_,h4⟩:=h3 j hj;exact Sr hd hW.x f' _ _ _ (hr j om) h4
 | row es n g=>
  cases y with
  | box cs'=>exact he.elim
  | map kd z f=>exact he.elim
  | row es' n' g'=>
   have hO:iY w I (nS ρ H' O) D' p (.row es n g):=by
    obtain ⟨h1,h2,h3,h4⟩:=h;refine ⟨h1,h2,h3,?_⟩;rcases h4 with h4 | ⟨b,bo,sz,hp,ha,hl,hr⟩
    ·exact .inl h4
    ·exact .inr ⟨b,bo,sz,hp,ha,hl,hr⟩
   exact LeO.rep (x:=.row es n g) (y:=.row es' n' g') he hO
 | map kd z f=>
  cases y with
  | box cs'=>exact he.elim
  | row es n g=>exact he.elim
  | map kd' z' f'=>
   obtain ⟨rfl,rfl,rfl⟩:=he;exact h
theorem ad3 {m nx:Nat} {ρ:List (Nat×Option Nat)}:∀(H:lC),QL m nx ρ H=true→∀p∈H,p.1<nx∧(p.1<m→tC ρ p.1=some p.1):=by
 intro H;induction H with
 | nil=>intro _ p h; cases h
 | cons q H ih=>
  intro h p hp;obtain ⟨o',z⟩:=q;unfold QL at h;cases h1:Nat.blt o' nx with
  | false=>simp [h1] at h
  | true=>
   simp only [h1] at h;have hlt:o'<nx:=by simpa using h1
   have rest:QL m nx ρ H=true∧(o'<m→tC ρ o'=some o'):=by
    split at h
    ·rename_i o ho;split at h
     ·rename_i hb;have:=Nat.eq_of_beq_eq_true hb;subst this;exact ⟨h,fun _=>ho⟩
     ·split at h
      ·rename_i hle;have hle':=Nat.le_of_ble_eq_true hle;exact ⟨h,fun hlt=>by omega⟩
      ·cases h
    ·split at h
     ·rename_i hle;have hle':=Nat.le_of_ble_eq_true hle;exact ⟨h,fun hlt=>by omega⟩
     ·cases h
   rcases List.mem_cons.1 hp with e | e
   ·subst e; exact ⟨hlt,rest.2⟩
   ·exact ih rest.1 p e
theorem ad4 {ρ:List (Nat×Option Nat)}:∀(H:lC) (o' o:Nat) (y:dY),(o',some y)∈H→tC ρ o'=some o→o∈YC ρ H:=by
 intro H;induction H with
 | nil=>intro o' o y h; cases h
 | cons q H ih=>
  intro o' o y h hr;obtain ⟨k,z⟩:=q;rcases List.mem_cons.1 h with e | e
  ·cases e;simp only [YC,hr];simp
  ·have:=ih o' o y e hr;cases z with
   | none=>exact this
   | some z=>
    simp only [YC];split
    ·exact List.mem_cons_of_mem _ this
    ·exact this
theorem ajX {ρ:List (Nat×Option Nat)}:∀(H:lC),oJ (YC ρ H)=true→∀o1 o2 o y1 y2,(o1,some y1)∈H→(o2,some y2)∈H→tC ρ o1=some o→tC ρ o2=some o→o1=o2:=by
 intro H;induction H with
 | nil=>intro _ o1 o2 o y1 y2 h; cases h
 | cons q H ih=>
  intro hnd o1 o2 o y1 y2 h1 h2 hr1 hr2;obtain ⟨k,z⟩:=q;have tail:oJ (YC ρ H)=true∧∀y,z=some y→∀o,tC ρ k=some o→o ∉ YC ρ H:=by
   cases z with
   | none=>exact ⟨hnd,fun y h=>by cases h⟩
   | some z=>
    simp only [YC] at hnd;split at hnd
    ·rename_i oo hoo;unfold oJ at hnd;split at hnd
     ·cases hnd
     ·rename_i hm;refine ⟨hnd,fun y _ o ho=>?_⟩;rw [hoo] at ho;cases ho;exact yF hm
    ·rename_i hnone;exact ⟨hnd,fun y _ o ho=>by rw [hnone] at ho; cases ho⟩
  rcases List.mem_cons.1 h1 with e1 | e1<;>rcases List.mem_cons.1 h2 with e2 | e2
  ·cases e1; cases e2; rfl
  ·cases e1; exact absurd (ad4 H o2 o y2 e2 hr2) (tail.2 _ rfl o hr1)
  ·cases e2; exact absurd (ad4 H o1 o y1 e1 hr1) (tail.2 _ rfl o hr2)
  ·exact ih tail.1 o1 o2 o y1 y2 e1 e2 hr1 hr2
theorem ajY {ρ:List (Nat×Option Nat)} {H':lC} {T:List (Nat×AV)}:∀(l:List (Nat×AV)),anU ρ H' T l→∀t,iN l t=.undef∨mR ρ H' fuel (iN T t) (iN l t):=by
 intro l;induction l with
 | nil=>intro _ t; exact .inl rfl
 | cons p l ih=>
  intro h t;obtain ⟨k,v⟩:=p;obtain ⟨h1,h2⟩:=h;unfold iN;simp only [look];cases hb:Nat.beq k t with
  | true=>
   have:=Nat.eq_of_beq_eq_true hb;subst this;exact .inr h1
  | false=>exact ih h2 t
theorem GY {m:Nat} {ρ:List (Nat×Option Nat)} {s s':St} {a:Act} {w:World} {I:Nat→Prop} {O:OM} (hS:jH cfg N m cx s a w I O) (h:Emb m ρ s s'):jH cfg N m cx s' a w I (nS ρ s'.heap O):=by
 obtain ⟨afS,htm,hhp⟩:=h;obtain ⟨hm,hR,hT,hMk⟩:=hS;have hW:=ag6 hhp;unfold afk at afS;split at afS
 ·rename_i hk hnd hun;have hle:m≤s'.nx:=Nat.le_of_ble_eq_true afS;have hkeys:=ad3 _ hk;have inv:∀o' p,nS ρ s'.heap O o'=some p→∃y,hget s'.heap o'=some y∧((∃o,tC ρ o'=some o∧O o=some p)∨p.pl=none):=by
   intro o' p hp;unfold nS at hp;split at hp
   ·cases hp
   ·rename_i y hy;refine ⟨y,hy,?_⟩;split at hp
    ·rename_i o ho; exact .inl ⟨o,ho,hp⟩
    ·split at hp
     ·cases hp; exact .inr rfl
     ·cases hp
     ·cases hp
  refine ⟨hm,⟨?_,?_,?_,?_,?_,?_,hR.Au,hR.size,hR.frame,?_,hR.glob,hR.R9,hR.Ws,?_,?_,hR.env,fun o' kd z f p b bo sz q1 q2 q3=>?_⟩,⟨rfl,hT.size,fun t _=>?_,fun t h=>by cases h⟩,hMk⟩
  ·intro o';constructor
   ·intro h;cases hy:hget s'.heap o' with
    | none=>rfl
    | some y=>
     exfalso;unfold nS at h;rw [hy] at h;simp only at h;split at h
     ·rename_i o ho;obtain ⟨x,hx,_⟩:=hW.ren o' y o hy ho;rw [(hR.dom o).1 h] at hx;cases hx
     ·rename_i ho;obtain ⟨es,g,rfl⟩:=hW.ghost o' y hy ho;cases h
   ·intro h;unfold nS;rw [h]
  ·intro o' p hp;obtain ⟨y,hy,_⟩:=inv o' p hp;exact (hkeys _ (GX _ _ _ (C8 hy))).1
  ·intro o' y p hy hp;unfold nS at hp;rw [hy] at hp;simp only at hp;split at hp
   ·rename_i o ho;obtain ⟨x,hx,he⟩:=hW.ren o' y o hy ho;exact amk hR.dom hW (hR.objs o x p hx hp) he
   ·rename_i ho;obtain ⟨es,g,rfl⟩:=hW.ghost o' y hy ho;cases hp;exact ⟨rfl,rfl,fun i hi=>absurd hi (Nat.not_lt_zero i),.inl ⟨rfl,rfl⟩⟩
  ·intro o1 o2 p1 p2 b bo sz b' pQ sz' h1 h2 hp1 hp2 hne;obtain ⟨y1,hy1,e1⟩:=inv o1 p1 h1;obtain ⟨y2,hy2,e2⟩:=inv o2 p2 h2;rcases e1 with ⟨q1,hr1,ho1⟩ | e1
   ·rcases e2 with ⟨q2,hr2,ho2⟩ | e2
    ·refine hR.inj q1 q2 p1 p2 b bo sz b' pQ sz' ho1 ho2 hp1 hp2 fun e=>?_;subst e;exact hne (ajX _ hnd o1 o2 q1 y1 y2 (GX _ _ _ (C8 hy1)) (GX _ _ _ (C8 hy2)) hr1 hr2)
    ·rw [e2] at hp2; cases hp2
   ·rw [e1] at hp1; cases hp1
  ·intro o p b bo sz h hp;obtain ⟨y,hy,⟨q,hr,ho⟩ | e⟩:=inv o p h
   ·exact hR.pR q p b bo sz ho hp
   ·rw [e] at hp; cases hp
  ·intro o p b bo sz h hp;obtain ⟨y,hy,⟨q,hr,ho⟩ | e⟩:=inv o p h
   ·exact hR.lt q p b bo sz ho hp
   ·rw [e] at hp; cases hp
  ·intro o p b bo sz h hp;obtain ⟨y,hy,⟨q,hr,ho⟩ | e⟩:=inv o p h
   ·exact hR.new q p b bo sz ho hp
   ·rw [e] at hp; cases hp
  ·intro o hlt;rw [hm] at hlt;cases hy:hget s'.heap o with
   | none=>exact .inr (by unfold nS; rw [hy])
   | some y=>
    have:=(hkeys _ (GX _ _ _ (C8 hy))).2 hlt;have e:nS ρ s'.heap O o=O o:=by unfold nS; rw [hy,this]
    rw [e];exact hR.YF o (by rw [hm]; exact hlt)
  ·intro o hlt;rw [hm] at hlt;exact Nat.lt_of_lt_of_le hlt hle
  ·obtain ⟨y,hy,⟨q,hr,ho⟩ | e⟩:=inv o' p q2
   ·obtain ⟨x,hx,hxe⟩:=hW.ren o' _ q q1 hr;cases x with
    | box=>exact hxe.elim
    | row=>exact hxe.elim
    | map kd' z' f'=>exact hR.maps q kd' z' f' p b bo sz hx ho q3
   ·rw [e] at q3; cases q3
  ·rcases ajY _ htm t with e | e
   ·rw [e]; exact .pure (.undef _)
   ·exact Sr hR.dom hW.x _ _ _ _ (hT.rep t rfl) e
 ·cases afS
end
end Go.Ab
namespace Go.Ab
section
variable {P:Program} {cfg:xV} {N:Nat} {cx:Ctx}
structure rP (w' w:World):Prop where
 cell:∀a v,w.cell? a=some v→w'.cell? a=some v
 frozen:∀a,(w.cell? a).isSome=true→w'.frozen? a=w.frozen? a
 size:w.heap.size≤w'.heap.size
 maps:∀(b:Nat) (es:Array MapEntry) (c:Nat),w.heap[b]? = some (Obj.map es c)→w'.heap[b]? = some (Obj.map es c)
theorem iG.turn {w w':World} (h:rP w' w) {I:Nat→Prop} {v:AV} {x:Value} (hp:iG w I v x):iG w' I v x:=by
 induction hp with
 | undef x=>exact .undef x
 | bool b=>exact .bool b
 | int k n=>exact .int k n
 | str s=>exact .str s
 | Ey=>exact .Ey
 | sl b off vs hcap hfull ha hes hm h1 hr ih=>exact .sl b off vs hcap hfull ha hes (fun i j hi hj=>h.cell _ _ (hm i j hi hj)) h1 ih
 | ro b off vs hI hm hr ih=>exact .ro b off vs hI (fun j hj=>h.cell _ _ (hm j hj)) ih
 | agg hl hr ih=>exact .agg hl ih
 | fn hl hr ih=>exact .fn hl ih
 | kH hl hr ih=>exact .kH hl ih
theorem eT.turn {w w':World} (h:rP w' w) {I:Nat→Prop} {O:OM} {D:Nat→Prop} {v:AV} {x:Value} (hp:eT w I O D v x):eT w' I O D v x:=by
 induction hp with
 | pure hp=>exact .pure (hp.turn h)
 | ptr ho hp hi=>exact .ptr ho hp hi
 | eH ho hi hcap hfull hpl hext=>exact .eH ho hi hcap hfull hpl hext
 | Di ho hd h1=>exact .Di ho hd h1
 | Bv ho hd h1=>exact .Bv ho hd h1
 | mref ho hp=>exact .mref ho hp
 | R8 ho hd h1=>exact .R8 ho hd h1
 | agg hl hr ih=>exact .agg hl ih
 | fn hl hr ih=>exact .fn hl ih
 | kH hl hr ih=>exact .kH hl ih
theorem iY.turn {w w':World} (h:rP w' w) {I:Nat→Prop} {O:OM} {D:Nat→Prop} {p:Own} {x:dY} (hp:iY w I O D p x):iY w' I O D p x:=by
 have hal:∀b sz,Mc w b sz→Mc w' b sz:=fun b sz ha j hj=>by
  obtain ⟨h1,h2⟩:=ha j hj;obtain ⟨v,hv⟩:=Option.isSome_iff_exists.1 h1;rw [h.cell _ _ hv,h.frozen _ h1];exact ⟨rfl,h2⟩
 have hca:∀b sz j,Mc w b sz→j<sz→cellAt w' b j=cellAt w b j:=fun b sz j ha hj=>by
  obtain ⟨v,hv⟩:=Option.isSome_iff_exists.1 (ha j hj).1;unfold cellAt;rw [h.cell _ _ hv,hv]
 cases x with
 | box cs=>
  obtain ⟨h1,b,bo,sz,h2,h3,h4,h5⟩:=hp;exact ⟨h1,b,bo,sz,h2,hal b sz h3,h4,fun j hj=>by rw [hca b sz _ h3 om]; exact (h5 j hj).turn h⟩
 | row es n g=>
  obtain ⟨h1,h2,h3,h4⟩:=hp;refine ⟨h1,h2,h3,h4.imp id ?_⟩;rintro ⟨b,bo,sz,q1,q2,q3,q4⟩;exact ⟨b,bo,sz,q1,hal b sz q2,q3,fun i j hi hj=>by
   have hlt:i*es+j<n*es:=by
    have:(i+1)*es≤n*es:=Nat.mul_le_mul_right _ hi;rw [Nat.add_mul] at this;omega
   rw [hca b sz _ q2 om];exact ⟨(q4 i j hi hj).1.turn h,(q4 i j hi hj).2⟩⟩
 | map kd z f=>
  obtain ⟨h1,b,bo,sz,es,clock,q1,q2,q3⟩:=hp;exact ⟨h1,b,bo,sz,es,clock,q1,h.maps b es clock q2,q3⟩
theorem Rel.turn {H:Nat→Option dY} {D:Nat→Prop} {w w':World} {I:Nat→Prop} {O:OM} (h:rP w' w) (hfr:∀b,b<cx.w0.heap.size→w'.heap[b]? = w.heap[b]?) (he:GI cx w') (hR:Rel cfg cx H D w I O):Rel cfg cx H D w' I O where
 dom:=hR.dom
 used:=hR.used
 objs:=fun o ob p h1 h2=>(hR.objs o ob p h1 h2).turn h
 inj:=hR.inj
 pR:=hR.pR
 lt:=fun o p b bo sz h1 h2=>Nat.lt_of_lt_of_le (hR.lt o p b bo sz h1 h2) h.size
 Au:=fun b hb=>Nat.lt_of_lt_of_le (hR.Au b hb) h.size
 size:=Nat.le_trans hR.size h.size
 frame:=fun b h1 h2=>by rw [hfr b h1]; exact hR.frame b h1 h2
 new:=hR.new
 glob:=fun g cs hg=>(hR.glob g cs hg).turn h
 R9:=hR.R9
 Ws:=hR.Ws
 YF:=hR.YF
 Dm:=hR.Dm
 maps:=hR.maps
 env:=he
theorem jH.turn {m:Nat} {s:St} {a a':Act} {w w':World} {I:Nat→Prop} {O:OM} (h:rP w' w) (hfr:∀b,b<cx.w0.heap.size→w'.heap[b]? = w.heap[b]?) (he:GI cx w') (ha:a'.tmps=a.tmps) (hm:Marks cx w' a'.defers) (hS:jH cfg N m cx s a w I O):jH cfg N m cx s a' w' I O:=
 ⟨hS.m,hS.rel.turn h hfr he,⟨rfl,by rw [ha]; exact hS.tmps.size,fun t ht=>by rw [ha]; exact (hS.tmps.rep t ht).turn h,fun t ht=>by cases ht⟩,hm⟩
theorem FZ {w:World} {D:Nat} {o o':Obj} (h:w.heap[D]? = some o) (ho:OG o=true) (hnm:∀es c,o≠.map es c:=by intro _ _ h; cases h):rP (w.putObj D o') w:=by
 have hlt:D<w.heap.size:=by
  rcases Nat.lt_or_ge D w.heap.size with h1 | h1
  ·exact h1
  ·rw [Array.getElem?_eq_none h1] at h; cases h
 have hno:∀a:Addr,a.block=D→w.cell? a=none:=fun a e=>by
  unfold World.cell?;rw [e,h];cases o<;>first | rfl | exact absurd ho Bool.false_ne_true
 refine ⟨fun a v hv=>?_,fun a hv=>?_,by simp [World.putObj],fun b es c hb=>?_⟩
 ·by_cases e:a.block=D
  ·rw [hno a e] at hv; cases hv
  ·unfold World.cell? at hv ⊢;rw [World.putObj_heap_other e];exact hv
 ·by_cases e:a.block=D
  ·rw [hno a e] at hv; cases hv
  ·unfold World.frozen?;rw [World.putObj_heap_other e]
 ·by_cases e:b=D
  ·subst e;rw [h] at hb;exact absurd (Option.some.inj hb) (hnm es c)
  ·rw [World.putObj_heap_other e];exact hb
theorem aml {w:World} {D:Nat} {o':Obj} (hD:cx.w0.heap.size≤D) (hK:∀k o,¬ cx.K k o) (he:GI cx w):GI cx (w.putObj D o'):=by
 refine ⟨⟨he.same.os,he.same.tape,he.same.output,fun k o hk ho=>?_⟩,fun k o h=>absurd h (hK k o)⟩;have hlt:k<cx.w0.heap.size:=by
  rcases Nat.lt_or_ge k cx.w0.heap.size with h1 | h1
  ·exact h1
  ·rw [Array.getElem?_eq_none h1] at hk; cases hk
 rw [World.putObj_heap_other om];exact he.same.keep k o hk ho
theorem BZ {F:Fence} {n m:Nat} {fn:Func} {s:St} {R:Ending→World→Prop} (hK:∀k o,¬ cx.K k o)
  (fin:∀(a:Act) (w:World) (I:Nat→Prop) (O:OM),jH cfg N m cx s a w I O→∃v,(results fn a.tmps).run P w=.ok v w∧R (.returned v) w):
  ∀(ms:List Nat) (tmps:Array Value) (w:World) (I:Nat→Prop) (O:OM),ms.Nodup→(∀D∈ms,cx.w0.heap.size≤D∧w.heap[D]? = some (.deferred (some [])))→jH cfg N m cx s ⟨tmps,[]⟩ w I O→LeavesInM F n P fn tmps R (ms.map YZ) .returning w:=by
 intro ms;induction ms with
 | nil=>
  intro tmps w I O _ _ hS;exact fin _ w I O hS
 | cons D ms ih=>
  intro tmps w I O hnd hms hS;obtain ⟨hD1,hD2⟩:=hms D (List.mem_cons_self ..);rw [List.nodup_cons] at hnd;refine ⟨nofun,.inl ⟨D,w.putObj D (.deferred none),rfl,run_takeDeferred hD2,?_⟩⟩;refine ih tmps _ I O hnd.2 (fun D' hD'=>?_) ?_
  ·have hne:D'≠D:=fun e=>hnd.1 (e ▸ hD');rw [World.putObj_heap_other hne];exact hms D' (List.mem_cons_of_mem _ hD')
  ·exact hS.turn (FZ hD2 rfl) (fun b hb=>World.putObj_heap_other om) (aml hD1 hK hS.rel.env) rfl ⟨[],List.nodup_nil,fun _=>rfl,rfl,fun _ h=>by cases h⟩
end
end Go.Ab
namespace Go.Ab
section
variable {P:Program} {cfg:xV} {cx:Ctx} {N:Nat}
def ad5 (tmps:Array Value):ResultVar→Sem Value
 | .tmp t=>pure (tmps.getD t undef)
 | .cell a t=>do loadVar t (← asAddr (tmps.getD a undef))
theorem ad6 (hc:iy P cfg) {m:Nat} {s:St} {a:Act} {w:World} {I:Nat→Prop} {O:OM} (hS:jH cfg N m cx s a w I O):∀(rs:List ResultVar) (vs:List AV),J7 cfg s rs=some vs→
  ∃xs:List Value,(rs.mapM (ad5 a.tmps)).run P w=.ok xs w∧xs.length=vs.length∧∀j,j<vs.length→eT w I O (fun o=>o<s.nx) (nth vs j) (xs.getD j Go.undef):=by
 intro rs;induction rs with
 | nil=>intro vs h; cases h; exact ⟨[],by simp,rfl,fun j hj=>by cases hj⟩
 | cons q rs ih=>
  intro vs h;cases q with
  | tmp t=>
   simp only [J7] at h;split at h
   ·rename_i vs' hvs;cases h;obtain ⟨xs,h1,h2,h3⟩:=ih vs' hvs;refine ⟨a.tmps.getD t Go.undef::xs,?_,by simp [h2],fun j hj=>?_⟩
    ·rw [List.mapM_cons];simp [ad5,h1]
    ·cases j with
     | zero=>exact hS.tmps.rep t rfl
     | succ j=>exact h3 j (by simpa using hj)
   ·cases h
  | cell ad ty=>
   simp only [J7] at h;split at h
   ·rename_i vs' o ti hvs had hty;have key:∀(cs:List AV) (b bo sz:Nat),a.tmps.getD ad Go.undef=.pointer (some ⟨b,bo,none⟩)→Mc w b sz→bo+cs.length≤sz→(∀j,j<cs.length→eT w I O (fun o=>o<s.nx) (nth cs j) (cellAt w b (bo+j)))→
      ∀v,fM (fun _ _ _ _ _=>True) (hget s.heap) (Aq ti cs) v [] []→∃xs:List Value,((ResultVar.cell ad ty::rs).mapM (ad5 a.tmps)).run P w=.ok xs w∧xs.length=(v::vs').length∧∀j,j<(v::vs').length→eT w I O (fun o=>o<s.nx) (nth (v::vs') j) (xs.getD j Go.undef):=by
     intro cs b bo sz hgd hal hle hcs v hv
     obtain ⟨xs,h1,h2,h3⟩:=ih vs' hvs
     obtain ⟨_,x,hrun,hx⟩:=qK (w:=w) (I:=I) (O:=O) (D:=fun o=>o<s.nx) hc hty hv b bo (fun j=>cellAt w b (bo+j)) (fun j hj=>uZ hal om) (fun j hj=>hcs j hj)
     have hrun':(loadVar ty ⟨b,bo,none⟩).run P w=.ok x w:=by
      have:=hrun
      simp [Instr.loadAt,Instr.sureAddr] at this
      exact this
     refine ⟨x::xs,?_,by simp [h2],fun j hj=>?_⟩
     ·rw [List.mapM_cons,Sem.run_bind]
      have e:(ad5 a.tmps (.cell ad ty)).run P w=.ok x w:=by
       unfold ad5
       simp only
       rw [hgd]
       simp [asAddr,hrun']
      rw [e]
      simp [h1]
     ·cases j with
      | zero=>exact hx
      | succ j=>exact h3 j (by simpa using hj)
    have hrep:=hS.tmps.rep ad rfl;rw [had] at hrep;split at h
    ·rename_i cs nK;obtain ⟨p,hp,hO⟩:=hS.rel.live nK;obtain ⟨b,bo,sz,hpl,hi,hxv⟩:=hrep.oL hp;obtain ⟨hn,b',pQ,sz',hpl',hal,hle,hcs⟩:=hO;rw [hpl] at hpl';cases hpl';simp only [Nat.zero_mul,Nat.add_zero] at hxv;have key:=key cs b bo sz hxv hal hle hcs;split at h
     ·rename_i hag;split at h
      ·rename_i hsz;cases h;refine key _ ?_;unfold Aq;rw [hag];simp only [gL,hsz];exact .ret _ _
      ·cases h
     ·rename_i hag;split at h
      ·cases h;refine key _ ?_;unfold Aq;rw [hag];exact .ret _ _
      ·cases h
    ·rename_i es n g nK;obtain ⟨p,hp,hO⟩:=hS.rel.live nK;obtain ⟨b,bo,sz,hpl,hi,hxv⟩:=hrep.oL hp;obtain ⟨hn,hes,hlen,hpl' | ⟨b',pQ,sz',hpl',hal,hle,hcs⟩⟩:=hO
     ·rw [hpl] at hpl'; cases hpl'.2
     rw [hpl] at hpl';cases hpl';simp only [Nat.zero_mul,Nat.add_zero] at hxv;obtain ⟨hrl,hrr⟩:=Sd hlen hcs;have key:=key (kQ n 0 g) b bo sz hxv hal om (fun j hj=>.pure (hrr j hj));split at h
     ·rename_i hag;split at h
      ·rename_i hsz;cases h;refine key _ ?_;unfold Aq;rw [hag];simp only [gL,hsz];exact .ret _ _
      ·cases h
     ·cases h
    ·cases h
   ·cases h
theorem WC (hc:iy P cfg) {m:Nat} {s:St} {a:Act} {w:World} {I:Nat→Prop} {O:OM} (hS:jH cfg N m cx s a w I O) {fn:Func} {vs:List AV} (h:J7 cfg s fn.results.toList=some vs):
  ∃x,(results fn a.tmps).run P w=.ok x w∧eT w I O (fun o=>o<s.nx) (oneOf vs) x:=by
 obtain ⟨xs,h1,h2,h3⟩:=ad6 hc hS _ _ h;have hrun:(results fn a.tmps).run P w=.ok (if h:xs.toArray.size=1 then xs.toArray[0] else .tuple xs.toArray) w:=by
  have e0:results fn a.tmps=(fn.results.mapM (ad5 a.tmps)) >>= fun vs=>pure (if h:vs.size=1 then vs[0] else .tuple vs):=by
   unfold results;congr 1
  have e2:fn.results.mapM (ad5 a.tmps)=Functor.map List.toArray (fn.results.toList.mapM (ad5 a.tmps)):=by
   rw [← List.mapM_toArray]
  rw [e0,Sem.run_bind,e2,Sem.run_map,h1];rfl
 refine ⟨_,hrun,?_⟩;match xs,vs,h2,h3 with
 | [],[],_,_=>exact .kH rfl fun j hj=>by cases hj
 | [x],[v],_,h3=>exact h3 0 (by simp)
 | x::x'::xs,v::v'::vs,h2,h3=>
  have:¬ (x::x'::xs).toArray.size=1:=by simp
  rw [dif_neg this]
  exact .kH (by simpa using h2) fun j hj=>by simpa using h3 j hj
theorem ad7:∀(obs:List dY) (i o:Nat),hget (I9.oK obs i) o=if i≤o then hof obs (o - i) else none:=by
 intro obs;induction obs with
 | nil=>intro i o; simp [I9.oK,hget,look,hof]
 | cons x l ih=>
  intro i o;unfold I9.oK hget;simp only [look];cases hb:Nat.beq i o with
  | true=>
   have:=Nat.eq_of_beq_eq_true hb;subst this;simp [hof]
  | false=>
   have hne:i≠o:=fun e=>by subst e; simp at hb
   have:=ih (i+1) o;unfold hget at this;simp only;rw [this];by_cases hi:i≤o
   ·rw [if_pos hi,if_pos om,show o - i=(o - (i+1))+1 by omega];rfl
   ·rw [if_neg hi,if_neg om]
theorem Jg (obs:List dY):hget (I9.oK obs 0)=hof obs:=by
 funext o;rw [ad7];simp
theorem Y0:∀(l:List AV) (i t:Nat),iN (J8 l i) t=if i≤t then nth l (t - i) else .undef:=by
 intro l;induction l with
 | nil=>intro i t; simp [J8,iN,look,nth]
 | cons v l ih=>
  intro i t;unfold J8 iN;simp only [look];cases hb:Nat.beq i t with
  | true=>
   have:=Nat.eq_of_beq_eq_true hb;subst this;simp [nth]
  | false=>
   have hne:i≠t:=fun e=>by subst e; simp at hb
   have:=ih (i+1) t;unfold iN at this;simp only;rw [this];by_cases hi:i≤t
   ·rw [if_pos hi,if_pos om,show t - i=(t - (i+1))+1 by omega];rfl
   ·rw [if_neg hi,if_neg om]
theorem ah5:∀(n i:Nat),(upTo n i).length=n∧∀j,j<n→iw (upTo n i) j=i+j:=by
 intro n;induction n with
 | zero=>intro i; exact ⟨rfl,fun j hj=>by cases hj⟩
 | succ n ih=>
  intro i;obtain ⟨h1,h2⟩:=ih (i+1);refine ⟨by simp [upTo,h1],fun j hj=>?_⟩;cases j with
  | zero=>rfl
  | succ j=>show iw (upTo n (i+1)) j=_; rw [h2 j om]; omega
theorem aau (l m:List Nat) (j:Nat) (h:j<l.length):iw (l++m) j=iw l j:=by
 induction l generalizing j with
 | nil=>cases h
 | cons x l ih=>cases j with
  | zero=>rfl
  | succ j=>exact ih j (by simpa using h)
theorem ad8 {H:lC}:∀(sg:List Nat) (obs:List dY),YD H sg obs→obs.length=sg.length∧∀j,j<sg.length→∃x y,hget H (iw sg j)=some x∧hof obs j=some y∧Ya x=true∧adr [] [] x y:=by
 intro sg;induction sg with
 | nil=>intro obs h; cases obs with
  | nil=>exact ⟨rfl,fun j hj=>by cases hj⟩
  | cons=>exact h.elim
 | cons o sg ih=>intro obs h; cases obs with
  | nil=>exact h.elim
  | cons y obs=>
   obtain ⟨h1,h2⟩:=h
   obtain ⟨h3,h4⟩:=ih obs h2
   refine ⟨by simp [h3],fun j hj=>?_⟩
   cases j with
   | zero=>
    split at h1
    ·rename_i x hx
     split at h1
     ·rename_i hp; exact ⟨x,y,hx,rfl,hp,h1⟩
     ·exact h1.elim
    ·exact h1.elim
   | succ j=>exact h4 j (by simpa using hj)
theorem ajZ:ami [] [] [] where
 ren:=fun _ _ _ h=>by cases h
 ghost:=fun _ _ h=>by cases h
theorem iY.aoe {w:World} {I I':Nat→Prop} {O O':OM} {D D':Nat→Prop} {p:Own} {x y:dY} (hI:∀b,I b→I' b) (h:iY w I O D p x) (hp:Ya x=true) (he:adr [] [] x y):iY w I' O' D' p y:=by
 cases x with
 | box cs=>
  cases y with
  | row es n g=>exact he.elim
  | map kd z f=>exact he.elim
  | box cs'=>
   obtain ⟨h1,b,bo,sz,hpl,ha,hl,hr⟩:=h;obtain ⟨h2,h3⟩:=U8 _ cs cs' he;refine ⟨h1,b,bo,sz,hpl,ha,by omega,fun j hj=>?_⟩;obtain ⟨f',_,h4⟩:=h3 j hj;have hx:=(hr j om).zO (aaq hp j om);have hy:eT w I (nS [] [] fun _=>none) (fun _=>False) (nth cs' j) (cellAt w b (bo+j)):=Sr (H:=[]) (O:=fun _=>none) (D:=fun _=>False) (fun o=>by simp [hget,look]) ajZ f' _ _ _ (.pure hx) h4;have e:(nS [] [] fun _=>none)=(fun _=>none:OM):=by funext o; simp [nS,hget,look]
   rw [e] at hy;exact .pure ((EP hy).mono hI fun _ _=>rfl)
 | row es n g=>
  cases y with
  | box cs'=>exact he.elim
  | map kd z f=>exact he.elim
  | row es' n' g'=>
   have hO:iY w I' O' D' p (.row es n g):=by
    obtain ⟨h1,h2,h3,h4⟩:=h;refine ⟨h1,h2,h3,?_⟩;rcases h4 with h4 | ⟨b,bo,sz,hp,ha,hl,hr⟩
    ·exact .inl h4
    ·exact .inr ⟨b,bo,sz,hp,ha,hl,fun i j hi hj=>⟨(hr i j hi hj).1.mono hI fun _ _=>rfl,(hr i j hi hj).2⟩⟩
   exact LeO.rep (x:=.row es n g) (y:=.row es' n' g') he hO
 | map kd z f=>cases hp
theorem Rel.home {H:Nat→Option dY} {D:Nat→Prop} {w:World} {I:Nat→Prop} {O:OM} (hR:Rel cfg cx H D w I O) {ex ids:List Nat} {obs:List dY} (hnd:oJ (upTo cx.m 0++ex)=true) (hdj:LZ ids (upTo cx.m 0++ex)=true) (hl:obs.length=(upTo cx.m 0++ex).length)
  (Xi:∀j,j<(upTo cx.m 0++ex).length→∃x y,H (iw (upTo cx.m 0++ex) j)=some x∧hof obs j=some y∧Ya x=true∧adr [] [] x y):
  Rel cfg cx (hof obs) (fun o=>o<obs.length) w (fun b=>I b∨Ew O ids b) (pV O (upTo cx.m 0++ex))∧∀o,o<cx.m→pV O (upTo cx.m 0++ex) o=cx.O0 o:=by
 have hup:=ah5 cx.m 0;have aof:∀j,j<cx.m→j<(upTo cx.m 0++ex).length∧iw (upTo cx.m 0++ex) j=j:=fun j hj=>by
  refine ⟨by simp [hup.1]; omega,?_⟩;rw [aau _ _ _ (by rw [hup.1]; exact hj),hup.2 j hj];simp
 generalize hsg:upTo cx.m 0++ex=sg at hnd hdj hl Xi aof;have hsub:∀ {j p},pV O sg j=some p→j<sg.length∧O (iw sg j)=some p:=fun h=>by
  unfold pV at h;split at h
  ·exact ⟨by assumption,h⟩
  ·cases h
 have hO0:∀o,o<cx.m→pV O sg o=cx.O0 o:=fun o ho=>by
  obtain ⟨h1,h2⟩:=aof o ho;obtain ⟨x,y,h3,_⟩:=Xi o h1;rw [h2] at h3;unfold pV;rw [if_pos h1,h2];rcases hR.YF o ho with e | e
  ·exact e
  ·rw [(hR.dom o).1 e] at h3; cases h3
 refine ⟨?_,hO0⟩;exact {
  maps:=fun j kd z f p b bo sz h h' _=>by
   obtain ⟨h1,_⟩:=hsub h'
   obtain ⟨x,y,_,h4,h5,h6⟩:=Xi j h1
   rw [h] at h4
   cases h4
   cases x with
   | map=>cases h5
   | box=>exact h6.elim
   | row=>exact h6.elim
  dom:=fun j=>by
   unfold pV
   by_cases hj:j<sg.length
   ·obtain ⟨x,y,h1,h2,_⟩:=Xi j hj
    obtain ⟨p,hp,_⟩:=hR.live h1
    simp [hj,h2,hp]
   ·rw [if_neg hj,Sm obs j om]
    simp
  used:=fun j p h=>by have:=(hsub h).1; omega
  objs:=fun j ob p h h'=>by
   obtain ⟨h1,h2⟩:=hsub h'
   obtain ⟨x,y,h3,h4,h5,h6⟩:=Xi j h1
   rw [h] at h4
   cases h4
   exact (hR.objs _ _ p h3 h2).aoe (fun _ h=>.inl h) h5 h6
  inj:=fun j j' p p' b bo sz b' pQ sz' h1 h2 h3 h4 h5=>by
   obtain ⟨q1,q2⟩:=hsub h1
   obtain ⟨q3,q4⟩:=hsub h2
   exact hR.inj _ _ p p' b bo sz b' pQ sz' q2 q4 h3 h4 (fun e=>h5 (Jd sg hnd j j' q1 q3 e))
  pR:=fun j p b bo sz h1 h2 h3=>by
   obtain ⟨q1,q2⟩:=hsub h1
   rcases h3 with h3 | ⟨o',p',pQ,sz',q3,q4,q5⟩
   ·exact hR.pR _ p b bo sz q2 h2 h3
   ·exact hR.inj _ o' p p' b bo sz b pQ sz' q2 q4 h2 q5 (fun e=>QN ids sg hdj o' q3 (e ▸ qL sg j q1)) rfl
  lt:=fun j p b bo sz h1 h2=>hR.lt _ p b bo sz (hsub h1).2 h2
  Au:=(hR.freeze ids).Au
  size:=hR.size
  frame:=hR.frame
  env:=hR.env
  new:=fun j p b bo sz h1 h2=>hR.new _ p b bo sz (hsub h1).2 h2
  glob:=(hR.freeze ids).glob
  R9:=fun b h=>.inl (hR.R9 b h)
  Ws:=(hR.freeze ids).Ws
  YF:=fun o ho=>.inl (hO0 o ho)
  Dm:=fun o ho=>by have:=(aof o ho).1; omega }
theorem ach (hc:iy P cfg) {f:FuncId} {fn:Func} {c:Code} {args:List AV} {obs:List dY} {r:AV} {fO:List dY} (hf:P.funcs[f]? = some fn) (hb:fn.body=some c) (hnm:(fn.name == "runtime.NumGoroutine")=false)
  (hN:args.length≤fn.ntmps) (hle:obs.length≤fO.length)
  (h:Good P cfg fn.ntmps none obs.length c ⟨J8 args 0,I9.oK obs 0,obs.length⟩ (I9 cfg (Spec P cfg) fn.results.toList obs.length r fO)):Spec P cfg f args obs r fO:=by
 refine ⟨⟨fn,hf,by rw [hb]; rfl,hnm⟩,hle,fun w I O vals hR hvs hrep=>?_⟩;refine (callsIn_wide (n:=0)).1 (callsIn_of_wp_marks hf hb trivial ?_);have hS:jH cfg fn.ntmps obs.length (Lp w I O obs.length) ⟨J8 args 0,I9.oK obs 0,obs.length⟩ { tmps:=vals++Array.replicate (fn.ntmps - vals.size) undef,defers:=[] } w I O:=by
  refine ⟨rfl,?_,⟨rfl,by simp; omega,fun t _=>?_,fun t h=>by cases h⟩,⟨[],List.nodup_nil,fun _=>rfl,rfl,fun _ h=>by cases h⟩⟩
  ·rw [Jg]; exact hR
  ·rw [Y0];simp only [Nat.zero_le,if_true,Nat.sub_zero];by_cases ht:t<args.length
   ·have e:(vals++Array.replicate (fn.ntmps - vals.size) undef).getD t Go.undef=vals.getD t Go.undef:=by
     have:t<vals.size:=by omega
     simp [Array.getElem?_append_left this]
    rw [e];exact hrep t ht
   ·have e:nth args t=.undef:=by
     rw [uJ];simp [List.getElem?_eq_none (Nat.le_of_not_lt ht)]
    rw [e];exact .pure (.undef _)
 refine wpIn_mono (h 0 _ _ w I O hS rfl) ?_;intro e a0 w0 ⟨s,I0,O0,hK,hS0⟩;have main:∀(a':Act) (w':World) (I':Nat→Prop) (O':OM),jH cfg fn.ntmps obs.length (Lp w I O obs.length) s a' w' I' O'→(∃vs,J7 cfg s fn.results.toList=some vs∧ev (Spec P cfg) [] (hget s.heap) (OD (upTo obs.length 0++abV obs.length r (oneOf vs)) (oneOf vs) fun v' ids=>gL (oJ (upTo obs.length 0++abV obs.length r (oneOf vs))) (gL (LZ ids (upTo obs.length 0++abV obs.length r (oneOf vs))) (jX v'))) []
   fun v' _ _=>mR [] (I9.oK fO 0) fuel v' r∧YD s.heap (upTo obs.length 0++abV obs.length r (oneOf vs)) fO)→∃v,(results fn a'.tmps).run P w'=.ok v w'∧∃x I'' O'',Ending.returned v=.returned x∧Rel cfg (Lp w I O obs.length) (Ez fO) (fun o=>o<fO.length) w' I'' O''∧
   eT w' I'' O'' (fun o=>o<fO.length) r x:=by
  rintro a' w' I' O' hS' ⟨vs,hvs,hev⟩
  obtain ⟨x,hrun,hx⟩:=WC hc hS' hvs
  refine ⟨x,hrun,x,?_⟩
  obtain ⟨v',ups,zL,⟨h1,h2⟩,_,h3⟩:=Yh _ _ _ _ _ hev
  obtain ⟨rr,h4,_⟩:=h3 (fun q hq=>by cases hq)
  obtain ⟨h5,h6⟩:=ad8 _ _ h2
  obtain ⟨u',ids,r',h7,h8⟩:=Qa hS'.rel (fun j hj=>let ⟨x,y,h9,_⟩:=h6 j hj; ⟨x,h9⟩) h4
  obtain ⟨hnd,h7⟩:=h7.cu
  obtain ⟨hdj,h7⟩:=h7.cu
  obtain ⟨rfl,_⟩:=h7.fE
  obtain ⟨h10,h11⟩:=Rel.home hS'.rel hnd hdj h5 h6
  have hgn:Ez fO=hof fO:=alV fun j y hy=>by
   have hj:j<(upTo obs.length 0++abV obs.length r (oneOf vs)).length:=by
    rcases Nat.lt_or_ge j fO.length with h | h
    ·omega
    ·rw [Sm _ _ h] at hy; cases hy
   obtain ⟨q,y',_,q2,q3,q4⟩:=h6 j hj
   rw [hy] at q2
   cases q2
   cases y with
   | map=>cases q<;>first | exact q4.elim | cases q3
   | _=>rfl
  refine ⟨_,_,rfl,by rw [hgn]; exact h10,?_⟩
  have hdom:=h10.dom
  rw [← Jg fO] at hdom
  have hX:ami [] (I9.oK fO 0) (I9.oK fO 0):=⟨fun o' y o hy ho=>by cases ho; exact ⟨y,hy⟩,fun o' y hy ho=>by cases ho⟩
  have:=Sr (D':=fun o=>o<fO.length) hdom hX fuel _ _ x (h8 x hx) h1
  have e:nS [] (I9.oK fO 0) (pV O' (upTo obs.length 0++abV obs.length r (oneOf vs)))=pV O' (upTo obs.length 0++abV obs.length r (oneOf vs)):=by
   funext o
   unfold nS
   split
   ·rename_i hn; exact ((hdom o).2 hn).symm
   ·rfl
  exact e ▸ this
 have hret:∀(a':Act) (w':World) (I':Nat→Prop) (O':OM),jH cfg fn.ntmps obs.length (Lp w I O obs.length) s a' w' I' O'→∀vs,J7 cfg s fn.results.toList=vs→(match vs with
   | some vs=>match oneOf vs with
    | v=>match upTo obs.length 0++abV obs.length r v with
     | sg=>ev (Spec P cfg) [] (hget s.heap) (OD sg v fun v' ids=>gL (oJ sg) (gL (LZ ids sg) (jX v'))) [] fun v' _ _=>mR [] (I9.oK fO 0) fuel v' r∧YD s.heap sg fO
   | none=>False)→∃v,(results fn a'.tmps).run P w'=.ok v w'∧∃x I'' O'',Ending.returned v=.returned x∧Rel cfg (Lp w I O obs.length) (Ez fO) (fun o=>o<fO.length) w' I'' O''∧
   eT w' I'' O'' (fun o=>o<fO.length) r x:=by
  intro a' w' I' O' hS' vs hvs h
  cases vs with
  | none=>exact h.elim
  | some vs=>exact main a' w' I' O' hS' ⟨vs,hvs,h⟩
 obtain ⟨ms,hnd,_,hds,hms⟩:=hS0.marks;have hS1:=jH.turn (a:=a0) (w:=w0) (a':=⟨a0.tmps,[]⟩) ⟨fun _ _ h=>h,fun _ _=>rfl,Nat.le_refl _,fun _ _ _ h=>h⟩ (fun _ _=>rfl) hS0.rel.env rfl ⟨[],List.nodup_nil,fun _=>rfl,rfl,fun _ h=>by cases h⟩ hS0;cases e with
 | normal=>
  show LeavesInM _ _ _ _ _ _ a0.defers _ _;rw [hds];exact BZ (cx:=Lp w I O obs.length) (fun _ _ h=>h) (fun a w' I' O' hS'=>hret a w' I' O' hS' _ rfl hK) ms a0.tmps w0 I0 O0 hnd hms hS1
 | ret=>
  show LeavesInM _ _ _ _ _ _ a0.defers _ _;rw [hds];exact BZ (cx:=Lp w I O obs.length) (fun _ _ h=>h) (fun a w' I' O' hS'=>hret a w' I' O' hS' _ rfl hK) ms a0.tmps w0 I0 O0 hnd hms hS1
 | exit id=>exact hK.elim
 | goto l=>exact hK.elim
 | panic ch=>exact hK.elim
 | outgrown=>exact hK.elim
theorem ah6 (hc:iy P cfg) {f:FuncId} {fn:Func} {c:Code} {ct:List Nat} {args:List AV} {obs:List dY} {r:AV} {fO:List dY} (hf:P.funcs[f]? = some fn) (hb:fn.body=some c) (hnm:(fn.name == "runtime.NumGoroutine")=false)
  (hN:args.length≤fn.ntmps) (hok:iZ fn.ntmps c=true) (hle:obs.length≤fO.length)
  (h:lD cfg (Spec P cfg) ct (Loops P cfg fn.ntmps none obs.length) c ⟨J8 args 0,I9.oK obs 0,obs.length⟩ (I9 cfg (Spec P cfg) fn.results.toList obs.length r fO)):Spec P cfg f args obs r fO:=
 ach hc hf hb hnm hN hle (jR hc c _ _ hok h)
end
end Go.Ab
namespace Go.Ab
section
variable {P:Program} {cfg:xV} {N:Nat} {cx:Ctx}
def aj0 (o es:Nat) (g:Nat→AV) (v:AV):AV:=match v with
 | .eH o' i n f=>match Nat.beq o' o with
  | true=>.sl es n f (qJ i g)
  | false=>.eH o' i n f
 | v=>v
def ah7 (o es:Nat) (g:Nat→AV):List AV→List AV
 | []=>[]
 | v::l=>aj0 o es g v::ah7 o es g l
def aj1 (o es:Nat) (g:Nat→AV) (v:AV):AV:=match v with
 | .agg cs=>.agg (ah7 o es g cs)
 | v=>aj0 o es g v
def ad9 (o es:Nat) (g:Nat→AV):List AV→List AV
 | []=>[]
 | v::l=>aj1 o es g v::ad9 o es g l
def amm (o es:Nat) (g:Nat→AV) (v:AV):AV:=match v with
 | .kH cs=>.kH (ad9 o es g cs)
 | v=>aj1 o es g v
theorem Sv (o es:Nat) (g:Nat→AV) (l:List AV):(ah7 o es g l).length=l.length:=by
 induction l with
 | nil=>rfl
 | cons v l ih=>simp [ah7,ih]
theorem aea (o es:Nat) (g:Nat→AV):∀(l:List AV) (j:Nat),nth (ah7 o es g l) j=aj0 o es g (nth l j):=by
 intro l;induction l with
 | nil=>intro j; rfl
 | cons v l ih=>intro j; cases j with
  | zero=>rfl
  | succ j=>exact ih j
theorem abn (o es:Nat) (g:Nat→AV) (l:List AV):(ad9 o es g l).length=l.length:=by
 induction l with
 | nil=>rfl
 | cons v l ih=>simp [ad9,ih]
theorem ah8 (o es:Nat) (g:Nat→AV):∀(l:List AV) (j:Nat),nth (ad9 o es g l) j=aj1 o es g (nth l j):=by
 intro l;induction l with
 | nil=>intro j; rfl
 | cons v l ih=>intro j; cases j with
  | zero=>rfl
  | succ j=>exact ih j
def aj2 (o es:Nat) (g:Nat→AV):List (Nat×AV)→List (Nat×AV)
 | []=>[]
 | (t,v)::l=>(t,amm o es g v)::aj2 o es g l
theorem ah9 (o es:Nat) (g:Nat→AV):∀(l:List (Nat×AV)) (t:Nat),iN (aj2 o es g l) t=amm o es g (iN l t):=by
 intro l;induction l with
 | nil=>intro t; rfl
 | cons p l ih=>
  intro t;obtain ⟨k,v⟩:=p;unfold aj2 iN;simp only [look];cases hb:Nat.beq k t with
  | true=>rfl
  | false=>exact ih t
theorem Y1 {H:Nat→Option dY} {D:Nat→Prop} {w:World} {I:Nat→Prop} {O:OM} (hR:Rel cfg cx H D w I O) {o es n0:Nat} {g:Nat→AV} (ho:H o=some (.row es n0 g)) {v:AV} {x:Value} (h:eT w I O D v x):
  eT w (fun b=>I b∨Ew O [o] b) (kill O [o]) D (aj0 o es g v) x:=by
 have dflt:eT w (fun b=>I b∨Ew O [o] b) (kill O [o]) D v x:=
  h.mono (fun _ h=>.inl h) (fun _ _=>rfl) (fun o' _=>by unfold kill; by_cases h0:o'∈[o]<;>simp [h0]) (fun _ h=>h) hR.used
 unfold aj0;split
 ·rename_i o' i n f;split
  ·rename_i hb;have:=Nat.eq_of_beq_eq_true hb;subst this;have he:fM (fun _ _ _ _ _=>True) H (pur 1 (.eH o' i n f) (fun u ids=>.ret u (dead ids))) (.sl es n f (qJ i g)) (dead [o']) [o']:=.rd ho (.ret _ _);obtain ⟨u,ids,r',h1,h2⟩:=(GL hR 1).1 _ _ _ _ _ he;have hid:u=.sl es n f (qJ i g)∧dead ids=dead [o']:=by
    have:=h1.kI;exact ⟨this.1.symm,this.2.symm⟩
   have arG:ids=[o']:=by
    have h3:=hid.2;match ids,h3 with
    | [],h3=>cases h3
    | [a],h3=>simp [dead] at h3; rw [h3]
    | a::b::l,h3=>simp [dead] at h3
   rw [arG] at h2;rw [← hid.1];exact .pure (h2 x h)
  ·exact dflt
 ·exact dflt
theorem aeb {H:Nat→Option dY} {D:Nat→Prop} {w:World} {I:Nat→Prop} {O:OM} (hR:Rel cfg cx H D w I O) {o es n0:Nat} {g:Nat→AV} (ho:H o=some (.row es n0 g)) {v:AV} {x:Value} (h:eT w I O D v x):
  eT w (fun b=>I b∨Ew O [o] b) (kill O [o]) D (aj1 o es g v) x:=by
 unfold aj1;split
 ·obtain ⟨xs,rfl,hl,hr⟩:=h.vV;refine .agg (by rw [Sv]; exact hl) fun j hj=>?_;rw [Sv] at hj;rw [aea];exact Y1 hR ho (hr j hj)
 ·exact Y1 hR ho h
theorem amn {H:Nat→Option dY} {D:Nat→Prop} {w:World} {I:Nat→Prop} {O:OM} (hR:Rel cfg cx H D w I O) {o es n0:Nat} {g:Nat→AV} (ho:H o=some (.row es n0 g)) {v:AV} {x:Value} (h:eT w I O D v x):
  eT w (fun b=>I b∨Ew O [o] b) (kill O [o]) D (amm o es g v) x:=by
 unfold amm;split
 ·obtain ⟨xs,rfl,hl,hr⟩:=h.Ja;refine .kH (by rw [abn]; exact hl) fun j hj=>?_;rw [abn] at hj;rw [ah8];exact aeb hR ho (hr j hj)
 ·exact aeb hR ho h
end
end Go.Ab
namespace Go.Ab
section
variable {P:Program} {cfg:xV}
def Y2 (P:Program) (cfg:xV) (N:Nat) (r:Option Nat) (m:Nat) (c:Code) (s:St) (K:Exit→St→Prop):Prop:=
 ∃e0 s0,K e0 s0∧Good P cfg N r m c s (fun e s=>e=e0∧s=s0)
structure arH (P:Program) (cfg:xV) (N:Nat) (r:Option Nat) (m:Nat) (c:Code) (s:St) (K:Exit→St→Prop):Prop where
 ok:Y2 P cfg N r m c s K
theorem Y2.seq {N:Nat} {r:Option Nat} {m:Nat} {x y:Code} {s:St} {K:Exit→St→Prop} (h:Y2 P cfg N r m x s fun e s'=>match e with | .normal=>Y2 P cfg N r m y s' K | e=>K e s'):Y2 P cfg N r m (.seq x y) s K:=by
 obtain ⟨e1,s1,h1,h2⟩:=h;cases e1 with
 | normal=>
  obtain ⟨e0,s0,h3,h4⟩:=h1;refine ⟨e0,s0,h3,tH (h2.mono fun e s' h=>?_)⟩;obtain ⟨rfl,rfl⟩:=h;exact h4
 | _=>
  refine ⟨_,s1,h1,tH (h2.mono fun e s' h=>?_)⟩;obtain ⟨rfl,rfl⟩:=h;exact ⟨rfl,rfl⟩
end
end Go.Ab
namespace Go.Ab
section
variable {P:Program} {cfg:xV} {N:Nat} {cx:Ctx}
def aj3 (o es:Nat) (g:Nat→AV):Option dY→Option dY
 | some (.box cs)=>some (.box (ah7 o es g cs))
 | x=>x
def abo (o es:Nat) (g:Nat→AV):lC→lC
 | []=>[]
 | (k,x)::l=>(k,aj3 o es g x)::abo o es g l
def aog (o:Nat) (s:St):St:=match hget s.heap o with
 | some (.row es _ g)=>⟨aj2 o es g s.tmps,(o,none)::abo o es g s.heap,s.nx⟩
 | _=>s
def abp:List Nat→St→St
 | [],s=>s
 | o::l,s=>abp l (aog o s)
theorem afU (o es:Nat) (g:Nat→AV):∀(l:lC) (k:Nat),look (abo o es g l) k=(look l k).map (aj3 o es g):=by
 intro l;induction l with
 | nil=>intro k; rfl
 | cons p l ih=>
  intro k;obtain ⟨j,x⟩:=p;simp only [abo,look];cases Nat.beq j k with
  | true=>rfl
  | false=>exact ih k
theorem afV (o es:Nat) (g:Nat→AV) (l:lC) (k:Nat):hget (abo o es g l) k=aj3 o es g (hget l k):=by
 unfold hget;rw [afU];cases look l k with
 | none=>rfl
 | some x=>cases x with
  | none=>rfl
  | some y=>cases y<;>rfl
theorem afW {m:Nat} {s:St} {a:Act} {w:World} {I:Nat→Prop} {O:OM} (hS:jH cfg N m cx s a w I O) (o:Nat):∃I' O',jH cfg N m cx (aog o s) a w I' O':=by
 unfold aog;split
 ·rename_i es n0 g ho;obtain ⟨hm,hR,hT,hMk⟩:=hS;refine ⟨fun b=>I b∨Ew O [o] b,kill O [o],hm,?_,⟨rfl,hT.size,fun t ht=>?_,hT.gone⟩,hMk⟩
  ·have hF:=hR.freeze [o];have e:∀o',hget ((o,none)::abo o es g s.heap) o'=if o'=o then none else aj3 o es g (hget s.heap o'):=by
    intro o';rw [← afV];unfold hget;simp only [look];cases hb:Nat.beq o o' with
    | true=>have:=Nat.eq_of_beq_eq_true hb; subst this; simp
    | false=>
     have:o'≠o:=fun e=>by subst e; simp at hb
     simp [this]
   have e2:∀o',mF (hget s.heap) (dead [o]) o'=if o'=o then none else hget s.heap o':=by
    intro o';rw [GJ];by_cases h:o'=o<;>simp [h]
   refine { hF with
    dom:=fun o'=>?_
    objs:=fun o' ob p nK hp=>?_
    maps:=fun o' kd z f p b bo sz nK hp hpl=>?_ }
   ·rw [hF.dom o',e,e2];by_cases h:o'=o
    ·simp [h]
    ·rw [if_neg h,if_neg h];cases hget s.heap o' with
     | none=>exact Iff.rfl
     | some y=>cases y<;>simp [aj3]
   ·rw [e] at nK;by_cases h:o'=o
    ·rw [if_pos h] at nK; cases nK
    ·rw [if_neg h] at nK;have hk:kill O [o] o'=O o':=by unfold kill; simp [h]
     rw [hk] at hp;cases hy:hget s.heap o' with
     | none=>rw [hy] at nK; cases nK
     | some y=>
      rw [hy] at nK;have h2:=hF.objs o' y p (by rw [e2,if_neg h]; exact hy) (by rw [hk]; exact hp);cases y with
      | row es' n' g'=>cases nK; exact h2
      | map kd z f=>cases nK; exact h2
      | box cs=>
       cases nK;obtain ⟨h3,b,bo,sz,h4,h5,h6,h7⟩:=hR.objs o' (.box cs) p hy hp;refine ⟨h3,b,bo,sz,h4,h5,by rw [Sv]; exact h6,fun j hj=>?_⟩;rw [Sv] at hj;rw [aea];exact Y1 hR ho (h7 j hj)
   ·rw [e] at nK;by_cases h:o'=o
    ·rw [if_pos h] at nK; cases nK
    ·rw [if_neg h] at nK;cases hy:hget s.heap o' with
     | none=>rw [hy] at nK; cases nK
     | some y=>
      rw [hy] at nK;cases y with
      | row=>cases nK
      | box=>cases nK
      | map kd' z' f'=>
       cases nK;exact hF.maps o' kd z f p b bo sz (by rw [e2,if_neg h]; exact hy) hp hpl
  ·show eT w _ _ _ (iN (aj2 o es g s.tmps) t) _;rw [ah9];exact amn hR ho (hT.rep t ht)
 ·exact ⟨I,O,hS⟩
theorem WE {m:Nat}:∀(l:List Nat) {s:St} {a:Act} {w:World} {I:Nat→Prop} {O:OM},jH cfg N m cx s a w I O→∃I' O',jH cfg N m cx (abp l s) a w I' O':=by
 intro l;induction l with
 | nil=>intro s a w I O h; exact ⟨I,O,h⟩
 | cons o l ih=>
  intro s a w I O h;obtain ⟨I',O',h'⟩:=afW h o;exact ih h'
def QW (m:Nat) (ρ:List (Nat×Option Nat)) (os:List Nat) (s s':St):Prop:=Emb m ρ (abp os s) s'
theorem QX {m:Nat} {ρ:List (Nat×Option Nat)} {os:List Nat} {s s':St} {a:Act} {w:World} {I:Nat→Prop} {O:OM} (hS:jH cfg N m cx s a w I O) (h:QW m ρ os s s'):∃I' O',jH cfg N m cx s' a w I' O':=by
 obtain ⟨I',O',h'⟩:=WE os hS;exact ⟨I',_,GY h' h⟩
end
end Go.Ab
namespace Go.Ab
section
variable {P:Program} {cfg:xV} {N:Nat} {cx:Ctx}
theorem aav (hc:iy P cfg) {f:FuncId} {fn:Func} {c:Code} {args:List AV} {obs:List dY} {r:AV} {fO:List dY} {K:Exit→St→Prop} (hf:P.funcs[f]? = some fn) (hb:fn.body=some c) (hnm:(fn.name == "runtime.NumGoroutine")=false)
  (hN:args.length≤fn.ntmps) (hle:obs.length≤fO.length)
  (h:Good P cfg fn.ntmps none obs.length c ⟨J8 args 0,I9.oK obs 0,obs.length⟩ K)
  (hend:∀e s,K e s→(e=.normal∨e=.ret)∧∀(cx:Ctx) (a':Act) (w':World) (I':Nat→Prop) (O':OM),cx.m=obs.length→jH cfg fn.ntmps obs.length cx s a' w' I' O'→∃v,(results fn a'.tmps).run P w'=.ok v w'∧∃I'' O'',Rel cfg cx (Ez fO) (fun o=>o<fO.length) w' I'' O''∧
    eT w' I'' O'' (fun o=>o<fO.length) r v):Spec P cfg f args obs r fO:=by
 refine ⟨⟨fn,hf,by rw [hb]; rfl,hnm⟩,hle,fun w I O vals hR hvs hrep=>?_⟩;refine (callsIn_wide (n:=0)).1 (callsIn_of_wp_marks hf hb trivial ?_);have hS:jH cfg fn.ntmps obs.length (Lp w I O obs.length) ⟨J8 args 0,I9.oK obs 0,obs.length⟩ { tmps:=vals++Array.replicate (fn.ntmps - vals.size) undef,defers:=[] } w I O:=by
  refine ⟨rfl,?_,⟨rfl,by simp; omega,fun t _=>?_,fun t h=>by cases h⟩,⟨[],List.nodup_nil,fun _=>rfl,rfl,fun _ h=>by cases h⟩⟩
  ·rw [Jg]; exact hR
  ·rw [Y0];simp only [Nat.zero_le,if_true,Nat.sub_zero];by_cases ht:t<args.length
   ·have e:(vals++Array.replicate (fn.ntmps - vals.size) undef).getD t Go.undef=vals.getD t Go.undef:=by
     have:t<vals.size:=by omega
     simp [Array.getElem?_append_left this]
    rw [e];exact hrep t ht
   ·have e:nth args t=.undef:=by
     rw [uJ];simp [List.getElem?_eq_none (Nat.le_of_not_lt ht)]
    rw [e];exact .pure (.undef _)
 refine wpIn_mono (h 0 _ _ w I O hS rfl) ?_;intro e a0 w0 ⟨s,I0,O0,hK,hS0⟩;obtain ⟨hex,hend⟩:=hend e s hK;have hret:∀(a':Act) (w':World) (I':Nat→Prop) (O':OM),jH cfg fn.ntmps obs.length (Lp w I O obs.length) s a' w' I' O'→∃v,(results fn a'.tmps).run P w'=.ok v w'∧∃x I'' O'',Ending.returned v=.returned x∧Rel cfg (Lp w I O obs.length) (Ez fO) (fun o=>o<fO.length) w' I'' O''∧
   eT w' I'' O'' (fun o=>o<fO.length) r x:=fun a' w' I' O' hS'=>by
  obtain ⟨v,h1,I'',O'',h2,h3⟩:=hend _ a' w' I' O' rfl hS'
  exact ⟨v,h1,v,I'',O'',rfl,h2,h3⟩
 obtain ⟨ms,hnd,_,hds,hms⟩:=hS0.marks;have hS1:=jH.turn (a:=a0) (w:=w0) (a':=⟨a0.tmps,[]⟩) ⟨fun _ _ h=>h,fun _ _=>rfl,Nat.le_refl _,fun _ _ _ h=>h⟩ (fun _ _=>rfl) hS0.rel.env rfl ⟨[],List.nodup_nil,fun _=>rfl,rfl,fun _ h=>by cases h⟩ hS0;cases e with
 | normal=>
  show LeavesInM _ _ _ _ _ _ a0.defers _ _;rw [hds];exact BZ (cx:=Lp w I O obs.length) (fun _ _ h=>h) (fun a w' I' O' hS'=>hret a w' I' O' hS') ms a0.tmps w0 I0 O0 hnd hms hS1
 | ret=>
  show LeavesInM _ _ _ _ _ _ a0.defers _ _;rw [hds];exact BZ (cx:=Lp w I O obs.length) (fun _ _ h=>h) (fun a w' I' O' hS'=>hret a w' I' O' hS') ms a0.tmps w0 I0 O0 hnd hms hS1
 | exit id=>rcases hex with h | h<;>cases h
 | goto l=>rcases hex with h | h<;>cases h
 | panic ch=>rcases hex with h | h<;>cases h
 | outgrown=>rcases hex with h | h<;>cases h
def aj4 (cfg:xV) (rs:List ResultVar) (m:Nat) (r:AV) (fO:List dY) (e:Exit) (s:St):Prop:=
 match (match e with | .normal=>true | .ret=>true | _=>false) with
 | true=>∃fz ρ,match abp fz s with
  | s'=>match J7 cfg s' rs with
   | some vs=>Emb m ρ s' ⟨[],YE fO 0,fO.length⟩∧mR ρ (YE fO 0) fuel (oneOf vs) r
   | none=>False
 | false=>False
theorem aia:∀(obs:List dY) (i o:Nat),hget (YE obs i) o=if i≤o then Ez obs (o - i) else none:=by
 intro obs;induction obs with
 | nil=>intro i o; simp [YE,hget,look,Ez]
 | cons x l ih=>
  intro i o;unfold YE hget;simp only [look];cases hb:Nat.beq i o with
  | true=>
   have:=Nat.eq_of_beq_eq_true hb;subst this;simp only [Nat.le_refl,if_true,Nat.sub_self,Ez];cases gz x<;>rfl
  | false=>
   have hne:i≠o:=fun e=>by subst e; simp at hb
   have:=ih (i+1) o;unfold hget at this;simp only;rw [this];by_cases h:i≤o
   ·rw [if_pos h,if_pos om];obtain ⟨k,hk⟩:∃k,o - i=k+1:=⟨o - i - 1,by omega⟩;rw [hk,show o - (i+1)=k by omega];rfl
   ·rw [if_neg h,if_neg om]
theorem afX (obs:List dY):hget (YE obs 0)=Ez obs:=by
 funext o;rw [aia];simp
theorem aj5 (hc:iy P cfg) {fn:Func} {m:Nat} {r:AV} {fO:List dY} {e:Exit} {s:St} (hm:m≤fO.length) (h:aj4 cfg fn.results.toList m r fO e s):(e=.normal∨e=.ret)∧∀(cx:Ctx) (a':Act) (w':World) (I':Nat→Prop) (O':OM),cx.m=m→jH cfg fn.ntmps m cx s a' w' I' O'→
  ∃v,(results fn a'.tmps).run P w'=.ok v w'∧∃I'' O'',Rel cfg cx (Ez fO) (fun o=>o<fO.length) w' I'' O''∧eT w' I'' O'' (fun o=>o<fO.length) r v:=by
 unfold aj4 at h;have he:(e=.normal∨e=.ret):=by
  cases e with
  | normal=>exact .inl rfl
  | ret=>exact .inr rfl
  | _=>exact h.elim
 refine ⟨he,fun cx a' w' I' O' hcm hS=>?_⟩;have h:∃fz ρ,match abp fz s with
  | s'=>match J7 cfg s' fn.results.toList with
   | some vs=>Emb m ρ s' ⟨[],YE fO 0,fO.length⟩∧mR ρ (YE fO 0) fuel (oneOf vs) r
   | none=>False:=by
  rcases he with rfl | rfl<;>exact h
 obtain ⟨fz,ρ,h⟩:=h;obtain ⟨I1,O1,hS1⟩:=WE fz hS;generalize abp fz s=s' at h hS1;simp only at h;cases hv:J7 cfg s' fn.results.toList with
 | none=>rw [hv] at h; exact h.elim
 | some vs=>
  rw [hv] at h;obtain ⟨hE,hV⟩:=h;obtain ⟨x,hrun,hx⟩:=WC hc hS1 hv;have hS2:=GY hS1 hE;refine ⟨x,hrun,I1,nS ρ (YE fO 0) O1,?_,?_⟩
  ·have:=hS2.rel;rw [show hget (YE fO 0)=Ez fO from afX fO] at this;exact this
  ·exact Sr hS1.rel.dom (ag6 hE.heap).x fuel _ _ x hx hV
theorem nD (hc:iy P cfg) {f:FuncId} {fn:Func} {c:Code} {ct:List Nat} {args:List AV} {obs:List dY} {r:AV} {fO:List dY} (hf:P.funcs[f]? = some fn) (hb:fn.body=some c) (hnm:(fn.name == "runtime.NumGoroutine")=false)
  (hN:args.length≤fn.ntmps) (hok:iZ fn.ntmps c=true) (hle:obs.length≤fO.length)
  (h:lD cfg (Spec P cfg) ct (Loops P cfg fn.ntmps none obs.length) c ⟨J8 args 0,I9.oK obs 0,obs.length⟩ (aj4 cfg fn.results.toList obs.length r fO)):Spec P cfg f args obs r fO:=
 aav hc hf hb hnm hN hle (jR hc c _ _ hok h) (fun _ _ hk=>aj5 hc hle hk)
end
end Go.Ab
namespace Go.Ab
section
variable {P:Program} {cfg:xV}
def aoh:ZK→Value→Bool
 | .bool,.bool false=>true
 | .int k,.int k' n=>decide (k=k')&&decide (n=0)
 | .str,.string s=>s.data.isEmpty
 | .slice,.slice none 0 0=>true
 | .ptr,.pointer none=>true
 | .other,x=>x.oneCell'
 | _,_=>false
def ag7:List ZK→List Value→Bool
 | [],[]=>true
 | z::l,v::m=>aoh z v&&ag7 l m
 | _,_=>false
def aoi:TD→TypeDesc→Bool
 | .bool,.bool=>true
 | .int k,.int k'=>decide (k=k')
 | .str,.string=>true
 | .slice e,.slice e'=>Nat.beq e e'
 | .pointer e,.pointer e'=>Nat.beq e e'
 | .map k e,.map k' e'=>Nat.beq k k'&&Nat.beq e e'
 | .array n e,.array n' e'=>Nat.beq n n'&&Nat.beq e e'
 | .struct fs,.struct fields=>decide (fields.toList.map (fun f=>(f.offset,f.type))=fs)
 | .other,_=>true
 | _,_=>false
def fieldsB (P:Program):TypeDesc→Bool
 | .struct fields=>fields.toList.all fun f=>(P.info? f.type).isSome
 | _=>true
def ag8 (P:Program) (t:TypeId) (ti:P7):Bool:=
 match P.info? t,P.underlying t with
 | some i,some d=>match i.zero with
  | some z=>Nat.beq i.size ti.size&&Nat.beq i.bytes ti.bytes&&decide (d.isRow=ti.agg)&&Nat.beq z.cells.size ti.size&&ag7 ti.zero z.cells.toList&&aoi ti.desc d&&fieldsB P d&&(ti.agg||z.oneCell')
  | none=>false
 | _,_=>false
def aci (P:Program):List (Nat×P7)→Bool
 | []=>true
 | (t,ti)::l=>ag8 P t ti&&aci P l
theorem aib {z:ZK} {v:Value} (h:aoh z v=true):Me z v:=by
 unfold aoh at h;split at h
 ·rfl
 ·simp only [Bool.and_eq_true,decide_eq_true_eq] at h; obtain ⟨rfl,rfl⟩:=h; rfl
 ·rename_i s;show Value.string s=.string ByteArray.empty;have:s.data=#[]:=by simpa using h
  cases s;simp only at this;rw [this];rfl
 ·rfl
 ·rfl
 ·exact h
 ·cases h
theorem afY:∀(zs:List ZK) (vs:List Value),ag7 zs vs=true→zs.length=vs.length∧∀j,j<zs.length→Me (zs.getD j .other) (vs.getD j Go.undef):=by
 intro zs;induction zs with
 | nil=>intro vs h; cases vs with
  | nil=>exact ⟨rfl,fun j hj=>by cases hj⟩
  | cons=>cases h
 | cons z zs ih=>intro vs h; cases vs with
  | nil=>cases h
  | cons v vs=>
   simp only [ag7,Bool.and_eq_true] at h
   obtain ⟨h1,h2⟩:=ih vs h.2
   refine ⟨by simp [h1],fun j hj=>?_⟩
   cases j with
   | zero=>exact aib h.1
   | succ j=>simpa using h2 j (by simpa using hj)
theorem aic {t:TD} {d:TypeDesc} (h:aoi t d=true):ajn t d:=by
 unfold aoi at h;split at h
 ·rfl
 ·have:=of_decide_eq_true h; subst this; rfl
 ·rfl
 ·have:=Nat.eq_of_beq_eq_true h; subst this; rfl
 ·have:=Nat.eq_of_beq_eq_true h; subst this; rfl
 ·simp only [Bool.and_eq_true] at h; have h1:=Nat.eq_of_beq_eq_true h.1; have h2:=Nat.eq_of_beq_eq_true h.2; subst h1; subst h2; rfl
 ·simp only [Bool.and_eq_true] at h; have h1:=Nat.eq_of_beq_eq_true h.1; have h2:=Nat.eq_of_beq_eq_true h.2; subst h1; subst h2; rfl
 ·exact ⟨_,rfl,of_decide_eq_true h⟩
 ·trivial
 ·cases h
theorem aie {z:Value} (h:z.oneCell'=true):z.cells=#[z]:=by cases z<;>first | rfl | cases h
theorem Y3 {t:TypeId} {ti:P7} (h:ag8 P t ti=true):apy P t ti∧∀d,P.underlying t=some d→Wt P d:=by
 unfold ag8 at h;split at h
 ·rename_i i d hi hd;split at h
  ·rename_i z hz;simp only [Bool.and_eq_true,decide_eq_true_eq] at h;obtain ⟨⟨⟨⟨⟨⟨⟨h1,h2⟩,h3⟩,h4⟩,h5⟩,h6⟩,h7⟩,h10⟩:=h;have e1:=Nat.eq_of_beq_eq_true h1;have e2:=Nat.eq_of_beq_eq_true h2;have e4:=Nat.eq_of_beq_eq_true h4;obtain ⟨h8,h9⟩:=afY _ _ h5;have hlen:ti.zero.length=ti.size:=by rw [h8,← e4]; simp
   refine ⟨⟨⟨i,d,z,hi,hd,hz,e1,e2,h3,e4,hlen,fun j hj=>?_,aic h6⟩,fun ha i' z' hi' hz'=>?_⟩,fun d' hd'=>?_⟩
   ·have:=h9 j om;simpa using this
   ·rw [hi] at hi';cases hi';rw [hz] at hz';cases hz';rw [ha] at h10;exact aie h10
   ·rw [hd] at hd';cases hd';cases d with
    | struct fields=>
     simp only [fieldsB,List.all_eq_true] at h7;exact h7
    | _=>trivial
  ·cases h
 ·cases h
theorem WG:∀(l:List (Nat×P7)),aci P l=true→∀t ti,look l t=some ti→ag8 P t ti=true:=by
 intro l;induction l with
 | nil=>intro _ t ti h; cases h
 | cons q l ih=>
  intro h t ti hl;obtain ⟨k,tk⟩:=q;simp only [aci,Bool.and_eq_true] at h;simp only [look] at hl;cases hb:Nat.beq k t with
  | true=>
   simp only [hb] at hl;cases hl;rw [← Nat.eq_of_beq_eq_true hb];exact h.1
  | false=>simp only [hb] at hl; exact ih h.2 t ti hl
def aj6 (P:Program) (t:TypeId):Option ZK:=match P.underlying t with
 | some .bool=>some .bool
 | some (.int k)=>some (.int k)
 | some .string=>some .str
 | _=>none
def Y4 (P:Program) (fl:TypeId→Option (List ZK)):List Field→Nat→Option (List ZK)
 | [],_=>some []
 | f::fs,k=>match decide (f.name ≠ "_")&&Nat.beq f.offset k with
  | true=>match aj6 P f.type with
   | some z=>match Y4 P fl fs (k+1) with
    | some l=>some (z::l)
    | none=>none
   | none=>match fl f.type with
    | some z1=>match Nat.beq (P.cellsOf f.type) z1.length,Y4 P fl fs (k+z1.length) with
     | true,some l=>some (z1++l)
     | _,_=>none
    | none=>none
  | false=>none
def ag9 (P:Program):Nat→TypeId→Option (List ZK)
 | 0,_=>none
 | n+1,t=>match P.underlying t,P.stoodInHeld t with
  | some (.struct fields),false=>Y4 P (ag9 P n) fields.toList 0
  | _,_=>none
def aha (P:Program) (t:TypeId) (zs:List ZK):Bool:=decide (ag9 P 4 t=some zs)&&!P.eqGuardType P.depth t
def acj (P:Program):List (Nat×List ZK)→Bool
 | []=>true
 | (t,zs)::l=>aha P t zs&&acj P l
theorem afZ {t:TypeId} {z:ZK} (h:aj6 P t=some z):∃d,P.underlying t=some d∧abW z d:=by
 unfold aj6 at h;split at h
 ·rename_i e; cases h; exact ⟨_,e,rfl⟩
 ·rename_i e; cases h; exact ⟨_,e,rfl⟩
 ·rename_i e; cases h; exact ⟨_,e,rfl⟩
 ·cases h
theorem aec {fl:TypeId→Option (List ZK)} {ok:TypeId→List ZK→Prop} (hfl:∀t zs,fl t=some zs→ok t zs):∀(fs:List Field) (zs:List ZK) (k:Nat),Y4 P fl fs k=some zs→alU P ok fs zs k:=by
 intro fs;induction fs with
 | nil=>intro zs k h; cases h; trivial
 | cons f fs ih=>
  intro zs k h;unfold Y4 at h;split at h
  ·rename_i hb;simp only [Bool.and_eq_true,decide_eq_true_eq] at hb;refine ⟨hb.1,Nat.eq_of_beq_eq_true hb.2,?_⟩;split at h
   ·rename_i z hz;split at h
    ·rename_i l hl;cases h;obtain ⟨d,h1,h2⟩:=afZ hz;exact ⟨[z],l,rfl,.inl ⟨z,d,rfl,h1,h2⟩,ih _ _ hl⟩
    ·cases h
   ·split at h
    ·rename_i z1 hz1;split at h
     ·rename_i l hs hl;cases h;exact ⟨z1,l,rfl,.inr ⟨hfl _ _ hz1,Nat.eq_of_beq_eq_true hs⟩,ih _ _ hl⟩
     ·cases h
    ·cases h
  ·cases h
theorem af0:∀(n:Nat) (t:TypeId) (zs:List ZK),ag9 P n t=some zs→EqT P n t zs:=by
 intro n;induction n with
 | zero=>intro t zs h; cases h
 | succ n ih=>
  intro t zs h;unfold ag9 at h;split at h
  ·rename_i fields hu hh;exact ⟨fields,hu,hh,aec ih _ _ _ h⟩
  ·cases h
theorem af2 {t:TypeId} {zs:List ZK} (h:aha P t zs=true):apz P t zs:=by
 unfold aha at h;simp only [Bool.and_eq_true,Bool.not_eq_true',decide_eq_true_eq] at h;exact ⟨af0 _ _ _ h.1,h.2⟩
theorem aed:∀(l:List (Nat×List ZK)),acj P l=true→∀t zs,look l t=some zs→aha P t zs=true:=by
 intro l;induction l with
 | nil=>intro _ t ti h; cases h
 | cons q l ih=>
  intro h t ti hl;obtain ⟨k,tk⟩:=q;simp only [acj,Bool.and_eq_true] at h;simp only [look] at hl;cases hb:Nat.beq k t with
  | true=>
   simp only [hb] at hl;cases hl;rw [← Nat.eq_of_beq_eq_true hb];exact h.1
  | false=>simp only [hb] at hl; exact ih h.2 t ti hl
theorem aj7 (h:aci P cfg.ty=true) (hm:P.follows .mixedOrders=true) (he:acj P cfg.eqs=true):iy P cfg where
 ty:=fun t ti hl=>(Y3 (WG _ h t ti hl)).1
 fields:=fun t ti d hl=>(Y3 (WG _ h t ti hl)).2 d
 mixed:=hm
 eqs:=fun t zs hl=>af2 (aed _ he t zs hl)
theorem Sw {c:Bool} {A B:Prop} (h1:c=true→A) (h2:c=false→B):Yy c A B:=by
 cases c
 ·exact h2 rfl
 ·exact h1 rfl
end
end Go.Ab
namespace Go.Ab
theorem QK.ahb {l m:List AV} (h1:l.length=m.length) (h2:∀j,j<l.length→Le (nth l j) (nth m j)):QK l m:=by
 induction l generalizing m with
 | nil=>cases m with
  | nil=>trivial
  | cons=>simp at h1
 | cons u l ih=>cases m with
  | nil=>simp at h1
  | cons v m=>exact ⟨h2 0 (by simp),ih (by simpa using h1) fun j hj=>h2 (j+1) (by simpa using hj)⟩
theorem ahc {ρ:List (Nat×Option Nat)} {H':lC} {f:Nat} {u v:AV} (h:Le u v) (hp:pO v=true):mR ρ H' (f+1) u v:=by
 cases h with
 | refl=>
  cases u<;>simp only [pO] at hp<;>first
   | (cases hp; done)
   | (unfold mR; exact trivial)
   | (unfold mR; exact rfl)
   | (unfold mR; exact ⟨rfl,rfl⟩)
   | (unfold mR; exact ⟨rfl,fun _=>rfl,fun h=>h,fun i _=>.refl _⟩)
   | (unfold mR; exact QK.refl _)
 | sl hn he hf h=>unfold mR; exact ⟨hn,he,hf,h⟩
 | ro hl h=>unfold mR; exact QK.ahb hl h
 | agg=>cases hp
 | kH=>cases hp
 | fn=>cases hp
theorem amo {ρ:List (Nat×Option Nat)} {H':lC}:∀(l m:List AV) (f:Nat),l.length+1<f→QK l m→yD m=true→mR.R7 ρ H' f l m:=by
 intro l;induction l with
 | nil=>
  intro m f hf h _;cases m with
  | nil=>cases f with
   | zero=>omega
   | succ f=>unfold mR.R7; trivial
  | cons=>exact h.elim
 | cons u l ih=>
  intro m f hf h hp;cases m with
  | nil=>exact h.elim
  | cons v m=>
   cases f with
   | zero=>omega
   | succ f=>
    cases f with
    | zero=>simp at hf
    | succ f=>
     unfold yD at hp;split at hp
     ·rename_i hv;unfold mR.R7;exact ⟨ahc h.1 hv,ih m (f+1) (by simp at hf; omega) h.2 hp⟩
     ·cases hp
abbrev iV (n:Int):AV:=.int .i64 n
def bR {α:Type} (f:α→AV) (d:α) (l:List α):Nat→AV:=fun i=>f (l.getD i d)
def aj8 (l:List Int):AV:=.sl 1 l.length false (bR iV 0 l)
def I64 (l:List Int):Prop:=∀x∈l,aF x
theorem I64.get {l:List Int} (h:I64 l) (i:Nat):aF (l.getD i 0):=by
 rw [List.getD_eq_getElem?_getD];cases hi:l[i]? with
 | none=>exact ⟨by decide,by decide⟩
 | some x=>exact h x (List.mem_of_getElem? hi)
structure Tp where
 l:List Int
 pos:Nat
def Tp.ok (t:Tp):Prop:=I64 t.l∧t.l.length≤500∧t.pos≤t.l.length
def Tp.raw (t:Tp):Int×Tp:=if t.l.length≤t.pos then (0,t) else (t.l.getD t.pos 0,⟨t.l,t.pos+1⟩)
def arI (x n:Int):Int:=if n<1 then 0 else x % n
def Tp.n (t:Tp) (n:Int):Int×Tp:=(arI t.raw.1 n,t.raw.2)
def Tp.range (t:Tp) (lo hi:Int):Int×Tp:=(lo+(t.n (hi - lo+1)).1,(t.n (hi - lo+1)).2)
def Tp.pick (t:Tp) (l:List Int):Int×Tp:=(l.getD (t.n l.length).1.toNat 0,(t.n l.length).2)
theorem drop_cons {α:Type} {l:List α} {i:Nat} (d:α) (h:i<l.length):l.drop i=l.getD i d::l.drop (i+1):=by
 rw [List.getD_eq_getElem?_getD,List.getElem?_eq_getElem h];exact List.drop_eq_getElem_cons h
theorem getD_take {α:Type} (l:List α) (d:α) {i k:Nat} (h:i<k):(l.take k).getD i d=l.getD i d:=by
 rw [List.getD_eq_getElem?_getD,List.getD_eq_getElem?_getD,List.getElem?_take_of_lt h]
theorem getD_drop {α:Type} (l:List α) (d:α) (k i:Nat):(l.drop k).getD i d=l.getD (k+i) d:=by
 rw [List.getD_eq_getElem?_getD,List.getD_eq_getElem?_getD,List.getElem?_drop]
theorem iC {α:Type} {l:List α} {i:Nat} (d:α) (h:i<l.length):l.take (i+1)=l.take i++[l.getD i d]:=by
 rw [List.getD_eq_getElem?_getD,List.getElem?_eq_getElem h];exact List.take_succ_eq_append_getElem h
theorem uK {α β:Type} (f:β→α→β) (a:β) {l:List α} {i:Nat} (d:α) (h:i<l.length):(l.take (i+1)).foldl f a=f ((l.take i).foldl f a) (l.getD i d):=by
 rw [iC d h,List.foldl_append];rfl
theorem je {α:Type} {l:List α} {i:Nat} (d:α) (h:i<l.length):l.getD i d∈l:=by
 rw [List.getD_eq_getElem?_getD,List.getElem?_eq_getElem h];exact List.getElem_mem _
theorem take_len {α:Type} {l:List α} {i:Nat} (h:i≤l.length):(l.take i).length=i:=by
 rw [List.length_take,Nat.min_eq_left h]
theorem jr {α:Type} {l m:List α} {i:Nat} (d:α) (h:i<l.length):(l++m).getD i d=l.getD i d:=by
 rw [List.getD_eq_getElem?_getD,List.getD_eq_getElem?_getD,List.getElem?_append_left h]
theorem jK {α:Type} {l:List α} {x:α} {m:List α} {i:Nat} (d:α) (h:i=l.length):(l++x::m).getD i d=x:=by
 rw [List.getD_eq_getElem?_getD,List.getElem?_append_right om,h];simp
theorem GZ {α:Type} {l:List α} {i:Nat} (d:α) (h:l.length≤i):l.getD i d=d:=by
 rw [List.getD_eq_getElem?_getD,List.getElem?_eq_none h];rfl
section
variable {P:Program} {cfg:xV} {N:Nat} {cx:Ctx}
theorem aee {r:Option Nat} {n n':Nat} {c:Code} {Q:Exit→Act→World→Prop} {a:Act} {w:World} (h:c.wpIn (FW r) n P Q a w):c.wpIn (FW r) n' P Q a w:=
 fun b k cs hro hb _=>h b k cs hro hb (fun _ hd=>by cases hd)
def OP (W:World) (I:Nat→Prop) (O:OM) (m:Nat):Ctx:=⟨W,fun b=>∃o p bo sz,O o=some p∧p.pl=some (b,bo,sz),I,O,m,fun k o=>W.heap[k]? = some o∧OG o=true,true⟩
theorem Rel.enter {H:Nat→Option dY} {D:Nat→Prop} {W:World} {I:Nat→Prop} {O:OM} (hR:Rel cfg cx H D W I O) (hno:∀o kd z f,H o≠some (.map kd z f)) {m:Nat} (hm:∀o,o<m→D o):Rel cfg (OP W I O m) H D W I O where
 maps:=fun o kd z f _ _ _ _ h _ _=>absurd h (hno o kd z f)
 dom:=hR.dom
 used:=hR.used
 objs:=hR.objs
 inj:=hR.inj
 pR:=hR.pR
 lt:=hR.lt
 Au:=hR.Au
 size:=Nat.le_refl _
 frame:=fun _ _ _=>rfl
 new:=fun o p _ bo sz h1 h2=>.inr ⟨o,p,bo,sz,h1,h2⟩
 glob:=hR.glob
 R9:=fun _ h=>h
 Ws:=fun _ h=>.inl h
 YF:=fun _ _=>.inl rfl
 Dm:=hm
 env:=⟨iF.refl _,fun _ _ h=>h⟩
theorem Rel.back {H H':Nat→Option dY} {D D':Nat→Prop} {W W':World} {I I':Nat→Prop} {O O':OM} {m:Nat} (h0:Rel cfg cx H D W I O) (h1:Rel cfg (OP W I O m) H' D' W' I' O') (hm:∀o,o<cx.m→o<m):Rel cfg cx H' D' W' I' O' where
 dom:=h1.dom
 maps:=fun o kd z f p b bo sz q1 q2 q3=>by
  have h2:=(h1.maps o kd z f p b bo sz q1 q2 q3).1;refine ⟨Nat.le_trans h0.size h2,fun ob hk=>?_⟩;have h3:=(h0.env.kept b ob hk).1;have h2:W.heap.size≤b:=h2;rw [Array.getElem?_eq_none h2] at h3;cases h3
 used:=h1.used
 objs:=h1.objs
 inj:=h1.inj
 pR:=h1.pR
 lt:=h1.lt
 Au:=h1.Au
 size:=Nat.le_trans h0.size h1.size
 frame:=fun b hb hM=>by
  rw [h1.frame b (Nat.lt_of_lt_of_le hb h0.size) (fun ⟨o,p,bo,sz,q1,q2⟩=>by
   rcases h0.new o p b bo sz q1 q2 with h | h
   ·omega
   ·exact hM h)]
  exact h0.frame b hb hM
 new:=fun o p b bo sz q1 q2=>by
  rcases h1.new o p b bo sz q1 q2 with h | ⟨o',p',pQ,sz',q3,q4⟩
  ·exact .inl (Nat.le_trans h0.size h)
  ·exact h0.new o' p' b pQ sz' q3 q4
 glob:=h1.glob
 R9:=fun b h=>h1.R9 b (h0.R9 b h)
 Ws:=fun b h=>by
  rcases h1.Ws b h with h | h | ⟨o',p',pQ,sz',q3,q4⟩
  ·exact h0.Ws b h
  ·exact .inr (.inl (Nat.le_trans h0.size h))
  ·exact .inr (h0.new o' p' b pQ sz' q3 q4)
 YF:=fun o ho=>by
  rcases h1.YF o (hm o ho) with h | h
  ·rw [h]; exact h0.YF o ho
  ·exact .inr h
 Dm:=fun o ho=>h1.Dm o (hm o ho)
 env:=h0.env.step h1.env.same
theorem Rel.af3 {H H':Nat→Option dY} {D D':Nat→Prop} {W W':World} {I I':Nat→Prop} {O O':OM} {m:Nat} (h0:Rel cfg cx H D W I O) (h1:Rel cfg (OP W I O m) H' D' W' I' O') (b:Nat) (hb:I b):W'.heap[b]? = W.heap[b]? :=
 h1.frame b (h0.Au b hb) (fun ⟨o,p,bo,sz,q1,q2⟩=>h0.pR o p b bo sz q1 q2 hb)
theorem eT.behind {H H':Nat→Option dY} {D':Nat→Prop} {W W':World} {I I':Nat→Prop} {O O':OM} {m:Nat} (h0:Rel cfg cx H (fun o=>o<m) W I O) (h1:Rel cfg (OP W I O m) H' D' W' I' O') {v:AV} {x:Value} (h:eT W I O (fun o=>o<m) v x):eT W' I' O' D' v x:=
 h.mono h1.R9 (h0.af3 h1) h1.YF h1.Dm h0.used
theorem Kc (w:World) (o:Obj):rP (w.alloc o) w:=by
 have hlt:∀a:Addr,(w.cell? a).isSome=true→a.block<w.heap.size:=fun a h=>by
  obtain ⟨v,hv⟩:=Option.isSome_iff_exists.1 h;exact World.block_lt_of_cell? _ _ hv
 have hb:∀a:Addr,a.block<w.heap.size→(w.alloc o).heap[a.block]? = w.heap[a.block]? := fun a h=>by
  show (w.heap.push o)[a.block]? = _;rw [Array.getElem?_push_lt h,Array.getElem?_eq_getElem h]
 refine ⟨fun a v hv=>?_,fun a hv=>?_,by simp,fun b es c hbb=>by
  have hlt2:b<w.heap.size:=by
   rcases Nat.lt_or_ge b w.heap.size with h1 | h1
   ·exact h1
   ·rw [Array.getElem?_eq_none h1] at hbb; cases hbb
  show (w.heap.push o)[b]? = _;rw [Array.getElem?_push_lt hlt2,← hbb,Array.getElem?_eq_getElem hlt2]⟩
 ·rw [← hv,World.cell?_of_block (hb a (hlt a (by rw [hv]; rfl)))]
 ·exact World.frozen?_of_block (hb a (hlt a hv))
def QY:lC→Bool
 | []=>true
 | (_,x)::l=>match x with
  | some (.map ..)=>false
  | _=>QY l
theorem WH:∀ {H:lC},QY H=true→∀o kd z f,hget H o≠some (.map kd z f):=by
 intro H;induction H with
 | nil=>intro _ o kd z f h; cases h
 | cons u l ih=>
  intro h o kd z f;obtain ⟨q,x⟩:=u;unfold QY at h;unfold hget look;split at h
  ·cases h
  ·rename_i hx;cases hb:Nat.beq q o with
   | true=>
    simp only;cases x with
    | none=>intro h; cases h
    | some x=>
     intro h;cases h;exact hx kd z f rfl
   | false=>simp only; exact ih h o kd z f
def Y5 (P:Program) (gf:FuncId) (caps:List AV) (len:Nat) (e0 e1:Nat→AV):Prop:=
 (∀args w,(callFunc gf args).run P w=.ok (.enter gf args) w)∧
 ∀(w:World) (I:Nat→Prop) (lb:Array Value),(∀b,I b→b<w.heap.size)→lb.size=caps.length→(∀j,j<caps.length→iG w I (nth caps j) (lb.getD j Go.undef))→
  ∃v0 v1:Nat→Value,(∀k,k<len→iG w I (e0 k) (v0 k)∧iG w I (e1 k) (v1 k))∧
   ∀(l n:Nat) (J:Nat→World→Prop) (Jx:World→Prop) (W:World),(∀b,I b→W.heap[b]? = w.heap[b]?)→
    (∀k W1,k<len→J k W1→YieldAt (FW none) n P l #[v0 k,v1 k] W1 fun e W'=>(e=.returned (.bool true)∧J (k+1) W'∧∀b,I b→W'.heap[b]? = W1.heap[b]?)∨(e=.returned (.bool false)∧Jx W'))→
    J 0 W→CallsIn (FW none) n P gf (#[.func (.yield l) #[] #[]]++lb) W fun e W'=>(∃v,e=.returned v)∧(J len W'∨Jx W')
theorem arJ {α β:Type} (p0 p1:α) (v0 v1:β):(#[p0,p1]:Array α).zip #[v0,v1]=#[(p0,v0),(p1,v1)]:=by
 apply Array.toList_inj.1;simp
theorem C9 (t:Nat):lS (fun _=>true) (some t) true=fun _=>true:=by
 funext k;unfold lS;simp
theorem aif (hc:iy P cfg) {m:Nat} {ct ct':List Nat} {g:Operand} {p0 p1:Nat} {assign body:Code} {s:St} {K:Exit→St→Prop} (af4:iZ N assign=true) (aoj:iZ N body=true) (hp0:p0<N) (hp1:p1<N)
  {gf:FuncId} {caps:List AV} {len:Nat} {e0 e1:Nat→AV} (hit:Y5 P gf caps len e0 e1) (hg:Yc cfg (iN s.tmps) g=.fn gf caps) (aj9:∀v∈caps,∃cs,v=.ro cs)
  {α:Type} (st:α→St) (st1:Nat→α→St) (hnm:∀k gx,QY (st gx).heap=true∧QY (st1 k gx).heap=true) (x0:α) (ρ0:List (Nat×Option Nat)) (h0:Emb m ρ0 s (st x0)) (inv:Nat→α→Prop) (hi0:inv 0 x0)
  (ha:∀k l gx,k<len→inv k gx→m≤(st gx).nx∧lD cfg (Spec P cfg) ct (Loops P cfg N (some l) (st gx).nx) assign ⟨(p1,e1 k)::(p0,e0 k)::(st gx).tmps,(st gx).heap,(st gx).nx⟩ (fun e s'=>match e with | .normal=>∃ρ,Emb (st gx).nx ρ s' (st1 k gx) | _=>False))
  (hb:∀k l gx,k<len→inv k gx→lD cfg (Spec P cfg) ct' (Loops P cfg N (some l) (st1 k gx).nx) body (st1 k gx) (fun e s'=>match e with | .normal=>∃x' ρ,inv (k+1) x'∧Emb m ρ ⟨(st gx).tmps,s'.heap,s'.nx⟩ (st x') | .ret=>K .ret ⟨(st gx).tmps,s'.heap,s'.nx⟩ | _=>False))
  (hK:∀gx,inv len gx→K .normal (st gx)):Loops P cfg N none m (.rangeFunc g #[p0,p1] assign body) s K:=by
 refine ⟨fun n cx0 a w I O hS0 hrd=>aee (n:=3) ?_⟩;obtain ⟨ms,hnd,_,hds,hms⟩:=hS0.marks;obtain ⟨cx,hcx⟩:∃cx,cx=cx0.also ms:=⟨_,rfl⟩;have hcw:cx.w0=cx0.w0:=by rw [hcx]; rfl
 have hcm:cx.m=cx0.m:=by rw [hcx]; rfl
 have hR0:Rel cfg cx (hget s.heap) (fun o=>o<s.nx) w I O:=by rw [hcx]; exact hS0.rel.also (fun D hD=>(hms D hD).2)
 obtain ⟨lb,hgv,hlb,hlr⟩:=(hg ▸ u6 hS0.rel hS0.tmps g (fun _ _=>rfl)).Mf;have hcp:∀j,j<caps.length→iG w I (nth caps j) (lb.getD j Go.undef):=fun j hj=>by
  have hmem:nth caps j∈caps:=by rw [uJ]; rw [List.getD_eq_getElem?_getD,List.getElem?_eq_getElem hj]; exact List.getElem_mem _
  obtain ⟨cs,hcs⟩:=aj9 _ hmem;have:=hlr j hj;rw [hcs] at this ⊢;cases this with
  | pure h=>exact h
 obtain ⟨v0,v1,hel,hrun⟩:=hit.2 w I lb hR0.Au hlb hcp;refine wpIn_rangeFunc ?_;intro fn hfn;obtain ⟨rc,hrc⟩:∃rc:LoopState→Option Code→Loop,rc=fun st pe=>{ state:=st,pending:=pe,fn,tmps:=a.tmps,params:=#[p0,p1],assign,body,defers:=w.heap.size }:=⟨_,rfl⟩;obtain ⟨W1,hW1⟩:∃W1,W1=(w.alloc (.deferred (some []))).alloc (.loop (rc .ready none)):=⟨_,rfl⟩;have hsz1:W1.heap.size=w.heap.size+2:=by rw [hW1]; simp
 have hD1:W1.heap[w.heap.size]? = some (.deferred (some [])):=by
  rw [hW1];show ((w.heap.push _).push _)[w.heap.size]? = _;have hp:(w.heap.push (Obj.deferred (some []))).size=w.heap.size+1:=Array.size_push _;rw [Array.getElem?_push,if_neg om,Array.getElem?_push_size]
 have hL1:W1.heap[w.heap.size+1]? = some (.loop (rc .ready none)):=by
  have:=World.alloc_heap_new (w.alloc (.deferred (some []))) (.loop (rc .ready none));rw [World.size_alloc] at this;rw [hW1];exact this
 have akb:∀b,b<w.heap.size→W1.heap[b]? = w.heap[b]? := fun b hb=>by
  rw [hW1];show ((w.heap.push _).push _)[b]? = _;rw [Array.getElem?_push_lt (by simp; omega),Array.getElem_push_lt hb,Array.getElem?_eq_getElem hb]
 have amq:rP W1 w:=by
  rw [hW1];have q1:=Kc w (.deferred (some []));have q2:=Kc (w.alloc (.deferred (some []))) (.loop (rc .ready none));exact ⟨fun x v h=>q2.cell x v (q1.cell x v h),fun x h=>by
   rw [q2.frozen x (by obtain ⟨v,hv⟩:=Option.isSome_iff_exists.1 h; rw [q1.cell x v hv]; rfl),q1.frozen x h],Nat.le_trans q1.size q2.size,fun b es c h=>q2.maps b es c (q1.maps b es c h)⟩
 have ap2:GI cx W1:=by
  rw [hW1];exact (hR0.env.step (iF.alloc _ _)).step (iF.alloc _ _)
 have arK:∀k o,cx.K k o→k<w.heap.size:=fun k o h=>by
  have:=(hR0.env.kept k o h).1;rcases Nat.lt_or_ge k w.heap.size with h1 | h1
  ·exact h1
  ·rw [Array.getElem?_eq_none h1] at this; cases this
 have hw0:cx.w0.heap.size≤w.heap.size:=hR0.size;have akc:∀(W:World) (k:Nat) (o:Obj),w.heap.size≤k→GI cx W→GI cx (W.putObj k o):=fun W k o hk he=>by
  refine ⟨⟨he.same.os,he.same.tape,he.same.output,fun i x hi hx=>?_⟩,fun i x hi=>?_⟩
  ·have hlt:i<cx.w0.heap.size:=by
    rcases Nat.lt_or_ge i cx.w0.heap.size with h1 | h1
    ·exact h1
    ·rw [Array.getElem?_eq_none h1] at hi; cases hi
   rw [World.putObj_heap_other om];exact he.same.keep i x hi hx
  ·rw [World.putObj_heap_other (by have:=arK i x hi; omega)];exact he.kept i x hi
 have Yj:∀(W:World),Marks cx W ([]:List Deferred):=fun W=>⟨[],List.nodup_nil,fun _=>rfl,rfl,fun _ h=>by cases h⟩
 have hS1:jH cfg N m cx s ⟨a.tmps,[]⟩ w I O:=⟨hcm.trans hS0.m,hR0,⟨rfl,hS0.tmps.size,hS0.tmps.rep,hS0.tmps.gone⟩,Yj w⟩;have hS2:=GY hS1 h0;have acn:∀ {s':St} {W:World} {I':Nat→Prop} {O':OM} {o:Obj} (o':Obj),W.heap[w.heap.size+1]? = some o→OG o=true∧(∀es c,o≠.map es c)→jH cfg N m cx s' ⟨a.tmps,[]⟩ W I' O'→jH cfg N m cx s' ⟨a.tmps,[]⟩ (W.putObj (w.heap.size+1) o') I' O':=fun o' ho hn hS=>
  hS.turn (FZ ho hn.1 hn.2) (fun b hb=>World.putObj_heap_other om) (akc _ _ _ om hS.rel.env) rfl (Yj _)
 refine ⟨w.heap.size+1,[YZ w.heap.size],W1,{ target:=.fn (.func gf) lb,args:=#[.func (.yield (w.heap.size+1)) #[] #[]] },W1,gf,#[.func (.yield (w.heap.size+1)) #[] #[]]++lb,W1,?_,?_,fun _ _=>trivial,?_,(fun h=>by cases h),?_⟩
 ·rw [hW1,hrc]; exact run_enterLoop_outer _ _ _ _ _
 ·simp only [resolve,hgv];simp [go_sem]
 ·simp [invoke,go_sem,hit.1]
 refine (hrun (w.heap.size+1) (3 - 1)
  (fun k W=>∃gx,inv k gx∧∃I1 O1,jH cfg N m cx (st gx) ⟨a.tmps,[]⟩ W I1 O1∧(∀b,I b→I1 b)∧(∀b,I b→W.heap[b]? = w.heap[b]?)∧W.heap[w.heap.size+1]? = some (.loop (rc .ready none))∧W.heap[w.heap.size]? = some (.deferred (some [])))
  (fun W=>∃s' I1 O1,K .ret s'∧jH cfg N m cx s' ⟨a.tmps,[]⟩ W I1 O1∧W.heap[w.heap.size+1]? = some (.loop (rc .done (some .ret)))∧W.heap[w.heap.size]? = some (.deferred (some [])))
  W1 (fun b hb=>akb b (hR0.Au b hb)) ?_ ?_).mono ?_
 ·rintro k W hk ⟨gx,hiv,I1,O1,hS,hII,hkeep,hl,hD⟩;have hlW:w.heap.size+1<W.heap.size:=(Array.getElem?_eq_some_iff.1 hl).1;have hy:=run_yield (P:=P) (args:=#[v0 k,v1 k]) hl (by rw [hrc]; rfl);rw [hrc] at hy;refine ⟨fn,_,assign,body,hy,roundIn_of_wpIn hfn ?_⟩;clear hy;obtain ⟨hnx,hxa⟩:=ha k (w.heap.size+1) gx hk hiv;have hmx:∀o,o<cx.m→o<(st gx).nx:=fun o ho=>Nat.lt_of_lt_of_le (by rw [hS.m] at ho; exact ho) hnx;have hRr:=hS.rel.enter (WH (hnm k gx).1) (m:=(st gx).nx) (fun _ h=>h);have hwI:∀b,I b→W.heap[b]? = w.heap[b]? := hkeep;obtain ⟨he0,he1⟩:=hel k hk;have hpe:∀ {v:AV} {x:Value},iG w I v x→eT W I1 O1 (fun o=>o<(st gx).nx) v x:=fun h=>.pure (h.mono hII hwI);have hT1:=zP.put hS.tmps (fun _ _ h=>h) (some p0) (fun _ h=>by cases h; exact hp0) (e0 k) (v0 k) true (fun _=>hpe he0) (fun h=>by cases h);have hT2:=zP.put hT1 (fun _ _ h=>h) (some p1) (fun _ h=>by cases h; exact hp1) (e1 k) (v1 k) true (fun _=>hpe he1) (fun h=>by cases h);rw [C9,C9,← qh,← qh] at hT2;have hSa:jH cfg N (st gx).nx (OP W I1 O1 (st gx).nx) ⟨(p1,e1 k)::(p0,e0 k)::(st gx).tmps,(st gx).heap,(st gx).nx⟩ { tmps:=(a.tmps.setIfInBounds p0 (v0 k)).setIfInBounds p1 (v1 k),defers:=[] } W I1 O1:=
   ⟨rfl,hRr,hT2,⟨[],List.nodup_nil,fun _=>rfl,rfl,fun _ h=>by cases h⟩⟩
  have hga:=jR hc assign _ _ af4 hxa (3 - 1) _ _ W I1 O1 hSa rfl;have htm:((#[p0,p1]:Array Tmp).zip #[v0 k,v1 k]).foldl (fun tmps (t,a)=>tmps.setIfInBounds t a) a.tmps=(a.tmps.setIfInBounds p0 (v0 k)).setIfInBounds p1 (v1 k):=by rw [arJ]; rfl
  refine wpIn_mono (htm ▸ hga) ?_;rintro e a2 W2 ⟨s2,I2,O2,hk2,hSb⟩;cases e with
  | normal=>
   obtain ⟨ρ,hE⟩:=hk2;have hSc:=GY hSb hE;have hRc:=hS.rel.back hSc.rel hmx;have hl2:=(hSc.rel.env.kept _ _ ⟨hl,rfl⟩).1;have hD2:=(hSc.rel.env.kept _ _ ⟨hD,rfl⟩).1;have arM:=fun b hb=>hS.rel.af3 hSc.rel b (hII b hb);refine ⟨_,run_beginRound hl2 (by rw [hrc]),?_⟩;have arN:w.heap.size+1<W2.heap.size:=(Array.getElem?_eq_some_iff.1 hl2).1;obtain ⟨W3,hW3⟩:∃W3,W3=W2.putObj (w.heap.size+1) (.loop { rc .ready none with state:=.busy }):=⟨_,rfl⟩;rw [← hW3];have hl3:W3.heap[w.heap.size+1]? = some (.loop { rc .ready none with state:=.busy }):=by rw [hW3]; exact World.putObj_heap_same arN
   have hD3:W3.heap[w.heap.size]? = some (.deferred (some [])):=by rw [hW3]; exact (World.putObj_heap_other om).trans hD2
   have aok:rP W3 W2:=by rw [hW3]; exact FZ hl2 rfl
   have hR3:Rel cfg cx (hget (st1 k gx).heap) (fun o=>o<(st1 k gx).nx) W3 I2 (nS ρ (st1 k gx).heap O2):=hRc.turn aok (fun b hb=>by rw [hW3]; exact World.putObj_heap_other om) (by rw [hW3]; exact akc _ _ _ om hRc.env);have hnx1:(st gx).nx≤(st1 k gx).nx:=by
    have:=hE.IX;unfold afk at this;split at this
    ·exact Nat.le_of_ble_eq_true this
    ·cases this
   have hT0:∀t,eT W3 I2 (nS ρ (st1 k gx).heap O2) (fun o=>o<(st1 k gx).nx) (iN (st gx).tmps t) (a.tmps.getD t Go.undef):=fun t=>(eT.behind hS.rel hSc.rel (hS.tmps.rep t rfl)).turn aok;have hRd:=hR3.enter (WH (hnm k gx).2) (m:=(st1 k gx).nx) (fun _ ho=>ho);have hSd:jH cfg N (st1 k gx).nx (OP W3 I2 (nS ρ (st1 k gx).heap O2) (st1 k gx).nx) (st1 k gx) a2 W3 I2 (nS ρ (st1 k gx).heap O2):=by
    refine ⟨rfl,hRd,⟨rfl,hSc.tmps.size,fun t ht=>(hSc.tmps.rep t ht).turn aok,fun t ht=>by cases ht⟩,?_⟩;have:a2.defers=[]:=by
     obtain ⟨ms2,_,h1,h2,_⟩:=hSc.marks;rw [h1 rfl] at h2;exact h2
    rw [this];exact ⟨[],List.nodup_nil,fun _=>rfl,rfl,fun _ h=>by cases h⟩
   have hgb:=jR hc body _ _ aoj (hb k (w.heap.size+1) gx hk hiv) (3 - 1) _ _ W3 I2 _ hSd rfl;refine wpIn_mono hgb ?_;rintro e a4 W4 ⟨s4,I4,O4,hk4,hSe⟩;have hRe:=hR3.back hSe.rel (fun o ho=>Nat.lt_of_lt_of_le (hmx o ho) hnx1);have hl4:=(hSe.rel.env.kept _ _ ⟨hl3,rfl⟩).1;have hD4:=(hSe.rel.env.kept _ _ ⟨hD3,rfl⟩).1;have ap3:w.heap.size+1<W4.heap.size:=(Array.getElem?_eq_some_iff.1 hl4).1;have ap4:∀b,I b→I2 b:=fun b hb=>hSc.rel.R9 b (hII b hb);have ap5:∀b,I b→W4.heap[b]? = W.heap[b]? := fun b hb=>by
    have hbl:=hR0.Au b hb;rw [hR3.af3 hSe.rel b (ap4 b hb),hW3,World.putObj_heap_other om];exact arM b hb
   have hT4:jH cfg N m cx ⟨(st gx).tmps,s4.heap,s4.nx⟩ ⟨a.tmps,[]⟩ W4 I4 O4:=
    ⟨hS.m,hRe,⟨rfl,hS.tmps.size,fun t _=>eT.behind hR3 hSe.rel (hT0 t),fun t ht=>by cases ht⟩,Yj _⟩
   cases e with
   | normal=>
    obtain ⟨x4,ρ4,arO,hE4⟩:=hk4;have hSf:=GY hT4 hE4;refine ⟨_,_,run_endRound none hl4,.inl ⟨rfl,⟨x4,arO,I4,_,acn _ hl4 ⟨rfl,nofun⟩ hSf,fun b hb=>hSe.rel.R9 b (ap4 b hb),fun b hb=>?_,?_,?_⟩,fun b hb=>?_⟩⟩
    ·have hbl:=hR0.Au b hb;rw [World.putObj_heap_other om,ap5 b hb];exact hkeep b hb
    ·rw [World.putObj_heap_same ap3,hrc]; rfl
    ·rw [World.putObj_heap_other om]; exact hD4
    ·have hbl:=hR0.Au b hb;rw [World.putObj_heap_other om];exact ap5 b hb
   | ret=>
    refine ⟨_,_,run_endRound (some .ret) hl4,.inr ⟨rfl,_,I4,O4,hk4,acn _ hl4 ⟨rfl,nofun⟩ hT4,?_,?_⟩⟩
    ·rw [World.putObj_heap_same ap3,hrc]; rfl
    ·rw [World.putObj_heap_other om]; exact hD4
   | exit id=>exact hk4.elim
   | goto t=>exact hk4.elim
   | panic ch=>exact hk4.elim
   | outgrown=>exact hk4.elim
  | ret=>exact hk2.elim
  | exit id=>exact hk2.elim
  | goto t=>exact hk2.elim
  | panic ch=>exact hk2.elim
  | outgrown=>exact hk2.elim
 ·exact ⟨x0,hi0,I,_,hS2.turn amq (fun b hb=>akb b om) ap2 rfl (Yj _),fun _ h=>h,fun b hb=>akb b (hR0.Au b hb),hL1,hD1⟩
 ·have fin:∀ {s':St} {W:World} {I':Nat→Prop} {O':OM} {o:Obj} (o':Obj),W.heap[w.heap.size+1]? = some o→OG o=true∧(∀es c,o≠.map es c)→W.heap[w.heap.size]? = some (.deferred (some []))→jH cfg N m cx s' ⟨a.tmps,[]⟩ W I' O'→
    jH cfg N m cx0 s' { a with defers:=YZ w.heap.size::a.defers } (W.putObj (w.heap.size+1) o') I' O':=by
   intro s' W I' O' o o' ho hn hD hS
   have hS':=acn o' ho hn hS
   have hRx:=hS'.rel
   rw [hcx] at hRx
   obtain ⟨hRy,hmy⟩:=hRx.ajV
   refine ⟨hS0.m,hRy,⟨rfl,hS'.tmps.size,hS'.tmps.rep,hS'.tmps.gone⟩,⟨w.heap.size::ms,?_,(fun h=>by rw [hrd] at h; cases h),?_,fun D hDm=>?_⟩⟩
   ·refine List.nodup_cons.2 ⟨fun hin=>?_,hnd⟩
    have:=(hms _ hin).2
    rw [Array.getElem?_eq_none (Nat.le_refl _)] at this
    cases this
   ·show YZ w.heap.size::a.defers=_
    rw [hds]
    rfl
   ·rcases List.mem_cons.1 hDm with rfl | hDm
    ·exact ⟨by rw [← hcw]; exact hw0,(World.putObj_heap_other om).trans hD⟩
    ·exact ⟨(hms D hDm).1,hmy D hDm⟩
  rintro e W2 ⟨⟨v,rfl⟩,⟨gx,hiv,I2,O2,aol,_,_,hl2,hD2⟩ | ⟨s2,I2,O2,hk2,aol,hl2,hD2⟩⟩
  ·exact ⟨none,_,by have:=run_endLoop (P:=P) hl2 (by rw [hrc]; simp); rw [hrc] at this; exact this,st gx,I2,O2,hK gx hiv,fin _ hl2 ⟨rfl,nofun⟩ hD2 aol⟩
  ·exact ⟨some .ret,_,by have:=run_endLoop (P:=P) hl2 (by rw [hrc]; simp); rw [hrc] at this; exact this,wpIn_ret ⟨s2,I2,O2,hk2,fin _ hl2 ⟨rfl,nofun⟩ hD2 aol⟩⟩
end
end Go.Ab
namespace Go.Ab
inductive M:Type→Type 1 where
 | ret {R:Type} (v:R):M R
 | need {R:Type} (p:Prop) (d:Decidable p) (m:M R):M R
 | grd {R:Type} (p:Prop) (d:Decidable p) (m:M R) (z:R):M R
 | bnd {A R:Type} (m:M A) (k:A→M R):M R
 | sup {R:Type} (f:Nat→M R):M R
 | bot {R:Type}:M R
def M.den:{R:Type}→M R→R→Prop
 | _,.ret v,r=>r=v
 | _,.need p _ m,r=>p∧den m r
 | _,.grd p _ m _,r=>p→den m r
 | _,.bnd m k,r=>∃v,den m v∧den (k v) r
 | _,.sup f,r=>∃n,den (f n) r
 | _,.bot,_=>False
instance {R:Type}:CoeFun (M R) fun _=>R→Prop:=⟨M.den⟩
instance {x:Int}:Decidable (aF x):=by unfold aF; infer_instance
def need {R:Type} (p:Prop) [d:Decidable p] (m:M R):M R:=.need p d m
def grd {R:Type} [Inhabited R] (p:Prop) [d:Decidable p] (m:M R):M R:=.grd p d m default
def bnd {A R:Type} (m:M A) (k:A→M R):M R:=.bnd m k
def ret {R:Type} (v:R):M R:=.ret v
def itM {σ R:Type} (F:(σ→M R)→σ→M R):Nat→σ→M R
 | 0=>fun _=>.bot
 | n+1=>F (itM F n)
def cZ {σ R:Type} (F:(σ→M R)→σ→M R) (s:σ):M R:=.sup fun n=>itM F n s
noncomputable def M.ex (n:Nat) {R:Type} (m:M R):Option R:=
 @M.rec (fun R _=>Option R) (fun v=>some v) (fun _ d _ ih=>match d with | .isTrue _=>ih | .isFalse _=>none) (fun _ d _ z ih=>match d with | .isTrue _=>ih | .isFalse _=>some z)
  (fun _ _ ih ihk=>match ih with | some v=>ihk v | none=>none) (fun _ ih=>ih n) none R m
theorem M.ake (n:Nat) {R:Type} (m:M R):∀r,m.ex n=some r→m r:=by
 induction m with
 | ret v=>intro r h; exact (Option.some.inj h).symm
 | need p d m ih=>
  intro r h;cases d with
  | isTrue hp=>exact ⟨hp,ih r h⟩
  | isFalse hp=>exact absurd h (by show ¬ (none=some r); nofun)
 | grd p d m z ih=>
  intro r h;cases d with
  | isTrue hp=>exact fun _=>ih r h
  | isFalse hp=>exact fun q=>absurd q hp
 | bnd m k ih ihk=>
  intro r h;have h:(match m.ex n with | some v=>(k v).ex n | none=>none)=some r:=h;cases hv:m.ex n with
  | none=>rw [hv] at h; cases h
  | some v=>rw [hv] at h; exact ⟨v,ih v hv,ihk v r h⟩
 | sup f ih=>intro r h; exact ⟨n,ih n r h⟩
 | bot=>intro r h; cases h
theorem aY {R:Type} {p:Prop} {d:Decidable p} {m:M R} {r:R} {K:Prop} (hm:need p m r) (h:p→m r→K):p∧K:=⟨hm.1,h hm.1 hm.2⟩
theorem iU {R:Type} {c:Bool} {x y:M R} {r:R} {A B:Prop} (hm:(cond c x y) r) (h1:c=true→x r→A) (h2:c=false→y r→B):Yy c A B:=by
 cases c
 ·exact h2 rfl hm
 ·exact h1 rfl hm
theorem iI {A R:Type} {m:M A} {k:A→M R} {r:R} {G:Prop} (hm:bnd m k r) (h:∀v,m v→k v r→G):G:=by
 obtain ⟨v,h1,h2⟩:=hm;exact h v h1 h2
section
variable {P:Program} {cfg:xV} {N:Nat}
theorem aco {r:Option Nat} {m:Nat} {c:Code} {s:St} {K:Exit→St→Prop} {α:Type} (st:α→St) (inv:α→Prop) (μ:α→Nat) (x0:α) (ρ0:List (Nat×Option Nat)) (os0:List Nat) (h0:inv x0) (hE:QW m ρ0 os0 s (st x0))
  (round:∀x,inv x→Good P cfg N r m c (st x) (fun e s'=>match e with | .normal=>∃x' ρ os,inv x'∧μ x'<μ x∧QW m ρ os s' (st x') | e=>K e s')):Loops P cfg N r m (.loop c) s K:=by
 refine ⟨fun n0 cx a w I O hS hrd=>?_⟩;obtain ⟨I1,O1,hS1⟩:=QX hS hE;refine wpIn_loop_ghost (fun n a w=>∃x I O,inv x∧n=μ x∧jH cfg N m cx (st x) a w I O) (μ x0) ⟨x0,I1,O1,h0,rfl,hS1⟩ ?_;intro n a w hI;obtain ⟨x,I,O,hx,rfl,hS⟩:=hI;refine wpIn_mono (round x hx n0 cx a w I O hS hrd) ?_;intro e a' w' ⟨s',I',O',h1,h2⟩;cases e with
 | normal=>
  obtain ⟨x',ρ,os,h3,h4,h5⟩:=h1;obtain ⟨I2,O2,hS2⟩:=QX h2 h5;exact ⟨μ x',h4,x',I2,O2,h3,rfl,hS2⟩
 | exit id=>exact ⟨s',I',O',h1,h2⟩
 | goto l=>exact ⟨s',I',O',h1,h2⟩
 | ret=>exact ⟨s',I',O',h1,h2⟩
 | panic ch=>exact ⟨s',I',O',h1,h2⟩
 | outgrown=>exact ⟨s',I',O',h1,h2⟩
theorem u7 (hc:iy P cfg) {rr:Option Nat} {m:Nat} {ct:List Nat} {c:Code} {s:St} {K:Exit→St→Prop} (hok:iZ N c=true) {σ R:Type} {F:(σ→M R)→σ→M R} {x0:σ} {r:R} (hm:cZ F x0 r) (st:σ→St) (ρ0:List (Nat×Option Nat)) (os0:List Nat) (hE:QW m ρ0 os0 s (st x0))
  (round:∀(self:σ→M R) (x:σ),F self x r→lD cfg (Spec P cfg) ct (Loops P cfg N rr m) c (st x) (fun e s'=>match e with | .normal=>∃x' ρ os,self x' r∧QW m ρ os s' (st x') | e=>K e s')):Loops P cfg N rr m (.loop c) s K:=by
 obtain ⟨n0,h0⟩:=hm;refine aco (fun x:σ×Nat=>st x.1) (fun x=>itM F x.2 x.1 r) (fun x=>x.2) (x0,n0) ρ0 os0 h0 hE ?_;rintro ⟨x,n⟩ hx;cases n with
 | zero=>exact hx.elim
 | succ n=>
  refine (jR hc c (st x) _ hok (round (itM F n) x hx)).mono ?_;intro e s' h;cases e with
  | normal=>
   obtain ⟨x',ρ,os,h1,h2⟩:=h;exact ⟨(x',n),ρ,os,h1,Nat.lt_succ_self n,h2⟩
  | _=>exact h
theorem Y6 (hc:iy P cfg) {rr:Option Nat} {m:Nat} {ct:List Nat} {x y:Code} {s:St} {K:Exit→St→Prop} (aom:iZ N x=true) (aon:iZ N y=true) {σ R:Type} (k:σ→M R) (r:R) (st:σ→St)
  (h1:lD cfg (Spec P cfg) ct (Loops P cfg N rr m) x s (fun e s'=>match e with | .normal=>∃x' ρ os,k x' r∧QW m ρ os s' (st x') | e=>K e s'))
  (h2:∀x',k x' r→lD cfg (Spec P cfg) ct (Loops P cfg N rr m) y (st x') K):Loops P cfg N rr m (.seq x y) s K:=by
 refine ⟨tH ((jR hc x s _ aom h1).mono ?_)⟩;intro e s' h;cases e with
 | normal=>
  obtain ⟨x',ρ,os,h3,h4⟩:=h;exact fun n0 cx a w I O hS hrd=>by
   obtain ⟨I',O',h'⟩:=QX hS h4;exact jR hc y (st x') K aon (h2 x' h3) n0 cx a w I' O' h' hrd
 | _=>exact h
structure akf (P:Program) (cfg:xV) (N:Nat) (r:Option Nat) (m:Nat) (c:Code) (K:Exit→St→Prop) (M:Nat) (s:St):Prop where
 ok:∀(n0:Nat) (cx:Ctx) (a:Act) (w:World) (I:Nat→Prop) (O:OM),jH cfg N m cx s a w I O→cx.rd=r.isSome→Code.roundsIn (FW r) n0 P c (fun e a' w'=>∃s' I' O',K e s'∧jH cfg N m cx s' a' w' I' O') M a w
theorem oN (hc:iy P cfg) {r:Option Nat} {m:Nat} {ct:List Nat} {c:Code} {s:St} {K:Exit→St→Prop} {M:Nat} (hok:iZ N c=true)
  (h:lD cfg (Spec P cfg) ct (Loops P cfg N r m) c s (fun e s'=>match e with | .normal=>akf P cfg N r m c K M s' | e=>K e s')):akf P cfg N r m c K (M+1) s:=by
 refine ⟨fun n0 cx a w I O hS hrd=>?_⟩;rw [roundsIn_succ];refine wpIn_mono (jR hc c s _ hok h n0 cx a w I O hS hrd) ?_;intro e a' w' ⟨s',I',O',h1,h2⟩;cases e with
 | normal=>exact h1.ok n0 cx a' w' I' O' h2 hrd
 | exit id=>exact ⟨s',I',O',h1,h2⟩
 | goto l=>exact ⟨s',I',O',h1,h2⟩
 | ret=>exact ⟨s',I',O',h1,h2⟩
 | panic ch=>exact ⟨s',I',O',h1,h2⟩
 | outgrown=>exact ⟨s',I',O',h1,h2⟩
theorem aef {r:Option Nat} {m:Nat} {c:Code} {s:St} {K:Exit→St→Prop} (M:Nat) (h:akf P cfg N r m c K M s):Loops P cfg N r m (.loop c) s K:=
 ⟨fun n0 cx a w I O hS hrd=>wpIn_loop_rounds M (h.ok n0 cx a w I O hS hrd)⟩
end
end Go.Ab
namespace Go.Ab
theorem lN {α:Type} {f:α→AV} {d:α} {l:List α} {k:Nat} (_h:k≤l.length):∀i,i<k→Le (bR f d l i) (bR f d (l.take k) i):=fun i hi=>by
 unfold bR;rw [getD_take l d hi];exact .refl _
theorem gM {α:Type} (f:α→AV) (d:α) (l:List α) {n:Nat} {g:Nat→AV} (hg:g=Wo (l.map f):=by rfl) (hn:n≤l.length:=by exact Nat.le_of_ble_eq_true rfl):∀i,i<n→Le (g i) (bR f d l i):=fun i hi=>by
 subst hg;unfold bR Wo;rw [uJ,List.getD_eq_getElem?_getD,List.getElem?_map,List.getD_eq_getElem?_getD,List.getElem?_eq_getElem om];exact .refl _
theorem vZ {α:Type} {f:α→AV} {d:α} {x:α} {l:List α} {n:Nat} {g:Nat→AV} (h0:Le (g 0) (f x)) (ht:∀i,i<n→Le ((fun j=>g (j+1)) i) (bR f d l i)):∀i,i<n+1→Le (g i) (bR f d (x::l) i):=fun i hi=>by
 cases i with
 | zero=>exact h0
 | succ i=>exact ht i om
theorem j4 {α:Type} {f:α→AV} {d:α} {l m:List α} {n k:Nat} {g h:Nat→AV} (hn:n=l.length) (hg:∀i,i<n→Le (g i) (bR f d l i)) (hk:k=m.length) (hh:∀i,i<k→Le (h i) (bR f d m i)):∀i,i<n+k→Le (appG n g h i) (bR f d (l++m) i):=fun i hi=>by
 unfold appG;cases hb:Nat.blt i n with
 | true=>
  have hlt:i<n:=by simpa using hb
  have:=hg i hlt;unfold bR at this ⊢;rw [jr d om];exact this
 | false=>
  have hge:n≤i:=by
   rcases Nat.lt_or_ge i n with h | h
   ·rw [show Nat.blt i n=true by simpa using h] at hb; cases hb
   ·exact h
  have:=hh (i - n) om;unfold bR at this ⊢;rw [List.getD_eq_getElem?_getD,List.getElem?_append_right om,← List.getD_eq_getElem?_getD,← hn];exact this
theorem aii {α:Type} {f:α→AV} {d:α} {l:List α} {a n N:Nat} {g:Nat→AV} (hg:∀i,i<N→Le (g i) (bR f d l i)) (h:a+n≤N):∀i,i<n→Le (g (a+i)) (bR f d ((l.drop a).take n) i):=fun i hi=>by
 have:=hg (a+i) om;unfold bR at this ⊢;rw [getD_take _ d hi,getD_drop];exact this
theorem ET {α:Type} {f:α→AV} {d:α} {l:List α} {n j:Nat} {g:Nat→AV} {v:AV} {x:α} (hg:∀i,i<n→Le (g i) (bR f d l i)) (hn:n=l.length) (hv:Le v (f x)):∀i,i<n→Le (adh g j v i) (bR f d (l.set j x) i):=fun i hi=>by
 unfold adh;cases hb:Nat.beq i j with
 | true=>
  have:=Nat.eq_of_beq_eq_true hb;subst this;unfold bR;rw [List.getD_eq_getElem?_getD,List.getElem?_set_self om];exact hv
 | false=>
  have hne:i≠j:=fun e=>by subst e; simp at hb
  have:=hg i hi;unfold bR at this ⊢;rw [List.getD_eq_getElem?_getD,List.getElem?_set_ne om,← List.getD_eq_getElem?_getD];exact this
def Xk {α:Type} (l:List α) (i:Nat) (s:List α):List α:=l.mapIdx fun j x=>if i≤j then s.getD (j - i) x else x
theorem iR {α:Type} (l:List α) (i:Nat) (s:List α):(Xk l i s).length=l.length:=by
 unfold Xk;rw [List.length_mapIdx]
theorem U9 {α:Type} (d:α) {l s:List α} {i j:Nat} (hj:j<l.length):(Xk l i s).getD j d=if i≤j∧j<i+s.length then s.getD (j - i) d else l.getD j d:=by
 unfold Xk;rw [List.getD_eq_getElem?_getD,List.getElem?_mapIdx,List.getElem?_eq_getElem hj,List.getD_eq_getElem?_getD (l:=l),List.getElem?_eq_getElem hj];simp only [Option.map_some,Option.getD_some];by_cases h1:i≤j
 ·rw [if_pos h1];by_cases h2:j<i+s.length
  ·rw [if_pos ⟨h1,h2⟩,List.getD_eq_getElem?_getD,List.getD_eq_getElem?_getD,List.getElem?_eq_getElem om];rfl
  ·rw [if_neg om,List.getD_eq_getElem?_getD,List.getElem?_eq_none om];rfl
 ·rw [if_neg h1,if_neg om]
theorem acp {α:Type} {f:α→AV} {d:α} {l s:List α} {n i m:Nat} {g h:Nat→AV} (hn:n=l.length) (hg:∀j,j<n→Le (g j) (bR f d l j)) (hm:m=s.length) (hh:∀j,j<m→Le (h j) (bR f d s j)):∀j,j<n→Le (cpG i m g h j) (bR f d (Xk l i s) j):=fun j hj=>by
 unfold bR;rw [U9 d om];by_cases hin:i≤j∧j<i+m
 ·rw [if_pos om,YQ hin.1 hin.2];exact hh (j - i) om
 ·rw [if_neg om,Sl hin];exact hg j hj
theorem Sy {α:Type} (f:α→AV) (d:α) {n:Nat} {z:AV} (hz:Le z (f d):=by exact .refl _):∀i,i<n→Le ((fun _=>z) i) (bR f d (List.replicate n d) i):=fun i hi=>by
 unfold bR;rw [List.getD_eq_getElem?_getD,List.getElem?_replicate,if_pos hi];exact hz
def strOf (l:List Int):ByteArray:=I7 l.length 0 (bR (AV.int .u8) 0 l) ByteArray.empty
def u8L:List AV→Bool
 | []=>true
 | v::l=>anQ v&&u8L l
theorem akg:∀ {es:List AV},u8L es=true→∀i,i<es.length→anQ (Wo es i)=true:=by
 intro es;induction es with
 | nil=>intro _ i h; exact absurd h (Nat.not_lt_zero _)
 | cons v l ih=>
  intro h i hi;simp only [u8L,Bool.and_eq_true] at h;cases i with
  | zero=>exact h.1
  | succ i=>exact ih h.2 i (by simpa using hi)
theorem akh {ρ:List (Nat×Option Nat)} {H':lC} {f:Nat} {u v:AV} (h:Le u v) (hp:apr v=true) (hl:v.cells.length+2<f):mR ρ H' f u v:=by
 obtain ⟨f,rfl⟩:∃f',f=f'+1:=⟨f - 1,by omega⟩;cases v with
 | agg cs'=>
  have key:∀cs,QK cs cs'→mR ρ H' (f+1) (.agg cs) (.agg cs'):=by
   intro cs hcs;unfold mR;have:=(Dn _ _ hcs).1;exact amo cs cs' f (by simp [AV.cells] at hl; omega) hcs hp
  cases h with
  | refl=>exact key _ (QK.refl _)
  | agg hl h=>exact key _ (QK.ahb hl h)
 | _=>exact ahc h hp
def Lr {α:Type} (f:α→AV) (X:Nat→α):Nat→AV:=fun i=>f (X i)
def upd {α:Type} (X:Nat→α) (i:Nat) (x:α):Nat→α:=fun j=>bif Nat.beq j i then x else X j
theorem aij {α:Type} (X:Nat→α) (i:Nat) (x:α):upd X i x i=x:=by
 unfold upd;rw [show Nat.beq i i=true by simp];rfl
theorem ams {α:Type} {f:α→AV} {X:Nat→α} {n j:Nat} {g:Nat→AV} {v:AV} {x:α} (hg:∀i,i<n→Le (g i) (Lr f X i)) (hv:Le v (f x)):∀i,i<n→Le (adh g j v i) (Lr f (upd X j x) i):=fun i hi=>by
 unfold adh Lr upd;cases hb:Nat.beq i j with
 | true=>exact hv
 | false=>exact hg i hi
theorem acr {α:Type} {f:α→AV} {X:Nat→α} (h1:∀x,(f x).cells=[f x]):∀(n k i:Nat),i<n→nth (kQ n k (Lr f X)) i=f (X (k+i)):=by
 intro n;induction n with
 | zero=>intro k i h; exact absurd h (Nat.not_lt_zero _)
 | succ n ih=>
  intro k i hi;simp only [kQ];have:(Lr f X k).cells=[f (X k)]:=h1 _;rw [this];cases i with
  | zero=>rfl
  | succ i=>
   show nth (kQ n (k+1) (Lr f X)) i=_;rw [ih (k+1) i om];congr 2;omega
theorem abq {α:Type} {f:α→AV} {X:Nat→α} {n:Nat} (h1:∀x,(f x).cells=[f x]):∀i,i<n→Le (Wo (kQ n 0 (Lr f X)) i) (Lr f X i):=fun i hi=>by
 unfold Wo;rw [acr h1 n 0 i hi,Nat.zero_add];exact .refl _
theorem amt {α:Type} {f:α→AV} {d:α} {X:Nat→α} {n:Nat}:∀i,i<n→Le (Lr f X i) (bR f d ((List.range n).map X) i):=fun i hi=>by
 unfold Lr bR;rw [List.getD_eq_getElem?_getD,List.getElem?_map,List.getElem?_range hi];exact .refl _
theorem kS (x:dY) (h:(match x with | .map .. => false | _=>true)=true:=by rfl):LeO x x:=by
 cases x with
 | box cs=>exact QK.refl cs
 | row es n g=>exact ⟨rfl,rfl,fun _ _=>.refl _⟩
 | map=>cases h
theorem length_eq {α:Type} {n:Nat} {l:List α} (h:n=l.length):n=l.length:=h
theorem vac {c b:Bool} (h:(c==b)=false):¬ c=b:=by
 rintro rfl;simp at h
def W {R:Type} (m:M R) (Q:R→Prop):Prop:=∃r,m r∧Q r
theorem av {R:Type} {v:R} {Q:R→Prop} (h:Q v):W (ret v) Q:=⟨v,rfl,h⟩
theorem bC {R:Type} {p:Prop} {d:Decidable p} {m:M R} {Q:R→Prop} (hp:p) (h:W m Q):W (need p m) Q:=by
 obtain ⟨r,h1,h2⟩:=h;exact ⟨r,⟨hp,h1⟩,h2⟩
theorem aH {A R:Type} {m:M A} {k:A→M R} {P:A→Prop} {Q:R→Prop} (h:W m P) (hk:∀v,P v→W (k v) Q):W (bnd m k) Q:=by
 obtain ⟨v,h1,h2⟩:=h;obtain ⟨r,h3,h4⟩:=hk v h2;exact ⟨r,⟨v,h1,h3⟩,h4⟩
theorem bV {R:Type} {c:Bool} {x y:M R} {Q:R→Prop} (h1:c=true→W x Q) (h2:c=false→W y Q):W (cond c x y) Q:=by
 cases c
 ·exact h2 rfl
 ·exact h1 rfl
theorem af5 {R:Type} {m:M R} {Q Q':R→Prop} (h:W m Q) (hq:∀r,Q r→Q' r):W m Q':=by
 obtain ⟨r,h1,h2⟩:=h;exact ⟨r,h1,hq r h2⟩
theorem Ca {R:Type} {m:M R} {v:R} (h:m v):W m (fun r=>r=v):=⟨v,h,rfl⟩
theorem mG {R:Type} {m:M R} {v:R} (h:W m (fun r=>r=v)):m v:=by
 obtain ⟨r,h1,rfl⟩:=h;exact h1
theorem qy {A:Type} [Inhabited A] {c:Prop} [Decidable c] {m:M A} {P:A→Prop} (h:c→W m P):W (grd c m) (fun v=>c→P v):=by
 by_cases hc:c
 ·obtain ⟨v,h1,h2⟩:=h hc;exact ⟨v,fun _=>h1,fun _=>h2⟩
 ·exact ⟨default,fun h=>absurd h hc,fun h=>absurd h hc⟩
theorem bF {σ R:Type} {F:(σ→M R)→σ→M R} {Q:R→Prop} (inv:σ→Prop) (μ:σ→Nat) (h:∀(self:σ→M R) (s:σ),inv s→(∀s',inv s'→μ s'<μ s→W (self s') Q)→W (F self s) Q) {s:σ} (hs:inv s):W (cZ F s) Q:=by
 have key:∀n s,inv s→μ s<n→W (itM F n s) Q:=by
  intro n;induction n with
  | zero=>intro s _ h; exact absurd h (Nat.not_lt_zero _)
  | succ n ih=>intro s hs hn; exact h _ s hs fun s' h1 h2=>ih s' h1 om
 obtain ⟨r,h1,h2⟩:=key (μ s+1) s hs (Nat.lt_succ_self _);exact ⟨r,⟨_,h1⟩,h2⟩
section
variable {P:Program} {cfg:xV} {N:Nat}
theorem abr {r:Option Nat} {n0:Nat} {oA oB:Oper} {Q:Exit→Act→World→Prop} {a:Act} {w:World} (hA:oA.guard=none) (hB:oB.guard=none) (hdA:∀c,oA.op≠.defer c) (hdB:∀c,oB.op≠.defer c)
  {x y:Value} (h1:(execOp a.eval oA).run P w=.ok (.value x) w) (h2:(execOp (a.put oA.dst x).eval oB).run P w=.ok (.value y) w) (h:Q .normal ((a.put oA.dst x).put oB.dst y) w):
  wpOpsIn (FW r) n0 P #[oA,oB] Q (List.range 2) a w:=by
 show wpOpsIn (FW r) n0 P #[oA,oB] Q [0,1] a w;unfold wpOpsIn;simp only [List.getElem?_toArray,List.getElem?_cons_zero];rw [if_pos (by unfold Region.wanted; rw [hA])];refine ace hdA (sU h1 ?_);unfold wpOpsIn;simp only [List.getElem?_toArray,List.getElem?_cons_succ,List.getElem?_cons_zero];rw [if_pos (by unfold Region.wanted; rw [hB])];refine ace hdB (sU h2 ?_);unfold wpOpsIn;exact h
theorem aki {r:Option Nat} {m id:Nat} {t e:TypeId} (hu:P.underlying t=some (.slice e)) {t0 d3 d4:Nat} (h3:d3<N) (h4:d4<N) {t' tyA tyB:TypeId} {pA pB:String} {aA aB:Array Edge}
  {T:List (Nat×AV)} {H:lC} {nx:Nat} {es n:Nat} {f:Bool} {g:Nat→AV} (hs:iN T t0=.sl es n f g) {K:Exit→St→Prop}
  (hK:∀b,(b=true→n=0)→K .normal ⟨(d4,.bool b)::(d3,.sl es n f g)::T,H,nx⟩):
  Good P cfg N r m (.region id #[⟨some d3,.move (.tmp t0),tyA,pA,aA,none⟩,⟨some d4,.binOp .eql t (.tmp d3) (.const (.slice none 0 0)) t',tyB,pB,aB,none⟩] false) ⟨T,H,nx⟩ K:=by
 intro n0 cx a w I O hS hrd;have hx:=hS.tmps.rep t0 rfl;have hsz:=hS.tmps.size;have hs':iN (⟨T,H,nx⟩:St).tmps t0=.sl es n f g:=hs;rw [hs'] at hx;generalize hxv:a.tmps.getD t0 Go.undef=x at hx;have hp:=hx.Av;refine wpIn_region ?_;cases hp with
 | @sl _ _ _ _ aa cap b off vs hcap hfull ha hes hm h1 hr=>
  have hb:aa.isNone=true→n=0:=fun h=>by
   rcases Nat.eq_zero_or_pos n with h0 | h0
   ·exact h0
   ·rw [(ha om).1] at h; cases h
  refine abr rfl rfl (fun c h=>by cases h) (fun c h=>by cases h) (x:=.slice aa n cap) (y:=.bool aa.isNone) ?_ ?_ ?_
  ·simp only [execOp,Act.eval];rw [hxv];rfl
  ·have e1:(a.put (some d3) (.slice aa n cap)).eval (.tmp d3)=.slice aa n cap:=by
    simp [Act.put,Act.eval,hsz,h3]
   have e2:=run_equal_slice_nil (P:=P) w t e aa n cap hu;have e3:(a.put (some d3) (.slice aa n cap)).eval (.const (.slice none 0 0))=.slice none 0 0:=rfl;have hg:(eqGuard .eql t (.tmp d3) (.const (.slice none 0 0)) (.slice aa n cap) (.slice none 0 0)).run P w=.ok () w:=by unfold eqGuard; simp
   simp only [execOp];rw [e1,e3];simp [hg,binOp,e2]
  ·refine ⟨_,I,O,hK aa.isNone hb,hS.m,hS.rel,?_,hS.marks⟩;have h5:=hS.tmps.put (fun _ _ h=>h) (some d3) (fun k hk=>by cases hk; exact h3) (.sl es n f g) (.slice aa n cap) true (fun _=>hx) (fun h=>by cases h);have h6:=h5.put (fun _ _ h=>h) (some d4) (fun k hk=>by cases hk; exact h4) (.bool aa.isNone) (.bool aa.isNone) true (fun _=>.pure (.bool _)) (fun h=>by cases h);refine ⟨h6.defers,h6.size,fun tt _=>?_,fun tt h=>by cases h⟩;have:=h6.rep tt (by rw [C9,C9]);show eT w I O _ (iN ((d4,.bool aa.isNone)::(d3,.sl es n f g)::T) tt) _;rw [qh,qh];exact this
theorem Y7 (hc:iy P cfg) {rr:Option Nat} {m:Nat} {ct:List Nat} {t e:TypeId} (hu:P.underlying t=some (.slice e)) {a X Y:Code} {s:St} {K:Exit→St→Prop} (af4:iZ N a=true) (aoq:iZ N X=true) (aor:iZ N Y=true)
  {id t0 d3 d4:Nat} (h3:d3<N) (h4:d4<N) {t' tyA tyB:TypeId} {pA pB:String} {aA aB:Array Edge} (T:List (Nat×AV)) (H:lC) (nx:Nat) {es n:Nat} {f:Bool} {g:Nat→AV} (hs:iN T t0=.sl es n f g)
  (h1:lD cfg (Spec P cfg) ct (Loops P cfg N rr m) a s (fun e s'=>match e with | .normal=>s'=⟨T,H,nx⟩ | _=>False))
  (hX:n=0→lD cfg (Spec P cfg) ct (Loops P cfg N rr m) X ⟨(d4,.bool true)::(d3,.sl es n f g)::T,H,nx⟩ (fun e s'=>match e with | .normal=>False | e=>K e s'))
  (hY:lD cfg (Spec P cfg) ct (Loops P cfg N rr m) Y ⟨(d4,.bool false)::(d3,.sl es n f g)::T,H,nx⟩ K):
  Loops P cfg N rr m (.seq a (.seq (.seq (.region id #[⟨some d3,.move (.tmp t0),tyA,pA,aA,none⟩,⟨some d4,.binOp .eql t (.tmp d3) (.const (.slice none 0 0)) t',tyB,pB,aB,none⟩] false) (.cond (.tmp d4) X .skip)) Y)) s K:=by
 refine ⟨tH ((jR hc a s _ af4 h1).mono ?_)⟩;intro e s' h;cases e with
 | normal=>
  have h:s'=⟨T,H,nx⟩:=h;subst h;refine tH (tH (aki hu h3 h4 hs fun b hb=>?_));have aos:Yc cfg (iN (⟨(d4,.bool b)::(d3,.sl es n f g)::T,H,nx⟩:St).tmps) (.tmp d4)=.bool b:=by
   show iN ((d4,.bool b)::(d3,.sl es n f g)::T) d4=_;rw [qh];simp [lS]
  refine U7 aos (fun hb1=>?_) (fun hb1=>?_)
  ·subst hb1;refine (jR hc X _ _ aoq (hX (hb rfl))).mono ?_;intro e s' h;cases e with
   | normal=>exact h.elim
   | _=>exact h
  ·subst hb1;refine jR (ct:=ct) hc .skip _ _ rfl ?_;exact jR hc Y _ _ aor hY
 | _=>exact h.elim
theorem af6 {r:Option Nat} {m id:Nat} {t e:TypeId} (hu:P.underlying t=some (.slice e)) {t0 d3 d4:Nat} (h3:d3<N) (h4:d4<N) {t' tyA tyB:TypeId} {pA pB:String} {aA aB:Array Edge}
  {T:List (Nat×AV)} {H:lC} {nx:Nat} {ob i n:Nat} {f:Bool} (hs:iN T t0=.eH ob i n f) {oo:dY} (hoo:hget H ob=some oo) {K:Exit→St→Prop}
  (hK:∀b,(b=true→n=0)→K .normal ⟨(d4,.bool b)::(d3,.eH ob i n f)::T,H,nx⟩):
  Good P cfg N r m (.region id #[⟨some d3,.move (.tmp t0),tyA,pA,aA,none⟩,⟨some d4,.binOp .eql t (.tmp d3) (.const (.slice none 0 0)) t',tyB,pB,aB,none⟩] false) ⟨T,H,nx⟩ K:=by
 intro n0 cx a w I O hS hrd;have hx:=hS.tmps.rep t0 rfl;have hsz:=hS.tmps.size;have hs':iN (⟨T,H,nx⟩:St).tmps t0=.eH ob i n f:=hs;rw [hs'] at hx;generalize hxv:a.tmps.getD t0 Go.undef=x at hx;obtain ⟨p,hp,_⟩:=hS.rel.live hoo;obtain ⟨aa,cap,hxe,_,a2,_,a4⟩:=hx.mU hp;subst hxe;refine wpIn_region ?_;have hb:aa.isNone=true→n=0:=fun h=>by
  rcases Nat.eq_zero_or_pos cap with h0 | h0
  ·omega
  ·obtain ⟨b,bo,sz,_,e2,_⟩:=a4 om;rw [e2] at h; cases h
 refine abr rfl rfl (fun c h=>by cases h) (fun c h=>by cases h) (x:=.slice aa n cap) (y:=.bool aa.isNone) ?_ ?_ ?_
 ·simp only [execOp,Act.eval];rw [hxv];rfl
 ·have e1:(a.put (some d3) (.slice aa n cap)).eval (.tmp d3)=.slice aa n cap:=by
   simp [Act.put,Act.eval,hsz,h3]
  have e2:=run_equal_slice_nil (P:=P) w t e aa n cap hu;have e3:(a.put (some d3) (.slice aa n cap)).eval (.const (.slice none 0 0))=.slice none 0 0:=rfl;have hg:(eqGuard .eql t (.tmp d3) (.const (.slice none 0 0)) (.slice aa n cap) (.slice none 0 0)).run P w=.ok () w:=by unfold eqGuard; simp
  simp only [execOp];rw [e1,e3];simp [hg,binOp,e2]
 ·refine ⟨_,I,O,hK aa.isNone hb,hS.m,hS.rel,?_,hS.marks⟩;have h5:=hS.tmps.put (fun _ _ h=>h) (some d3) (fun k hk=>by cases hk; exact h3) (.eH ob i n f) (.slice aa n cap) true (fun _=>hx) (fun h=>by cases h);have h6:=h5.put (fun _ _ h=>h) (some d4) (fun k hk=>by cases hk; exact h4) (.bool aa.isNone) (.bool aa.isNone) true (fun _=>.pure (.bool _)) (fun h=>by cases h);refine ⟨h6.defers,h6.size,fun tt _=>?_,fun tt h=>by cases h⟩;have:=h6.rep tt (by rw [C9,C9]);show eT w I O _ (iN ((d4,.bool aa.isNone)::(d3,.eH ob i n f)::T) tt) _;rw [qh,qh];exact this
theorem QZ (hc:iy P cfg) {rr:Option Nat} {m:Nat} {ct:List Nat} {t e:TypeId} (hu:P.underlying t=some (.slice e)) {a X Y:Code} {s:St} {K:Exit→St→Prop} (af4:iZ N a=true) (aoq:iZ N X=true) (aor:iZ N Y=true)
  {id t0 d3 d4:Nat} (h3:d3<N) (h4:d4<N) {t' tyA tyB:TypeId} {pA pB:String} {aA aB:Array Edge} (T:List (Nat×AV)) (H:lC) (nx:Nat) {ob i n:Nat} {f:Bool} (hs:iN T t0=.eH ob i n f) {oo:dY} (hoo:hget H ob=some oo)
  (h1:lD cfg (Spec P cfg) ct (Loops P cfg N rr m) a s (fun e s'=>match e with | .normal=>s'=⟨T,H,nx⟩ | _=>False))
  (hX:n=0→lD cfg (Spec P cfg) ct (Loops P cfg N rr m) X ⟨(d4,.bool true)::(d3,.eH ob i n f)::T,H,nx⟩ (fun e s'=>match e with | .normal=>False | e=>K e s'))
  (hY:lD cfg (Spec P cfg) ct (Loops P cfg N rr m) Y ⟨(d4,.bool false)::(d3,.eH ob i n f)::T,H,nx⟩ K):
  Loops P cfg N rr m (.seq a (.seq (.seq (.region id #[⟨some d3,.move (.tmp t0),tyA,pA,aA,none⟩,⟨some d4,.binOp .eql t (.tmp d3) (.const (.slice none 0 0)) t',tyB,pB,aB,none⟩] false) (.cond (.tmp d4) X .skip)) Y)) s K:=by
 refine ⟨tH ((jR hc a s _ af4 h1).mono ?_)⟩;intro e s' h;cases e with
 | normal=>
  have h:s'=⟨T,H,nx⟩:=h;subst h;refine tH (tH (af6 hu h3 h4 hs hoo fun b hb=>?_));have aos:Yc cfg (iN (⟨(d4,.bool b)::(d3,.eH ob i n f)::T,H,nx⟩:St).tmps) (.tmp d4)=.bool b:=by
   show iN ((d4,.bool b)::(d3,.eH ob i n f)::T) d4=_;rw [qh];simp [lS]
  refine U7 aos (fun hb1=>?_) (fun hb1=>?_)
  ·subst hb1;refine (jR hc X _ _ aoq (hX (hb rfl))).mono ?_;intro e s' h;cases e with
   | normal=>exact h.elim
   | _=>exact h
  ·subst hb1;refine jR (ct:=ct) hc .skip _ _ rfl ?_;exact jR hc Y _ _ aor hY
 | _=>exact h.elim
def aaw {σ R:Type} (len:Nat) (B:Nat→(σ→M R)→σ→M R) (fin:σ→M R):Nat→σ→M R
 | 0=>fin
 | j+1=>B (len - (j+1)) (aaw len B fin j)
theorem Va (hc:iy P cfg) {m:Nat} {ct ct':List Nat} {g:Operand} {p0 p1:Nat} {assign body:Code} {s:St} {K:Exit→St→Prop} (af4:iZ N assign=true) (aoj:iZ N body=true) (hp0:p0<N) (hp1:p1<N)
  {gf:FuncId} {caps:List AV} {len:Nat} {e0 e1:Nat→AV} (hit:Y5 P gf caps len e0 e1) (hg:Yc cfg (iN s.tmps) g=.fn gf caps) (aj9:∀v∈caps,∃cs,v=.ro cs)
  {σ R:Type} {B:Nat→(σ→M R)→σ→M R} {fin:σ→M R} {x0:σ} {r:R} (hm:aaw len B fin len x0 r)
  (st:σ→St) (st1:Nat→σ→St) (hnm:∀k gx,QY (st gx).heap=true∧QY (st1 k gx).heap=true) (ρ0:List (Nat×Option Nat)) (h0:Emb m ρ0 s (st x0))
  (ha:∀k l gx,k<len→m≤(st gx).nx∧lD cfg (Spec P cfg) ct (Loops P cfg N (some l) (st gx).nx) assign ⟨(p1,e1 k)::(p0,e0 k)::(st gx).tmps,(st gx).heap,(st gx).nx⟩ (fun e s'=>match e with | .normal=>∃ρ,Emb (st gx).nx ρ s' (st1 k gx) | _=>False))
  (hb:∀k l self gx,k<len→B k self gx r→lD cfg (Spec P cfg) ct' (Loops P cfg N (some l) (st1 k gx).nx) body (st1 k gx) (fun e s'=>match e with | .normal=>∃x' ρ,self x' r∧Emb m ρ ⟨(st gx).tmps,s'.heap,s'.nx⟩ (st x') | .ret=>K .ret ⟨(st gx).tmps,s'.heap,s'.nx⟩ | _=>False))
  (hK:∀gx,fin gx r→K .normal (st gx)):Loops P cfg N none m (.rangeFunc g #[p0,p1] assign body) s K:=by
 refine aif (ct:=ct) (ct':=ct') hc af4 aoj hp0 hp1 hit hg aj9 st st1 hnm x0 ρ0 h0 (fun k x=>aaw len B fin (len - k) x r) hm (fun k l gx hk _=>ha k l gx hk) ?_ ?_
 ·intro k l gx hk hi;obtain ⟨j,hj⟩:∃j,len - k=j+1:=⟨len - k - 1,by omega⟩;have h1:=hi;rw [hj] at h1;have e1:len - (j+1)=k:=by omega
  have h2:B k (aaw len B fin j) gx r:=by
   have:B (len - (j+1)) (aaw len B fin j) gx r:=h1;rwa [e1] at this
  have e2:j=len - (k+1):=by omega
  subst e2;exact hb k l _ gx hk h2
 ·intro gx hi;have:=hi;rw [Nat.sub_self] at this;exact hK gx this
end
end Go.Ab

/- A part of the proof. -/
import Derived.Test.YtifekdmmpbcdgaaGreatDoorA2
import Derived.RangeFuncLeaves
import Derived.RangeFuncNested
import Derived.LoopNIn
import Derived.Laws.Cover3
set_option linter.unusedVariables false
set_option linter.unusedSimpArgs false
namespace Go.Ab
section
variable {P:Program} {cfg:xE} {cx:Ctx} {N:Nat}
def og (ρ:List (Nat×Option Nat)) (H':kN) (O:OM):OM:=λ o'=>match hget H' o' with
 | none=>none
 | some y=>match uU ρ o' with
  | some o=>O o
  | none=>match y with
   | .row es _ _=>some ⟨es,0,none⟩
   | .box _=>none
   | .map .. => none
variable {H:kN}
theorem aa9 {o:Nat}:YF H o=true↔∃x,hget H o=some x:=by
 unfold YF;cases hget H o with
 | none=>simp
 | some x=>simp
theorem Ig {α:Type}:∀(l:List (Nat×α)) (k:Nat) (x:α),look l k=some x→(k,x)∈l:=by
 intro l;induction l with
 | nil=>intro k x h; cases h
 | cons p l ih=>
  intro k x h;obtain ⟨k',y⟩:=p;simp only [look] at h;cases hb:Nat.beq k' k with
  | true=>simp only [hb] at h; cases h; rw [Nat.eq_of_beq_eq_true hb]; simp
  | false=>simp only [hb] at h; exact List.mem_cons_of_mem _ (ih k x h)
theorem Dy {o:Nat} {x:eP} (h:hget H o=some x):look H o=some (some x):=by
 unfold hget at h;split at h
 ·rename_i y hy; cases h; exact hy
 ·cases h
variable {ρ:List (Nat×Option Nat)} {H':kN}
theorem agQ:∀(l:kN),ai9 ρ H' H l→∀o' y,(o',some y)∈l→
  (match uU ρ o' with
  | some o=>∃x,hget H o=some x∧adr ρ H' x y
  | none=>∃es g,y=.row es 0 g):=by
 intro l;induction l with
 | nil=>intro _ o' y h; cases h
 | cons p l ih=>
  intro h o' y hm;obtain ⟨k,z⟩:=p;cases z with
  | none=>
   rcases List.mem_cons.1 hm with e | e
   ·cases e
   ·exact ih h o' y e
  | some z=>
   obtain ⟨h1,h2⟩:=h;rcases List.mem_cons.1 hm with e | e
   ·cases e;split
    ·rename_i o ho;rw [ho] at h1;simp only at h1;split at h1
     ·rename_i x hx; exact ⟨x,hx,h1⟩
     ·exact h1.elim
    ·rename_i ho;rw [ho] at h1;simp only at h1;split at h1
     ·rename_i es n g; subst h1; exact ⟨es,g,rfl⟩
     ·exact h1.elim
   ·exact ih h2 o' y e
structure amd (ρ:List (Nat×Option Nat)) (H' H:kN):Prop where
 ren:∀o' y o,hget H' o'=some y→uU ρ o'=some o→∃x,hget H o=some x
 ghost:∀o' y,hget H' o'=some y→uU ρ o'=none→∃es g,y=.row es 0 g
structure ame (ρ:List (Nat×Option Nat)) (H' H:kN):Prop where
 ren:∀o' y o,hget H' o'=some y→uU ρ o'=some o→∃x,hget H o=some x∧adr ρ H' x y
 ghost:∀o' y,hget H' o'=some y→uU ρ o'=none→∃es g,y=.row es 0 g
theorem agR (h:ai9 ρ H' H H'):ame ρ H' H where
 ren:=λ o' y o hy ho=>by
  have:=agQ H' h o' y (Ig _ _ _ (Dy hy));rw [ho] at this;exact this
 ghost:=λ o' y hy ho=>by
  have:=agQ H' h o' y (Ig _ _ _ (Dy hy));rw [ho] at this;exact this
theorem ame.x (h:ame ρ H' H):amd ρ H' H where
 ren:=λ o' y o h1 h2=>let ⟨x,h3,_⟩:=h.ren o' y o h1 h2; ⟨x,h3⟩
 ghost:=h.ghost
theorem Vh:∀(f:Nat) (l m:List AV),mR.SN ρ H' f l m→l.length=m.length∧∀j,j<m.length→∃f',f'<f∧mR ρ H' f' (nth l j) (nth m j):=by
 intro f;induction f with
 | zero=>intro l m h; exact absurd h (by simp [mR.SN])
 | succ f ih=>
  intro l m h;cases l with
  | nil=>cases m with
   | nil=>exact ⟨rfl,λ j hj=>by cases hj⟩
   | cons v m=>exact absurd h (by simp [mR.SN])
  | cons u l=>cases m with
   | nil=>exact absurd h (by simp [mR.SN])
   | cons v m=>
    simp only [mR.SN] at h
    obtain ⟨h1,h2⟩:=ih l m h.2
    refine ⟨by simp [h1],λ j hj=>?_⟩
    cases j with
    | zero=>exact ⟨f,Nat.lt_succ_self _,h.1⟩
    | succ j=>
     obtain ⟨f',h3,h4⟩:=h2 j (by simpa using hj)
     exact ⟨f',by omega,h4⟩
theorem Ti {w:World} {I:Nat→Prop} {O:OM} {D D':Nat→Prop} (hd:∀o,O o=none↔hget H o=none) (hW:amd ρ H' H):
  ∀(f:Nat) (u v:AV) (x:Value),fA w I O D u x→mR ρ H' f u v→fA w I (og ρ H' O) D' v x:=by
 have live:∀o' o,YF H' o'=true→uU ρ o'=some o→∃p,O o=some p∧og ρ H' O o'=some p:=by
  intro o' o h1 h2;obtain ⟨y,hy⟩:=aa9.1 h1;obtain ⟨z,hz⟩:=hW.ren o' y o hy h2;cases ho:O o with
  | none=>rw [(hd o).1 ho] at hz; cases hz
  | some p=>exact ⟨p,rfl,by unfold og; rw [hy,h2]; exact ho⟩
 intro f;induction f using Nat.strongRecOn with
 | ind f ih=>
  intro u v x hr he;cases f with
  | zero=>exact absurd he (by simp [mR])
  | succ f=>
   have many:∀(cs cs':List AV) (vs:Array Value),vs.size=cs.length→(∀j,j<cs.length→fA w I O D (nth cs j) (vs.getD j Go.undef))→mR.SN ρ H' f cs cs'→
     vs.size=cs'.length∧∀j,j<cs'.length→fA w I (og ρ H' O) D' (nth cs' j) (vs.getD j Go.undef):=by
    intro cs cs' vs h1 h2 h3
    obtain ⟨h4,h5⟩:=Vh f cs cs' h3
    refine ⟨by omega,λ j hj=>?_⟩
    obtain ⟨f',h6,h7⟩:=h5 j hj
    exact ih f' om _ _ _ (h2 j om) h7
   cases v with
   | undef=>exact .pure (.undef x)
   | bool b'=>
    cases u<;>simp only [mR] at he;subst he;rw [hr.lW]; exact .pure (.bool _)
   | int k n=>
    cases u<;>simp only [mR] at he;obtain ⟨rfl,rfl⟩:=he;rw [hr.iR]; exact .pure (.int _ _)
   | str s=>
    cases u<;>simp only [mR] at he;subst he;rw [hr.CO]; exact .pure (.str _)
   | EX=>
    cases u<;>simp only [mR] at he;cases hr with | pure h=>exact .pure h
   | pm a' b' c'=>
    cases u<;>simp only [mR] at he;obtain ⟨rfl,rfl,rfl⟩:=he;cases hr with | pure h=>exact .pure h
   | ro cs=>
    cases u<;>simp only [mR] at he;exact (Le.roL he).rep (.pure hr.YK)
   | sl es' n' f' g'=>
    cases u<;>simp only [mR] at he;rename_i es n fu g;obtain ⟨h0,h1,h2,h3⟩:=he;exact (Le.sl h0 h1 h2 h3).rep (.pure hr.GH)
   | ptr o' i' off'=>
    cases u<;>simp only [mR] at he;rename_i o i off;obtain ⟨h1,h2,rfl,rfl⟩:=he;obtain ⟨p,hp,hp'⟩:=live o' o h1 h2;obtain ⟨b,bo,sz,h3,h4,rfl⟩:=hr.pU hp;exact .ptr hp' h3 h4
   | dQ o' i' n' f'=>
    cases u<;>simp only [mR] at he
    ·rename_i es n fu g;obtain ⟨h1,aqp,rfl,rfl,rfl,rfl⟩:=he;obtain ⟨y,hy⟩:=aa9.1 h1;obtain ⟨es',g',rfl⟩:=hW.ghost o' y hy aqp;have hp:og ρ H' O o'=some ⟨es',0,none⟩:=by unfold og; rw [hy,aqp]
     cases hr.GH with
     | sl b off vs hcap hfull ha hes hm hone hrr=>
      have hc:=hfull rfl;exact .dQ hp (Nat.le_refl _) hcap (λ _=>hc) (λ h=>absurd hc h) (Nat.zero_le _)
    ·rename_i o i n fu;obtain ⟨h1,h2,rfl,rfl,h3⟩:=he;obtain ⟨p,hp,hp'⟩:=live o' o h1 h2;obtain ⟨a,cap,rfl,h4,h5,h6,h7⟩:=hr.pV hp;exact .dQ hp' h4 h5 (λ h=>h6 (h3 h)) h7 (hr.Fp hp)
   | mref o'=>
    cases u<;>simp only [mR] at he;rename_i o;obtain ⟨h1,h2⟩:=he;obtain ⟨p,hp,hp'⟩:=live o' o h1 h2;obtain ⟨b,bo,sz,h3,rfl⟩:=hr.xJ hp;exact .mref hp' h3
   | agg cs'=>
    cases u<;>simp only [mR] at he;obtain ⟨vs,rfl,h1,h2⟩:=hr.vD;obtain ⟨h3,h4⟩:=many _ cs' vs h1 h2 he;exact .agg h3 h4
   | jQ cs'=>
    cases u<;>simp only [mR] at he;obtain ⟨vs,rfl,h1,h2⟩:=hr.JK;obtain ⟨h3,h4⟩:=many _ cs' vs h1 h2 he;exact .jQ h3 h4
   | fn g cs'=>
    cases u<;>simp only [mR] at he;obtain ⟨rfl,he⟩:=he;obtain ⟨vs,rfl,h1,h2⟩:=hr.MI;obtain ⟨h3,h4⟩:=many _ cs' vs h1 h2 he;exact .fn h3 h4
variable {I:Nat→Prop}
theorem amf {w:World} {O:OM} {D D':Nat→Prop} (hd:∀o,O o=none↔hget H o=none) (hW:ame ρ H' H) {x y:eP} {p:Own} (h:iQ w I O D p x) (he:adr ρ H' x y):
  iQ w I (og ρ H' O) D' p y:=by
 cases x with
 | box cs=>
  cases y with
  | row es n g=>exact he.elim
  | map kd z f=>exact he.elim
  | box cs'=>
   obtain ⟨h1,b,bo,sz,hp,ha,hl,hr⟩:=h;obtain ⟨h2,h3⟩:=Vh _ cs cs' he;refine ⟨h1,b,bo,sz,hp,ha,by omega,λ j hj=>?_⟩;obtain ⟨f',_,h4⟩:=h3 j hj;exact Ti hd hW.x f' _ _ _ (hr j om) h4
 | row es n g=>
  cases y with
  | box cs'=>exact he.elim
  | map kd z f=>exact he.elim
  | row es' n' g'=>
   have hO:iQ w I (og ρ H' O) D' p (.row es n g):=by
    obtain ⟨h1,h2,h3,h4⟩:=h;refine ⟨h1,h2,h3,?_⟩;rcases h4 with h4 | ⟨b,bo,sz,hp,ha,hl,hr⟩
    ·exact .inl h4
    ·exact .inr ⟨b,bo,sz,hp,ha,hl,hr⟩
   exact LeO.rep (x:=.row es n g) (y:=.row es' n' g') he hO
 | map kd z f=>
  cases y with
  | box cs'=>exact he.elim
  | row es n g=>exact he.elim
  | map kd' z' f'=>
   obtain ⟨rfl,rfl,rfl⟩:=he;exact h
theorem ad3 {m nx:Nat} :∀(H:kN),RI m nx ρ H=true→∀p∈H,p.1<nx∧(p.1<m→uU ρ p.1=some p.1):=by
 intro H;induction H with
 | nil=>intro _ p h; cases h
 | cons q H ih=>
  intro h p hp;obtain ⟨o',z⟩:=q;unfold RI at h;cases h1:Nat.blt o' nx with
  | false=>simp [h1] at h
  | true=>
   simp only [h1] at h;have hlt:o'<nx:=by simpa using h1
   have rest:RI m nx ρ H=true∧(o'<m→uU ρ o'=some o'):=by
    split at h
    ·rename_i o ho;split at h
     ·rename_i hb;have:=Nat.eq_of_beq_eq_true hb;subst this;exact ⟨h,λ _=>ho⟩
     ·split at h
      ·rename_i hle;have hle':=Nat.le_of_ble_eq_true hle;exact ⟨h,λ hlt=>by omega⟩
      ·cases h
    ·split at h
     ·rename_i hle;have hle':=Nat.le_of_ble_eq_true hle;exact ⟨h,λ hlt=>by omega⟩
     ·cases h
   rcases List.mem_cons.1 hp with e | e
   ·subst e; exact ⟨hlt,rest.2⟩
   ·exact ih rest.1 p e
theorem ad4:∀(H:kN) (o' o:Nat) (y:eP),(o',some y)∈H→uU ρ o'=some o→o∈YG ρ H:=by
 intro H;induction H with
 | nil=>intro o' o y h; cases h
 | cons q H ih=>
  intro o' o y h hr;obtain ⟨k,z⟩:=q;rcases List.mem_cons.1 h with e | e
  ·cases e;simp only [YG,hr];simp
  ·have:=ih o' o y e hr;cases z with
   | none=>exact this
   | some z=>
    simp only [YG];split
    ·exact List.mem_cons_of_mem _ this
    ·exact this
theorem ajP:∀(H:kN),pQ (YG ρ H)=true→∀o1 o2 o y1 y2,(o1,some y1)∈H→(o2,some y2)∈H→uU ρ o1=some o→uU ρ o2=some o→o1=o2:=by
 intro H;induction H with
 | nil=>intro _ o1 o2 o y1 y2 h; cases h
 | cons q H ih=>
  intro hnd o1 o2 o y1 y2 h1 h2 hr1 hr2;obtain ⟨k,z⟩:=q;have tail:pQ (YG ρ H)=true∧∀y,z=some y→∀o,uU ρ k=some o→o ∉ YG ρ H:=by
   cases z with
   | none=>exact ⟨hnd,λ y h=>by cases h⟩
   | some z=>
    simp only [YG] at hnd;split at hnd
    ·rename_i oo hoo;unfold pQ at hnd;split at hnd
     ·cases hnd
     ·rename_i hm;refine ⟨hnd,λ y _ o ho=>?_⟩;rw [hoo] at ho;cases ho;exact zG hm
    ·rename_i hnone;exact ⟨hnd,λ y _ o ho=>by rw [hnone] at ho; cases ho⟩
  rcases List.mem_cons.1 h1 with e1 | e1<;>rcases List.mem_cons.1 h2 with e2 | e2
  ·cases e1; cases e2; rfl
  ·cases e1; exact absurd (ad4 H o2 o y2 e2 hr2) (tail.2 _ rfl o hr1)
  ·cases e2; exact absurd (ad4 H o1 o y1 e1 hr1) (tail.2 _ rfl o hr2)
  ·exact ih tail.1 o1 o2 o y1 y2 e1 e2 hr1 hr2
theorem ajQ {T:List (Nat×AV)}:∀(l:List (Nat×AV)),aoa ρ H' T l→∀t,iD l t=.undef∨mR ρ H' fuel (iD T t) (iD l t):=by
 intro l;induction l with
 | nil=>intro _ t; exact .inl rfl
 | cons p l ih=>
  intro h t;obtain ⟨k,v⟩:=p;obtain ⟨h1,h2⟩:=h;unfold iD;simp only [look];cases hb:Nat.beq k t with
  | true=>
   have:=Nat.eq_of_beq_eq_true hb;subst this;exact .inr h1
  | false=>exact ih h2 t
theorem Ih {m:Nat} {s s':St} {a:Act} {w:World} {O:OM} (hS:jB cfg N m cx s a w I O) (h:Emb m ρ s s'):jB cfg N m cx s' a w I (og ρ s'.heap O):=by
 obtain ⟨Ve,htm,hhp⟩:=h;obtain ⟨hm,hR,hT,hMk⟩:=hS;have hW:=agR hhp;unfold afg at Ve;split at Ve
 ·rename_i hk hnd hun;have hle:m≤s'.nx:=Nat.le_of_ble_eq_true Ve;have hkeys:=ad3 _ hk;have inv:∀o' p,og ρ s'.heap O o'=some p→∃y,hget s'.heap o'=some y∧((∃o,uU ρ o'=some o∧O o=some p)∨p.pl=none):=by
   intro o' p hp;unfold og at hp;split at hp
   ·cases hp
   ·rename_i y hy;refine ⟨y,hy,?_⟩;split at hp
    ·rename_i o ho; exact .inl ⟨o,ho,hp⟩
    ·split at hp
     ·cases hp; exact .inr rfl
     ·cases hp
     ·cases hp
  refine ⟨hm,⟨?_,?_,?_,?_,?_,?_,hR.Bz,hR.size,hR.frame,?_,hR.glob,hR.SG,hR.U4,?_,?_,hR.env⟩,⟨rfl,hT.size,λ t _=>?_,λ t h=>by cases h⟩,hMk⟩
  ·intro o';constructor
   ·intro h;cases hy:hget s'.heap o' with
    | none=>rfl
    | some y=>
     exfalso;unfold og at h;rw [hy] at h;simp only at h;split at h
     ·rename_i o ho;obtain ⟨x,hx,_⟩:=hW.ren o' y o hy ho;rw [(hR.dom o).1 h] at hx;cases hx
     ·rename_i ho;obtain ⟨es,g,rfl⟩:=hW.ghost o' y hy ho;cases h
   ·intro h;unfold og;rw [h]
  ·intro o' p hp;obtain ⟨y,hy,_⟩:=inv o' p hp;exact (hkeys _ (Ig _ _ _ (Dy hy))).1
  ·intro o' y p hy hp;unfold og at hp;rw [hy] at hp;simp only at hp;split at hp
   ·rename_i o ho;obtain ⟨x,hx,he⟩:=hW.ren o' y o hy ho;exact amf hR.dom hW (hR.objs o x p hx hp) he
   ·rename_i ho;obtain ⟨es,g,rfl⟩:=hW.ghost o' y hy ho;cases hp;exact ⟨rfl,rfl,λ i hi=>absurd hi (Nat.not_lt_zero i),.inl ⟨rfl,rfl⟩⟩
  ·intro o1 o2 p1 p2 b bo sz b' o8 sz' h1 h2 hp1 hp2 hne;obtain ⟨y1,hy1,e1⟩:=inv o1 p1 h1;obtain ⟨y2,hy2,e2⟩:=inv o2 p2 h2;rcases e1 with ⟨q1,hr1,ho1⟩ | e1
   ·rcases e2 with ⟨q2,hr2,ho2⟩ | e2
    ·refine hR.inj q1 q2 p1 p2 b bo sz b' o8 sz' ho1 ho2 hp1 hp2 λ e=>?_;subst e;exact hne (ajP _ hnd o1 o2 q1 y1 y2 (Ig _ _ _ (Dy hy1)) (Ig _ _ _ (Dy hy2)) hr1 hr2)
    ·rw [e2] at hp2; cases hp2
   ·rw [e1] at hp1; cases hp1
  ·intro o p b bo sz h hp;obtain ⟨y,hy,⟨q,hr,ho⟩ | e⟩:=inv o p h
   ·exact hR.qH q p b bo sz ho hp
   ·rw [e] at hp; cases hp
  ·intro o p b bo sz h hp;obtain ⟨y,hy,⟨q,hr,ho⟩ | e⟩:=inv o p h
   ·exact hR.lt q p b bo sz ho hp
   ·rw [e] at hp; cases hp
  ·intro o p b bo sz h hp;obtain ⟨y,hy,⟨q,hr,ho⟩ | e⟩:=inv o p h
   ·exact hR.new q p b bo sz ho hp
   ·rw [e] at hp; cases hp
  ·intro o hlt;rw [hm] at hlt;cases hy:hget s'.heap o with
   | none=>exact .inr (by unfold og; rw [hy])
   | some y=>
    have:=(hkeys _ (Ig _ _ _ (Dy hy))).2 hlt;have e:og ρ s'.heap O o=O o:=by unfold og; rw [hy,this]
    rw [e];exact hR.Yf o (by rw [hm]; exact hlt)
  ·intro o hlt;rw [hm] at hlt;exact Nat.lt_of_lt_of_le hlt hle
  ·rcases ajQ _ htm t with e | e
   ·rw [e]; exact .pure (.undef _)
   ·exact Ti hR.dom hW.x _ _ _ _ (hT.rep t rfl) e
 ·cases Ve
end
end Go.Ab
namespace Go.Ab
section
variable {P:Program} {cfg:xE} {N:Nat} {cx:Ctx}
structure tY (w' w:World):Prop where
 cell:∀a v,w.cell? a=some v→w'.cell? a=some v
 frozen:∀a,(w.cell? a).isSome=true→w'.frozen? a=w.frozen? a
 size:w.heap.size≤w'.heap.size
 maps:∀(b:Nat) (es:Array MapEntry) (c:Nat),w.heap[b]? = some (Obj.map es c)→w'.heap[b]? = some (Obj.map es c)
variable {w:World} {w':World} {I:Nat→Prop}
theorem iF.turn (h:tY w' w) {v:AV} {x:Value} (hp:iF w I v x):iF w' I v x:=by
 induction hp with
 | undef x=>exact .undef x
 | bool b=>exact .bool b
 | int k n=>exact .int k n
 | str s=>exact .str s
 | EX=>exact .EX
 | pm b es clock h1 h2 h3=>exact .pm b es clock h1 (h.maps _ _ _ h2) h3
 | sl b off vs hcap hfull ha hes hm h1 hr ih=>exact .sl b off vs hcap hfull ha hes (λ i j hi hj=>h.cell _ _ (hm i j hi hj)) h1 ih
 | ro b off vs hI hm hr ih=>exact .ro b off vs hI (λ j hj=>h.cell _ _ (hm j hj)) ih
 | agg hl hr ih=>exact .agg hl ih
 | fn hl hr ih=>exact .fn hl ih
 | jQ hl hr ih=>exact .jQ hl ih
variable {D:Nat→Prop}
theorem fA.turn (h:tY w' w) {O:OM} {v:AV} {x:Value} (hp:fA w I O D v x):fA w' I O D v x:=by
 induction hp with
 | pure hp=>exact .pure (hp.turn h)
 | ptr ho hp hi=>exact .ptr ho hp hi
 | dQ ho hi hcap hfull hpl hext=>exact .dQ ho hi hcap hfull hpl hext
 | Ay ho hd h1=>exact .Ay ho hd h1
 | xH ho hd h1=>exact .xH ho hd h1
 | mref ho hp=>exact .mref ho hp
 | Aw ho hd h1=>exact .Aw ho hd h1
 | agg hl hr ih=>exact .agg hl ih
 | fn hl hr ih=>exact .fn hl ih
 | jQ hl hr ih=>exact .jQ hl ih
theorem iQ.turn (h:tY w' w) {O:OM} {p:Own} {x:eP} (hp:iQ w I O D p x):iQ w' I O D p x:=by
 have hal:∀b sz,KD w b sz→KD w' b sz:=λ b sz ha j hj=>by
  obtain ⟨h1,h2⟩:=ha j hj;obtain ⟨v,hv⟩:=Option.isSome_iff_exists.1 h1;rw [h.cell _ _ hv,h.frozen _ h1];exact ⟨rfl,h2⟩
 have hca:∀b sz j,KD w b sz→j<sz→cellAt w' b j=cellAt w b j:=λ b sz j ha hj=>by
  obtain ⟨v,hv⟩:=Option.isSome_iff_exists.1 (ha j hj).1;unfold cellAt;rw [h.cell _ _ hv,hv]
 cases x with
 | box cs=>
  obtain ⟨h1,b,bo,sz,h2,h3,h4,h5⟩:=hp;exact ⟨h1,b,bo,sz,h2,hal b sz h3,h4,λ j hj=>by rw [hca b sz _ h3 om]; exact (h5 j hj).turn h⟩
 | row es n g=>
  obtain ⟨h1,h2,h3,h4⟩:=hp;refine ⟨h1,h2,h3,h4.imp id ?_⟩;rintro ⟨b,bo,sz,q1,q2,q3,q4⟩;exact ⟨b,bo,sz,q1,⟨hal b sz q2.al,λ j hb hj=>by rw [hca b sz j q2.al hj]; exact q2.one j hb hj⟩,q3,λ i j hi hj=>by
   have hlt:i*es+j<n*es:=by
    have:(i+1)*es≤n*es:=Nat.mul_le_mul_right _ hi;rw [Nat.add_mul] at this;omega
   rw [hca b sz _ q2 om];exact ⟨(q4 i j hi hj).1.turn h,(q4 i j hi hj).2⟩⟩
 | map kd z f=>
  obtain ⟨h1,b,bo,sz,es,clock,q1,q2,q3⟩:=hp;exact ⟨h1,b,bo,sz,es,clock,q1,h.maps b es clock q2,q3⟩
theorem Rel.turn {H:Nat→Option eP} {O:OM} (h:tY w' w) (hfr:∀b,b<cx.w0.heap.size→w'.heap[b]? = w.heap[b]?) (he:H6 cx w') (hR:Rel cfg cx H D w I O):Rel cfg cx H D w' I O where
 dom:=hR.dom
 used:=hR.used
 objs:=λ o ob p h1 h2=>(hR.objs o ob p h1 h2).turn h
 inj:=hR.inj
 qH:=hR.qH
 lt:=λ o p b bo sz h1 h2=>Nat.lt_of_lt_of_le (hR.lt o p b bo sz h1 h2) h.size
 Bz:=λ b hb=>Nat.lt_of_lt_of_le (hR.Bz b hb) h.size
 size:=Nat.le_trans hR.size h.size
 frame:=λ b h1 h2=>by rw [hfr b h1]; exact hR.frame b h1 h2
 new:=hR.new
 glob:=λ g cs hg=>(hR.glob g cs hg).turn h
 SG:=hR.SG
 U4:=hR.U4
 Yf:=hR.Yf
 Dm:=hR.Dm
 env:=he
theorem jB.turn {m:Nat} {s:St} {a a':Act} {O:OM} (h:tY w' w) (hfr:∀b,b<cx.w0.heap.size→w'.heap[b]? = w.heap[b]?) (he:H6 cx w') (ha:a'.tmps=a.tmps) (hm:Marks cx w' a'.defers) (hS:jB cfg N m cx s a w I O):jB cfg N m cx s a' w' I O:=
 ⟨hS.m,hS.rel.turn h hfr he,⟨rfl,by rw [ha]; exact hS.tmps.size,λ t ht=>by rw [ha]; exact (hS.tmps.rep t ht).turn h,λ t ht=>by cases ht⟩,hm⟩
theorem GI {D:Nat} {o o':Obj} (h:w.heap[D]? = some o) (ho:Pj o=true) (hnm:∀es c,o≠.map es c:=by intro _ _ h; cases h):tY (w.putObj D o') w:=by
 have hlt:D<w.heap.size:=by
  rcases Nat.lt_or_ge D w.heap.size with h1 | h1
  ·exact h1
  ·rw [Array.getElem?_eq_none h1] at h; cases h
 have hno:∀a:Addr,a.block=D→w.cell? a=none:=λ a e=>by
  unfold World.cell?;rw [e,h];cases o<;>first | rfl | exact absurd ho Bool.false_ne_true
 refine ⟨λ a v hv=>?_,λ a hv=>?_,by simp [World.putObj],λ b es c hb=>?_⟩
 ·by_cases e:a.block=D
  ·rw [hno a e] at hv; cases hv
  ·unfold World.cell? at hv ⊢;rw [World.putObj_heap_other e];exact hv
 ·by_cases e:a.block=D
  ·rw [hno a e] at hv; cases hv
  ·unfold World.frozen?;rw [World.putObj_heap_other e]
 ·by_cases e:b=D
  ·subst e;rw [h] at hb;exact absurd (Option.some.inj hb) (hnm es c)
  ·rw [World.putObj_heap_other e];exact hb
theorem amg {D:Nat} {o':Obj} (hD:cx.w0.heap.size≤D) (hK:∀k o,¬ cx.K k o) (he:H6 cx w):H6 cx (w.putObj D o'):=by
 refine ⟨⟨he.same.os,he.same.tape,he.same.output,λ k o hk ho=>?_⟩,λ k o h=>absurd h (hK k o)⟩;have hlt:k<cx.w0.heap.size:=by
  rcases Nat.lt_or_ge k cx.w0.heap.size with h1 | h1
  ·exact h1
  ·rw [Array.getElem?_eq_none h1] at hk; cases hk
 rw [World.putObj_heap_other om];exact he.same.keep k o hk ho
theorem CP {F:Fence} {n m:Nat} {fn:Func} {s:St} {R:Ending→World→Prop} (hK:∀k o,¬ cx.K k o)
  (fin:∀(a:Act) (w:World) (I:Nat→Prop) (O:OM),jB cfg N m cx s a w I O→∃v,(results fn a.tmps).run P w=.ok v w∧R (.returned v) w):
  ∀(ms:List Nat) (tmps:Array Value) (w:World) (I:Nat→Prop) (O:OM),ms.Nodup→(∀D∈ms,cx.w0.heap.size≤D∧w.heap[D]? = some (.deferred (some [])))→jB cfg N m cx s ⟨tmps,[]⟩ w I O→LeavesInM F n P fn tmps R (ms.map Y0) .returning w:=by
 intro ms;induction ms with
 | nil=>
  intro tmps w I O _ _ hS;exact fin _ w I O hS
 | cons D ms ih=>
  intro tmps w I O hnd hms hS;obtain ⟨hD1,hD2⟩:=hms D (List.mem_cons_self ..);rw [List.nodup_cons] at hnd;refine ⟨nofun,.inl ⟨D,w.putObj D (.deferred none),rfl,run_takeDeferred hD2,?_⟩⟩;refine ih tmps _ I O hnd.2 (λ D' hD'=>?_) ?_
  ·have hne:D'≠D:=λ e=>hnd.1 (e ▸ hD');rw [World.putObj_heap_other hne];exact hms D' (List.mem_cons_of_mem _ hD')
  ·exact hS.turn (GI hD2 rfl) (λ b hb=>World.putObj_heap_other om) (amg hD1 hK hS.rel.env) rfl ⟨[],List.nodup_nil,λ _=>rfl,rfl,λ _ h=>by cases h⟩
end
end Go.Ab
namespace Go.Ab
section
variable {P:Program} {cfg:xE} {cx:Ctx} {N:Nat}
def ad5 (tmps:Array Value):ResultVar→Sem Value
 | .tmp t=>pure (tmps.getD t undef)
 | .cell a t=>do loadVar t (← asAddr (tmps.getD a undef))
variable {w:World} {I:Nat→Prop}
theorem ad6 (hc:iE P cfg) {m:Nat} {s:St} {a:Act} {O:OM} (hS:jB cfg N m cx s a w I O):∀(rs:List ResultVar) (vs:List AV),KA cfg s rs=some vs→
  ∃xs:List Value,(rs.mapM (ad5 a.tmps)).run P w=.ok xs w∧xs.length=vs.length∧∀j,j<vs.length→fA w I O (λ o=>o<s.nx) (nth vs j) (xs.getD j Go.undef):=by
 intro rs;induction rs with
 | nil=>intro vs h; cases h; exact ⟨[],by simp,rfl,λ j hj=>by cases hj⟩
 | cons q rs ih=>
  intro vs h;cases q with
  | tmp t=>
   simp only [KA] at h;split at h
   ·rename_i vs' hvs;cases h;obtain ⟨xs,h1,h2,h3⟩:=ih vs' hvs;refine ⟨a.tmps.getD t Go.undef::xs,?_,by simp [h2],λ j hj=>?_⟩
    ·rw [List.mapM_cons];simp [ad5,h1]
    ·cases j with
     | zero=>exact hS.tmps.rep t rfl
     | succ j=>exact h3 j (by simpa using hj)
   ·cases h
  | cell ad ty=>
   simp only [KA] at h;split at h
   ·rename_i vs' o ti hvs had hty;have key:∀(cs:List AV) (b bo sz:Nat),a.tmps.getD ad Go.undef=.pointer (some ⟨b,bo,none⟩)→KD w b sz→bo+cs.length≤sz→(∀j,j<cs.length→fA w I O (λ o=>o<s.nx) (nth cs j) (cellAt w b (bo+j)))→
      ∀v,fU (λ _ _ _ _ _=>True) (hget s.heap) (BA ti cs) v [] []→∃xs:List Value,((ResultVar.cell ad ty::rs).mapM (ad5 a.tmps)).run P w=.ok xs w∧xs.length=(v::vs').length∧∀j,j<(v::vs').length→fA w I O (λ o=>o<s.nx) (nth (v::vs') j) (xs.getD j Go.undef):=by
     intro cs b bo sz hgd hal hle hcs v hv
     obtain ⟨xs,h1,h2,h3⟩:=ih vs' hvs
     obtain ⟨_,x,hrun,hx⟩:=sG (w:=w) (I:=I) (O:=O) (D:=λ o=>o<s.nx) hc hty hv b bo (λ j=>cellAt w b (bo+j)) (λ j hj=>wG hal om) (λ j hj=>hcs j hj)
     have hrun':(loadVar ty ⟨b,bo,none⟩).run P w=.ok x w:=by
      have:=hrun
      simp [Instr.loadAt,Instr.sureAddr] at this
      exact this
     refine ⟨x::xs,?_,by simp [h2],λ j hj=>?_⟩
     ·rw [List.mapM_cons,Sem.run_bind]
      have e:(ad5 a.tmps (.cell ad ty)).run P w=.ok x w:=by
       unfold ad5
       simp only
       rw [hgd]
       simp [asAddr,hrun']
      rw [e]
      simp [h1]
     ·cases j with
      | zero=>exact hx
      | succ j=>exact h3 j (by simpa using hj)
    have hrep:=hS.tmps.rep ad rfl;rw [had] at hrep;split at h
    ·rename_i cs rQ;obtain ⟨p,hp,hO⟩:=hS.rel.live rQ;obtain ⟨b,bo,sz,hpl,hi,hxv⟩:=hrep.pU hp;obtain ⟨hn,b',o8,sz',hpl',hal,hle,hcs⟩:=hO;rw [hpl] at hpl';cases hpl';simp only [Nat.zero_mul,Nat.add_zero] at hxv;have key:=key cs b bo sz hxv hal hle hcs;split at h
     ·rename_i hag;split at h
      ·rename_i hsz;cases h;refine key _ ?_;unfold BA;rw [hag];simp only [gF,hsz];exact .ret _ _
      ·cases h
     ·rename_i hag;split at h
      ·cases h;refine key _ ?_;unfold BA;rw [hag];exact .ret _ _
      ·cases h
    ·rename_i es n g rQ;obtain ⟨p,hp,hO⟩:=hS.rel.live rQ;obtain ⟨b,bo,sz,hpl,hi,hxv⟩:=hrep.pU hp;obtain ⟨hn,hes,hlen,hpl' | ⟨b',o8,sz',hpl',hal,hle,hcs⟩⟩:=hO
     ·rw [hpl] at hpl'; cases hpl'.2
     rw [hpl] at hpl';cases hpl';simp only [Nat.zero_mul,Nat.add_zero] at hxv;obtain ⟨hrl,hrr⟩:=SV hlen hcs;have key:=key (kZ n 0 g) b bo sz hxv hal om (λ j hj=>.pure (hrr j hj));split at h
     ·rename_i hag;split at h
      ·rename_i hsz;cases h;refine key _ ?_;unfold BA;rw [hag];simp only [gF,hsz];exact .ret _ _
      ·cases h
     ·cases h
    ·cases h
   ·cases h
theorem WL (hc:iE P cfg) {m:Nat} {s:St} {a:Act} {O:OM} (hS:jB cfg N m cx s a w I O) {fn:Func} {vs:List AV} (h:KA cfg s fn.results.toList=some vs):
  ∃x,(results fn a.tmps).run P w=.ok x w∧fA w I O (λ o=>o<s.nx) (oneOf vs) x:=by
 obtain ⟨xs,h1,h2,h3⟩:=ad6 hc hS _ _ h;have hrun:(results fn a.tmps).run P w=.ok (if h:xs.toArray.size=1 then xs.toArray[0] else .tuple xs.toArray) w:=by
  have e0:results fn a.tmps=(fn.results.mapM (ad5 a.tmps)) >>= λ vs=>pure (if h:vs.size=1 then vs[0] else .tuple vs):=by
   unfold results;congr 1
  have e2:fn.results.mapM (ad5 a.tmps)=Functor.map List.toArray (fn.results.toList.mapM (ad5 a.tmps)):=by
   rw [← List.mapM_toArray]
  rw [e0,Sem.run_bind,e2,Sem.run_map,h1];rfl
 refine ⟨_,hrun,?_⟩;match xs,vs,h2,h3 with
 | [],[],_,_=>exact .jQ rfl λ j hj=>by cases hj
 | [x],[v],_,h3=>exact h3 0 (by simp)
 | x::x'::xs,v::v'::vs,h2,h3=>
  have:¬ (x::x'::xs).toArray.size=1:=by simp
  rw [dif_neg this]
  exact .jQ (by simpa using h2) λ j hj=>by simpa using h3 j hj
theorem ad7:∀(obs:List eP) (i o:Nat),hget (JJ.pR obs i) o=if i≤o then hof obs (o - i) else none:=by
 intro obs;induction obs with
 | nil=>intro i o; simp [JJ.pR,hget,look,hof]
 | cons x l ih=>
  intro i o;unfold JJ.pR hget;simp only [look];cases hb:Nat.beq i o with
  | true=>
   have:=Nat.eq_of_beq_eq_true hb;subst this;simp [hof]
  | false=>
   have hne:i≠o:=λ e=>by subst e; simp at hb
   have:=ih (i+1) o;unfold hget at this;simp only;rw [this];by_cases hi:i≤o
   ·rw [if_pos hi,if_pos om,show o - i=(o - (i+1))+1 by omega];rfl
   ·rw [if_neg hi,if_neg om]
theorem JQ (obs:List eP):hget (JJ.pR obs 0)=hof obs:=by
 funext o;rw [ad7];simp
theorem Y1:∀(l:List AV) (i t:Nat),iD (KC l i) t=if i≤t then nth l (t - i) else .undef:=by
 intro l;induction l with
 | nil=>intro i t; simp [KC,iD,look,nth]
 | cons v l ih=>
  intro i t;unfold KC iD;simp only [look];cases hb:Nat.beq i t with
  | true=>
   have:=Nat.eq_of_beq_eq_true hb;subst this;simp [nth]
  | false=>
   have hne:i≠t:=λ e=>by subst e; simp at hb
   have:=ih (i+1) t;unfold iD at this;simp only;rw [this];by_cases hi:i≤t
   ·rw [if_pos hi,if_pos om,show t - i=(t - (i+1))+1 by omega];rfl
   ·rw [if_neg hi,if_neg om]
theorem ahY:∀(n i:Nat),(upTo n i).length=n∧∀j,j<n→gX (upTo n i) j=i+j:=by
 intro n;induction n with
 | zero=>intro i; exact ⟨rfl,λ j hj=>by cases hj⟩
 | succ n ih=>
  intro i;obtain ⟨h1,h2⟩:=ih (i+1);refine ⟨by simp [upTo,h1],λ j hj=>?_⟩;cases j with
  | zero=>rfl
  | succ j=>show gX (upTo n (i+1)) j=_; rw [h2 j om]; omega
theorem aap (l m:List Nat) (j:Nat) (h:j<l.length):gX (l++m) j=gX l j:=by
 induction l generalizing j with
 | nil=>cases h
 | cons x l ih=>cases j with
  | zero=>rfl
  | succ j=>exact ih j (by simpa using h)
theorem ad8 {H:kN}:∀(sg:List Nat) (obs:List eP),YH H sg obs→obs.length=sg.length∧∀j,j<sg.length→∃x y,hget H (gX sg j)=some x∧hof obs j=some y∧Ya x=true∧adr [] [] x y:=by
 intro sg;induction sg with
 | nil=>intro obs h; cases obs with
  | nil=>exact ⟨rfl,λ j hj=>by cases hj⟩
  | cons=>exact h.elim
 | cons o sg ih=>intro obs h; cases obs with
  | nil=>exact h.elim
  | cons y obs=>
   obtain ⟨h1,h2⟩:=h
   obtain ⟨h3,h4⟩:=ih obs h2
   refine ⟨by simp [h3],λ j hj=>?_⟩
   cases j with
   | zero=>
    split at h1
    ·rename_i x hx
     split at h1
     ·rename_i hp; exact ⟨x,y,hx,rfl,hp,h1⟩
     ·exact h1.elim
    ·exact h1.elim
   | succ j=>exact h4 j (by simpa using hj)
theorem ajR:amd [] [] [] where
 ren:=λ _ _ _ h=>by cases h
 ghost:=λ _ _ h=>by cases h
theorem iQ.aou {I':Nat→Prop} {O O':OM} {D D':Nat→Prop} {p:Own} {x y:eP} (hI:∀b,I b→I' b) (h:iQ w I O D p x) (hp:Ya x=true) (he:adr [] [] x y):iQ w I' O' D' p y:=by
 cases x with
 | box cs=>
  cases y with
  | row es n g=>exact he.elim
  | map kd z f=>exact he.elim
  | box cs'=>
   obtain ⟨h1,b,bo,sz,hpl,ha,hl,hr⟩:=h;obtain ⟨h2,h3⟩:=Vh _ cs cs' he;refine ⟨h1,b,bo,sz,hpl,ha,by omega,λ j hj=>?_⟩;obtain ⟨f',_,h4⟩:=h3 j hj;have hx:=(hr j om).AA (aak hp j om);have hy:fA w I (og [] [] λ _=>none) (λ _=>False) (nth cs' j) (cellAt w b (bo+j)):=Ti (H:=[]) (O:=λ _=>none) (D:=λ _=>False) (λ o=>by simp [hget,look]) ajR f' _ _ _ (.pure hx) h4;have e:(og [] [] λ _=>none)=(λ _=>none:OM):=by funext o; simp [og,hget,look]
   rw [e] at hy;exact .pure ((Fq hy).mono hI λ _ _=>rfl)
 | row es n g=>
  cases y with
  | box cs'=>exact he.elim
  | map kd z f=>exact he.elim
  | row es' n' g'=>
   have hO:iQ w I' O' D' p (.row es n g):=by
    obtain ⟨h1,h2,h3,h4⟩:=h;refine ⟨h1,h2,h3,?_⟩;rcases h4 with h4 | ⟨b,bo,sz,hp,ha,hl,hr⟩
    ·exact .inl h4
    ·exact .inr ⟨b,bo,sz,hp,ha,hl,λ i j hi hj=>⟨(hr i j hi hj).1.mono hI λ _ _=>rfl,(hr i j hi hj).2⟩⟩
   exact LeO.rep (x:=.row es n g) (y:=.row es' n' g') he hO
 | map kd z f=>cases hp
variable {obs:List eP}
theorem Rel.home {H:Nat→Option eP} {D:Nat→Prop} {O:OM} (hR:Rel cfg cx H D w I O) {ex ids:List Nat} (hnd:pQ (upTo cx.m 0++ex)=true) (hdj:ME ids (upTo cx.m 0++ex)=true) (hl:obs.length=(upTo cx.m 0++ex).length)
  (aal:∀j,j<(upTo cx.m 0++ex).length→∃x y,H (gX (upTo cx.m 0++ex) j)=some x∧hof obs j=some y∧Ya x=true∧adr [] [] x y):
  Rel cfg cx (hof obs) (λ o=>o<obs.length) w (λ b=>I b∨EW O ids b) (qI O (upTo cx.m 0++ex))∧∀o,o<cx.m→qI O (upTo cx.m 0++ex) o=cx.O0 o:=by
 have hup:=ahY cx.m 0;have aov:∀j,j<cx.m→j<(upTo cx.m 0++ex).length∧gX (upTo cx.m 0++ex) j=j:=λ j hj=>by
  refine ⟨by simp [hup.1]; omega,?_⟩;rw [aap _ _ _ (by rw [hup.1]; exact hj),hup.2 j hj];simp
 generalize hsg:upTo cx.m 0++ex=sg at hnd hdj hl aal aov;have hsub:∀ {j p},qI O sg j=some p→j<sg.length∧O (gX sg j)=some p:=λ h=>by
  unfold qI at h;split at h
  ·exact ⟨by assumption,h⟩
  ·cases h
 have hO0:∀o,o<cx.m→qI O sg o=cx.O0 o:=λ o ho=>by
  obtain ⟨h1,h2⟩:=aov o ho;obtain ⟨x,y,h3,_⟩:=aal o h1;rw [h2] at h3;unfold qI;rw [if_pos h1,h2];rcases hR.Yf o ho with e | e
  ·exact e
  ·rw [(hR.dom o).1 e] at h3; cases h3
 refine ⟨?_,hO0⟩;exact {
  dom:=λ j=>by
   unfold qI
   by_cases hj:j<sg.length
   ·obtain ⟨x,y,h1,h2,_⟩:=aal j hj
    obtain ⟨p,hp,_⟩:=hR.live h1
    simp [hj,h2,hp]
   ·rw [if_neg hj,Tc obs j om]
    simp
  used:=λ j p h=>by have:=(hsub h).1; omega
  objs:=λ j ob p h h'=>by
   obtain ⟨h1,h2⟩:=hsub h'
   obtain ⟨x,y,h3,h4,h5,h6⟩:=aal j h1
   rw [h] at h4
   cases h4
   exact (hR.objs _ _ p h3 h2).aou (λ _ h=>.inl h) h5 h6
  inj:=λ j j' p p' b bo sz b' o8 sz' h1 h2 h3 h4 h5=>by
   obtain ⟨q1,q2⟩:=hsub h1
   obtain ⟨q3,q4⟩:=hsub h2
   exact hR.inj _ _ p p' b bo sz b' o8 sz' q2 q4 h3 h4 (λ e=>h5 (JN sg hnd j j' q1 q3 e))
  qH:=λ j p b bo sz h1 h2 h3=>by
   obtain ⟨q1,q2⟩:=hsub h1
   rcases h3 with h3 | ⟨o',p',o8,sz',q3,q4,q5⟩
   ·exact hR.qH _ p b bo sz q2 h2 h3
   ·exact hR.inj _ o' p p' b bo sz b o8 sz' q2 q4 h2 q5 (λ e=>RL ids sg hdj o' q3 (e ▸ sI sg j q1)) rfl
  lt:=λ j p b bo sz h1 h2=>hR.lt _ p b bo sz (hsub h1).2 h2
  Bz:=(hR.freeze ids).Bz
  size:=hR.size
  frame:=hR.frame
  env:=hR.env
  new:=λ j p b bo sz h1 h2=>hR.new _ p b bo sz (hsub h1).2 h2
  glob:=(hR.freeze ids).glob
  SG:=λ b h=>.inl (hR.SG b h)
  U4:=(hR.freeze ids).U4
  Yf:=λ o ho=>.inl (hO0 o ho)
  Dm:=λ o ho=>by have:=(aov o ho).1; omega }
theorem ab7 (hc:iE P cfg) {f:FuncId} {fn:Func} {c:Code} {args:List AV} {obs:List eP} {r:AV} {fO:List eP} (hf:P.funcs[f]? = some fn) (hb:fn.body=some c) (hnm:(fn.name == "runtime.NumGoroutine")=false)
  (hN:args.length≤fn.ntmps) (hle:obs.length≤fO.length)
  (h:Good P cfg fn.ntmps none obs.length c ⟨KC args 0,JJ.pR obs 0,obs.length⟩ (JJ cfg (Spec P cfg) fn.results.toList obs.length r fO)):Spec P cfg f args obs r fO:=by
 refine ⟨⟨fn,hf,by rw [hb]; rfl,hnm⟩,hle,λ w I O vals hR hvs hrep=>?_⟩;refine (callsIn_wide (n:=0)).1 (callsIn_of_wp_marks hf hb trivial ?_);have hS:jB cfg fn.ntmps obs.length (L9 w I O obs.length) ⟨KC args 0,JJ.pR obs 0,obs.length⟩ { tmps:=vals++Array.replicate (fn.ntmps - vals.size) undef,defers:=[] } w I O:=by
  refine ⟨rfl,?_,⟨rfl,by simp; omega,λ t _=>?_,λ t h=>by cases h⟩,⟨[],List.nodup_nil,λ _=>rfl,rfl,λ _ h=>by cases h⟩⟩
  ·rw [JQ]; exact hR
  ·rw [Y1];simp only [Nat.zero_le,if_true,Nat.sub_zero];by_cases ht:t<args.length
   ·have e:(vals++Array.replicate (fn.ntmps - vals.size) undef).getD t Go.undef=vals.getD t Go.undef:=by
     have:t<vals.size:=by omega
     simp [Array.getElem?_append_left this]
    rw [e];exact hrep t ht
   ·have e:nth args t=.undef:=by
     rw [vR];simp [List.getElem?_eq_none (Nat.le_of_not_lt ht)]
    rw [e];exact .pure (.undef _)
 refine wpIn_mono (h 0 _ _ w I O hS rfl) ?_;intro e a0 w0 ⟨s,I0,O0,hK,hS0⟩;have main:∀(a':Act) (w':World) (I':Nat→Prop) (O':OM),jB cfg fn.ntmps obs.length (L9 w I O obs.length) s a' w' I' O'→(∃vs,KA cfg s fn.results.toList=some vs∧ev (Spec P cfg) [] (hget s.heap) (Pf (upTo obs.length 0++abN obs.length r (oneOf vs)) (oneOf vs) λ v' ids=>gF (pQ (upTo obs.length 0++abN obs.length r (oneOf vs))) (gF (ME ids (upTo obs.length 0++abN obs.length r (oneOf vs))) (lI v'))) []
   λ v' _ _=>mR [] (JJ.pR fO 0) fuel v' r∧YH s.heap (upTo obs.length 0++abN obs.length r (oneOf vs)) fO)→∃v,(results fn a'.tmps).run P w'=.ok v w'∧∃x I'' O'',Ending.returned v=.returned x∧Rel cfg (L9 w I O obs.length) (GD fO) (λ o=>o<fO.length) w' I'' O''∧
   fA w' I'' O'' (λ o=>o<fO.length) r x:=by
  rintro a' w' I' O' hS' ⟨vs,hvs,hev⟩
  obtain ⟨x,hrun,hx⟩:=WL hc hS' hvs
  refine ⟨x,hrun,x,?_⟩
  obtain ⟨v',ups,Av,⟨h1,h2⟩,_,h3⟩:=Yj _ _ _ _ _ hev
  obtain ⟨rr,h4,_⟩:=h3 (λ q hq=>by cases hq)
  obtain ⟨h5,h6⟩:=ad8 _ _ h2
  obtain ⟨u',ids,r',h7,h8⟩:=QM hS'.rel (λ j hj=>let ⟨x,y,h9,_⟩:=h6 j hj; ⟨x,h9⟩) h4
  obtain ⟨hnd,h7⟩:=h7.cK
  obtain ⟨hdj,h7⟩:=h7.cK
  obtain ⟨rfl,_⟩:=h7.fK
  obtain ⟨h10,h11⟩:=Rel.home hS'.rel hnd hdj h5 h6
  have hgn:GD fO=hof fO:=alR λ j y hy=>by
   have hj:j<(upTo obs.length 0++abN obs.length r (oneOf vs)).length:=by
    rcases Nat.lt_or_ge j fO.length with h | h
    ·omega
    ·rw [Tc _ _ h] at hy; cases hy
   obtain ⟨q,y',_,q2,q3,q4⟩:=h6 j hj
   rw [hy] at q2
   cases q2
   cases y with
   | map=>cases q<;>first | exact q4.elim | cases q3
   | _=>rfl
  refine ⟨_,_,rfl,by rw [hgn]; exact h10,?_⟩
  have hdom:=h10.dom
  rw [← JQ fO] at hdom
  have hX:amd [] (JJ.pR fO 0) (JJ.pR fO 0):=⟨λ o' y o hy ho=>by cases ho; exact ⟨y,hy⟩,λ o' y hy ho=>by cases ho⟩
  have:=Ti (D':=λ o=>o<fO.length) hdom hX fuel _ _ x (h8 x hx) h1
  have e:og [] (JJ.pR fO 0) (qI O' (upTo obs.length 0++abN obs.length r (oneOf vs)))=qI O' (upTo obs.length 0++abN obs.length r (oneOf vs)):=by
   funext o
   unfold og
   split
   ·rename_i hn; exact ((hdom o).2 hn).symm
   ·rfl
  exact e ▸ this
 have hret:∀(a':Act) (w':World) (I':Nat→Prop) (O':OM),jB cfg fn.ntmps obs.length (L9 w I O obs.length) s a' w' I' O'→∀vs,KA cfg s fn.results.toList=vs→(match vs with
   | some vs=>match oneOf vs with
    | v=>match upTo obs.length 0++abN obs.length r v with
     | sg=>ev (Spec P cfg) [] (hget s.heap) (Pf sg v λ v' ids=>gF (pQ sg) (gF (ME ids sg) (lI v'))) [] λ v' _ _=>mR [] (JJ.pR fO 0) fuel v' r∧YH s.heap sg fO
   | none=>False)→∃v,(results fn a'.tmps).run P w'=.ok v w'∧∃x I'' O'',Ending.returned v=.returned x∧Rel cfg (L9 w I O obs.length) (GD fO) (λ o=>o<fO.length) w' I'' O''∧
   fA w' I'' O'' (λ o=>o<fO.length) r x:=by
  intro a' w' I' O' hS' vs hvs h
  cases vs with
  | none=>exact h.elim
  | some vs=>exact main a' w' I' O' hS' ⟨vs,hvs,h⟩
 obtain ⟨ms,hnd,_,hds,hms⟩:=hS0.marks;have hS1:=jB.turn (a:=a0) (w:=w0) (a':=⟨a0.tmps,[]⟩) ⟨λ _ _ h=>h,λ _ _=>rfl,Nat.le_refl _,λ _ _ _ h=>h⟩ (λ _ _=>rfl) hS0.rel.env rfl ⟨[],List.nodup_nil,λ _=>rfl,rfl,λ _ h=>by cases h⟩ hS0;cases e with
 | normal=>
  show LeavesInM _ _ _ _ _ _ a0.defers _ _;rw [hds];exact CP (cx:=L9 w I O obs.length) (λ _ _ h=>h) (λ a w' I' O' hS'=>hret a w' I' O' hS' _ rfl hK) ms a0.tmps w0 I0 O0 hnd hms hS1
 | ret=>
  show LeavesInM _ _ _ _ _ _ a0.defers _ _;rw [hds];exact CP (cx:=L9 w I O obs.length) (λ _ _ h=>h) (λ a w' I' O' hS'=>hret a w' I' O' hS' _ rfl hK) ms a0.tmps w0 I0 O0 hnd hms hS1
 | exit id=>exact hK.elim
 | goto l=>exact hK.elim
 | panic ch=>exact hK.elim
 | outgrown=>exact hK.elim
theorem ahZ (hc:iE P cfg) {f:FuncId} {fn:Func} {c:Code} {ct:List Nat} {args:List AV} {obs:List eP} {r:AV} {fO:List eP} (hf:P.funcs[f]? = some fn) (hb:fn.body=some c) (hnm:(fn.name == "runtime.NumGoroutine")=false)
  (hN:args.length≤fn.ntmps) (hok:iW fn.ntmps c=true) (hle:obs.length≤fO.length)
  (h:kP cfg (Spec P cfg) ct (Loops P cfg fn.ntmps none obs.length) c ⟨KC args 0,JJ.pR obs 0,obs.length⟩ (JJ cfg (Spec P cfg) fn.results.toList obs.length r fO)):Spec P cfg f args obs r fO:=
 ab7 hc hf hb hnm hN hle (jl hc c _ _ hok h)
end
end Go.Ab
namespace Go.Ab
section
variable {P:Program} {cfg:xE} {N:Nat} {cx:Ctx}
def ajS (o es:Nat) (g:Nat→AV) (v:AV):AV:=match v with
 | .dQ o' i n f=>match Nat.beq o' o with
  | true=>.sl es n f (rE i g)
  | false=>.dQ o' i n f
 | v=>v
def ah0 (o es:Nat) (g:Nat→AV):List AV→List AV
 | []=>[]
 | v::l=>ajS o es g v::ah0 o es g l
def ajT (o es:Nat) (g:Nat→AV) (v:AV):AV:=match v with
 | .agg cs=>.agg (ah0 o es g cs)
 | v=>ajS o es g v
def ad9 (o es:Nat) (g:Nat→AV):List AV→List AV
 | []=>[]
 | v::l=>ajT o es g v::ad9 o es g l
def amh (o es:Nat) (g:Nat→AV) (v:AV):AV:=match v with
 | .jQ cs=>.jQ (ad9 o es g cs)
 | v=>ajT o es g v
theorem Tj (o es:Nat) (g:Nat→AV) (l:List AV):(ah0 o es g l).length=l.length:=by
 induction l with
 | nil=>rfl
 | cons v l ih=>simp [ah0,ih]
theorem aea (o es:Nat) (g:Nat→AV):∀(l:List AV) (j:Nat),nth (ah0 o es g l) j=ajS o es g (nth l j):=by
 intro l;induction l with
 | nil=>intro j; rfl
 | cons v l ih=>intro j; cases j with
  | zero=>rfl
  | succ j=>exact ih j
theorem abb (o es:Nat) (g:Nat→AV) (l:List AV):(ad9 o es g l).length=l.length:=by
 induction l with
 | nil=>rfl
 | cons v l ih=>simp [ad9,ih]
theorem ah1 (o es:Nat) (g:Nat→AV):∀(l:List AV) (j:Nat),nth (ad9 o es g l) j=ajT o es g (nth l j):=by
 intro l;induction l with
 | nil=>intro j; rfl
 | cons v l ih=>intro j; cases j with
  | zero=>rfl
  | succ j=>exact ih j
def ajU (o es:Nat) (g:Nat→AV):List (Nat×AV)→List (Nat×AV)
 | []=>[]
 | (t,v)::l=>(t,amh o es g v)::ajU o es g l
theorem ah2 (o es:Nat) (g:Nat→AV):∀(l:List (Nat×AV)) (t:Nat),iD (ajU o es g l) t=amh o es g (iD l t):=by
 intro l;induction l with
 | nil=>intro t; rfl
 | cons p l ih=>
  intro t;obtain ⟨k,v⟩:=p;unfold ajU iD;simp only [look];cases hb:Nat.beq k t with
  | true=>rfl
  | false=>exact ih t
variable {H:Nat→Option eP} {D:Nat→Prop} {I:Nat→Prop} {g:Nat→AV}
theorem Y2 {w:World} {O:OM} (hR:Rel cfg cx H D w I O) {o es n0:Nat} (ho:H o=some (.row es n0 g)) {v:AV} {x:Value} (h:fA w I O D v x):
  fA w (λ b=>I b∨EW O [o] b) (kill O [o]) D (ajS o es g v) x:=by
 have dflt:fA w (λ b=>I b∨EW O [o] b) (kill O [o]) D v x:=
  h.mono (λ _ h=>.inl h) (λ _ _=>rfl) (λ o' _=>by unfold kill; by_cases h0:o'∈[o]<;>simp [h0]) (λ _ h=>h) hR.used
 unfold ajS;split
 ·rename_i o' i n f;split
  ·rename_i hb;have:=Nat.eq_of_beq_eq_true hb;subst this;have he:fU (λ _ _ _ _ _=>True) H (pur 1 (.dQ o' i n f) (λ u ids=>.ret u (dead ids))) (.sl es n f (rE i g)) (dead [o']) [o']:=.rd ho (.ret _ _);obtain ⟨u,ids,r',h1,h2⟩:=(H9 hR 1).1 _ _ _ _ _ he;have hid:u=.sl es n f (rE i g)∧dead ids=dead [o']:=by
    have:=h1.l7;exact ⟨this.1.symm,this.2.symm⟩
   have ash:ids=[o']:=by
    have h3:=hid.2;match ids,h3 with
    | [],h3=>cases h3
    | [a],h3=>simp [dead] at h3; rw [h3]
    | a::b::l,h3=>simp [dead] at h3
   rw [ash] at h2;rw [← hid.1];exact .pure (h2 x h)
  ·exact dflt
 ·exact dflt
theorem aeb {w:World} {O:OM} (hR:Rel cfg cx H D w I O) {o es n0:Nat} (ho:H o=some (.row es n0 g)) {v:AV} {x:Value} (h:fA w I O D v x):
  fA w (λ b=>I b∨EW O [o] b) (kill O [o]) D (ajT o es g v) x:=by
 unfold ajT;split
 ·obtain ⟨xs,rfl,hl,hr⟩:=h.vD;refine .agg (by rw [Tj]; exact hl) λ j hj=>?_;rw [Tj] at hj;rw [aea];exact Y2 hR ho (hr j hj)
 ·exact Y2 hR ho h
theorem ami {w:World} {O:OM} (hR:Rel cfg cx H D w I O) {o es n0:Nat} (ho:H o=some (.row es n0 g)) {v:AV} {x:Value} (h:fA w I O D v x):
  fA w (λ b=>I b∨EW O [o] b) (kill O [o]) D (amh o es g v) x:=by
 unfold amh;split
 ·obtain ⟨xs,rfl,hl,hr⟩:=h.JK;refine .jQ (by rw [abb]; exact hl) λ j hj=>?_;rw [abb] at hj;rw [ah1];exact aeb hR ho (hr j hj)
 ·exact aeb hR ho h
end
end Go.Ab
namespace Go.Ab
section
variable {P:Program} {cfg:xE}
def Y3 (P:Program) (cfg:xE) (N:Nat) (r:Option Nat) (m:Nat) (c:Code) (s:St) (K:Exit→St→Prop):Prop:=
 ∃e0 s0,K e0 s0∧Good P cfg N r m c s (λ e s=>e=e0∧s=s0)
structure asi (P:Program) (cfg:xE) (N:Nat) (r:Option Nat) (m:Nat) (c:Code) (s:St) (K:Exit→St→Prop):Prop where
 ok:Y3 P cfg N r m c s K
theorem Y3.seq {N:Nat} {r:Option Nat} {m:Nat} {x y:Code} {s:St} {K:Exit→St→Prop} (h:Y3 P cfg N r m x s λ e s'=>match e with | .normal=>Y3 P cfg N r m y s' K | e=>K e s'):Y3 P cfg N r m (.seq x y) s K:=by
 obtain ⟨e1,s1,h1,h2⟩:=h;cases e1 with
 | normal=>
  obtain ⟨e0,s0,h3,h4⟩:=h1;refine ⟨e0,s0,h3,sJ (h2.mono λ e s' h=>?_)⟩;obtain ⟨rfl,rfl⟩:=h;exact h4
 | _=>
  refine ⟨_,s1,h1,sJ (h2.mono λ e s' h=>?_)⟩;obtain ⟨rfl,rfl⟩:=h;exact ⟨rfl,rfl⟩
end
end Go.Ab
namespace Go.Ab
section
variable {P:Program} {cfg:xE} {N:Nat} {cx:Ctx}
def ajV (o es:Nat) (g:Nat→AV):Option eP→Option eP
 | some (.box cs)=>some (.box (ah0 o es g cs))
 | x=>x
def abd (o es:Nat) (g:Nat→AV):kN→kN
 | []=>[]
 | (k,x)::l=>(k,ajV o es g x)::abd o es g l
def aow (o:Nat) (s:St):St:=match hget s.heap o with
 | some (.row es _ g)=>⟨ajU o es g s.tmps,(o,none)::abd o es g s.heap,s.nx⟩
 | _=>s
def abe:List Nat→St→St
 | [],s=>s
 | o::l,s=>abe l (aow o s)
theorem afM (o es:Nat) (g:Nat→AV):∀(l:kN) (k:Nat),look (abd o es g l) k=(look l k).map (ajV o es g):=by
 intro l;induction l with
 | nil=>intro k; rfl
 | cons p l ih=>
  intro k;obtain ⟨j,x⟩:=p;simp only [abd,look];cases Nat.beq j k with
  | true=>rfl
  | false=>exact ih k
theorem afN (o es:Nat) (g:Nat→AV) (l:kN) (k:Nat):hget (abd o es g l) k=ajV o es g (hget l k):=by
 unfold hget;rw [afM];cases look l k with
 | none=>rfl
 | some x=>cases x with
  | none=>rfl
  | some y=>cases y<;>rfl
theorem afO {m:Nat} {s:St} {a:Act} {w:World} {I:Nat→Prop} {O:OM} (hS:jB cfg N m cx s a w I O) (o:Nat):∃I' O',jB cfg N m cx (aow o s) a w I' O':=by
 unfold aow;split
 ·rename_i es n0 g ho;obtain ⟨hm,hR,hT,hMk⟩:=hS;refine ⟨λ b=>I b∨EW O [o] b,kill O [o],hm,?_,⟨rfl,hT.size,λ t ht=>?_,hT.gone⟩,hMk⟩
  ·have hF:=hR.freeze [o];have e:∀o',hget ((o,none)::abd o es g s.heap) o'=if o'=o then none else ajV o es g (hget s.heap o'):=by
    intro o';rw [← afN];unfold hget;simp only [look];cases hb:Nat.beq o o' with
    | true=>have:=Nat.eq_of_beq_eq_true hb; subst this; simp
    | false=>
     have:o'≠o:=λ e=>by subst e; simp at hb
     simp [this]
   have e2:∀o',mW (hget s.heap) (dead [o]) o'=if o'=o then none else hget s.heap o':=by
    intro o';rw [Pk];by_cases h:o'=o<;>simp [h]
   refine { hF with
    dom:=λ o'=>?_
    objs:=λ o' ob p rQ hp=>?_ }
   ·rw [hF.dom o',e,e2];by_cases h:o'=o
    ·simp [h]
    ·rw [if_neg h,if_neg h];cases hget s.heap o' with
     | none=>exact Iff.rfl
     | some y=>cases y<;>simp [ajV]
   ·rw [e] at rQ;by_cases h:o'=o
    ·rw [if_pos h] at rQ; cases rQ
    ·rw [if_neg h] at rQ;have hk:kill O [o] o'=O o':=by unfold kill; simp [h]
     rw [hk] at hp;cases hy:hget s.heap o' with
     | none=>rw [hy] at rQ; cases rQ
     | some y=>
      rw [hy] at rQ;have h2:=hF.objs o' y p (by rw [e2,if_neg h]; exact hy) (by rw [hk]; exact hp);cases y with
      | row es' n' g'=>cases rQ; exact h2
      | map kd z f=>cases rQ; exact h2
      | box cs=>
       cases rQ;obtain ⟨h3,b,bo,sz,h4,h5,h6,h7⟩:=hR.objs o' (.box cs) p hy hp;refine ⟨h3,b,bo,sz,h4,h5,by rw [Tj]; exact h6,λ j hj=>?_⟩;rw [Tj] at hj;rw [aea];exact Y2 hR ho (h7 j hj)
  ·show fA w _ _ _ (iD (ajU o es g s.tmps) t) _;rw [ah2];exact ami hR ho (hT.rep t ht)
 ·exact ⟨I,O,hS⟩
theorem WM {m:Nat}:∀(l:List Nat) {s:St} {a:Act} {w:World} {I:Nat→Prop} {O:OM},jB cfg N m cx s a w I O→∃I' O',jB cfg N m cx (abe l s) a w I' O':=by
 intro l;induction l with
 | nil=>intro s a w I O h; exact ⟨I,O,h⟩
 | cons o l ih=>
  intro s a w I O h;obtain ⟨I',O',h'⟩:=afO h o;exact ih h'
def P6 (m:Nat) (ρ:List (Nat×Option Nat)) (os:List Nat) (s s':St):Prop:=Emb m ρ (abe os s) s'
theorem zI {m:Nat} {ρ:List (Nat×Option Nat)} {os:List Nat} {s s':St} {a:Act} {w:World} {I:Nat→Prop} {O:OM} (hS:jB cfg N m cx s a w I O) (h:P6 m ρ os s s'):∃I' O',jB cfg N m cx s' a w I' O':=by
 obtain ⟨I',O',h'⟩:=WM os hS;exact ⟨I',_,Ih h' h⟩
end
end Go.Ab
namespace Go.Ab
section
variable {P:Program} {cfg:xE} {N:Nat} {cx:Ctx}
theorem aaq (hc:iE P cfg) {f:FuncId} {fn:Func} {c:Code} {args:List AV} {obs:List eP} {r:AV} {fO:List eP} {K:Exit→St→Prop} (hf:P.funcs[f]? = some fn) (hb:fn.body=some c) (hnm:(fn.name == "runtime.NumGoroutine")=false)
  (hN:args.length≤fn.ntmps) (hle:obs.length≤fO.length)
  (h:Good P cfg fn.ntmps none obs.length c ⟨KC args 0,JJ.pR obs 0,obs.length⟩ K)
  (hend:∀e s,K e s→(e=.normal∨e=.ret)∧∀(cx:Ctx) (a':Act) (w':World) (I':Nat→Prop) (O':OM),cx.m=obs.length→jB cfg fn.ntmps obs.length cx s a' w' I' O'→∃v,(results fn a'.tmps).run P w'=.ok v w'∧∃I'' O'',Rel cfg cx (GD fO) (λ o=>o<fO.length) w' I'' O''∧
    fA w' I'' O'' (λ o=>o<fO.length) r v):Spec P cfg f args obs r fO:=by
 refine ⟨⟨fn,hf,by rw [hb]; rfl,hnm⟩,hle,λ w I O vals hR hvs hrep=>?_⟩;refine (callsIn_wide (n:=0)).1 (callsIn_of_wp_marks hf hb trivial ?_);have hS:jB cfg fn.ntmps obs.length (L9 w I O obs.length) ⟨KC args 0,JJ.pR obs 0,obs.length⟩ { tmps:=vals++Array.replicate (fn.ntmps - vals.size) undef,defers:=[] } w I O:=by
  refine ⟨rfl,?_,⟨rfl,by simp; omega,λ t _=>?_,λ t h=>by cases h⟩,⟨[],List.nodup_nil,λ _=>rfl,rfl,λ _ h=>by cases h⟩⟩
  ·rw [JQ]; exact hR
  ·rw [Y1];simp only [Nat.zero_le,if_true,Nat.sub_zero];by_cases ht:t<args.length
   ·have e:(vals++Array.replicate (fn.ntmps - vals.size) undef).getD t Go.undef=vals.getD t Go.undef:=by
     have:t<vals.size:=by omega
     simp [Array.getElem?_append_left this]
    rw [e];exact hrep t ht
   ·have e:nth args t=.undef:=by
     rw [vR];simp [List.getElem?_eq_none (Nat.le_of_not_lt ht)]
    rw [e];exact .pure (.undef _)
 refine wpIn_mono (h 0 _ _ w I O hS rfl) ?_;intro e a0 w0 ⟨s,I0,O0,hK,hS0⟩;obtain ⟨hex,hend⟩:=hend e s hK;have hret:∀(a':Act) (w':World) (I':Nat→Prop) (O':OM),jB cfg fn.ntmps obs.length (L9 w I O obs.length) s a' w' I' O'→∃v,(results fn a'.tmps).run P w'=.ok v w'∧∃x I'' O'',Ending.returned v=.returned x∧Rel cfg (L9 w I O obs.length) (GD fO) (λ o=>o<fO.length) w' I'' O''∧
   fA w' I'' O'' (λ o=>o<fO.length) r x:=λ a' w' I' O' hS'=>by
  obtain ⟨v,h1,I'',O'',h2,h3⟩:=hend _ a' w' I' O' rfl hS'
  exact ⟨v,h1,v,I'',O'',rfl,h2,h3⟩
 obtain ⟨ms,hnd,_,hds,hms⟩:=hS0.marks;have hS1:=jB.turn (a:=a0) (w:=w0) (a':=⟨a0.tmps,[]⟩) ⟨λ _ _ h=>h,λ _ _=>rfl,Nat.le_refl _,λ _ _ _ h=>h⟩ (λ _ _=>rfl) hS0.rel.env rfl ⟨[],List.nodup_nil,λ _=>rfl,rfl,λ _ h=>by cases h⟩ hS0;cases e with
 | normal=>
  show LeavesInM _ _ _ _ _ _ a0.defers _ _;rw [hds];exact CP (cx:=L9 w I O obs.length) (λ _ _ h=>h) (λ a w' I' O' hS'=>hret a w' I' O' hS') ms a0.tmps w0 I0 O0 hnd hms hS1
 | ret=>
  show LeavesInM _ _ _ _ _ _ a0.defers _ _;rw [hds];exact CP (cx:=L9 w I O obs.length) (λ _ _ h=>h) (λ a w' I' O' hS'=>hret a w' I' O' hS') ms a0.tmps w0 I0 O0 hnd hms hS1
 | exit id=>rcases hex with h | h<;>cases h
 | goto l=>rcases hex with h | h<;>cases h
 | panic ch=>rcases hex with h | h<;>cases h
 | outgrown=>rcases hex with h | h<;>cases h
def ajW (cfg:xE) (rs:List ResultVar) (m:Nat) (r:AV) (fO:List eP) (e:Exit) (s:St):Prop:=
 match (match e with | .normal=>true | .ret=>true | _=>false) with
 | true=>∃fz ρ,match abe fz s with
  | s'=>match KA cfg s' rs with
   | some vs=>Emb m ρ s' ⟨[],YI fO 0,fO.length⟩∧mR ρ (YI fO 0) fuel (oneOf vs) r
   | none=>False
 | false=>False
theorem ah3:∀(obs:List eP) (i o:Nat),hget (YI obs i) o=if i≤o then GD obs (o - i) else none:=by
 intro obs;induction obs with
 | nil=>intro i o; simp [YI,hget,look,GD]
 | cons x l ih=>
  intro i o;unfold YI hget;simp only [look];cases hb:Nat.beq i o with
  | true=>
   have:=Nat.eq_of_beq_eq_true hb;subst this;simp only [Nat.le_refl,if_true,Nat.sub_self,GD];cases gz x<;>rfl
  | false=>
   have hne:i≠o:=λ e=>by subst e; simp at hb
   have:=ih (i+1) o;unfold hget at this;simp only;rw [this];by_cases h:i≤o
   ·rw [if_pos h,if_pos om];obtain ⟨k,hk⟩:∃k,o - i=k+1:=⟨o - i - 1,by omega⟩;rw [hk,show o - (i+1)=k by omega];rfl
   ·rw [if_neg h,if_neg om]
theorem afP (obs:List eP):hget (YI obs 0)=GD obs:=by
 funext o;rw [ah3];simp
variable {fO:List eP}
theorem ajX (hc:iE P cfg) {fn:Func} {m:Nat} {r:AV} {e:Exit} {s:St} (hm:m≤fO.length) (h:ajW cfg fn.results.toList m r fO e s):(e=.normal∨e=.ret)∧∀(cx:Ctx) (a':Act) (w':World) (I':Nat→Prop) (O':OM),cx.m=m→jB cfg fn.ntmps m cx s a' w' I' O'→
  ∃v,(results fn a'.tmps).run P w'=.ok v w'∧∃I'' O'',Rel cfg cx (GD fO) (λ o=>o<fO.length) w' I'' O''∧fA w' I'' O'' (λ o=>o<fO.length) r v:=by
 unfold ajW at h;have he:(e=.normal∨e=.ret):=by
  cases e with
  | normal=>exact .inl rfl
  | ret=>exact .inr rfl
  | _=>exact h.elim
 refine ⟨he,λ cx a' w' I' O' hcm hS=>?_⟩;have h:∃fz ρ,match abe fz s with
  | s'=>match KA cfg s' fn.results.toList with
   | some vs=>Emb m ρ s' ⟨[],YI fO 0,fO.length⟩∧mR ρ (YI fO 0) fuel (oneOf vs) r
   | none=>False:=by
  rcases he with rfl | rfl<;>exact h
 obtain ⟨fz,ρ,h⟩:=h;obtain ⟨I1,O1,hS1⟩:=WM fz hS;generalize abe fz s=s' at h hS1;simp only at h;cases hv:KA cfg s' fn.results.toList with
 | none=>rw [hv] at h; exact h.elim
 | some vs=>
  rw [hv] at h;obtain ⟨hE,hV⟩:=h;obtain ⟨x,hrun,hx⟩:=WL hc hS1 hv;have hS2:=Ih hS1 hE;refine ⟨x,hrun,I1,og ρ (YI fO 0) O1,?_,?_⟩
  ·have:=hS2.rel;rw [show hget (YI fO 0)=GD fO from afP fO] at this;exact this
  ·exact Ti hS1.rel.dom (agR hE.heap).x fuel _ _ x hx hV
theorem vS (hc:iE P cfg) {f:FuncId} {fn:Func} {c:Code} {ct:List Nat} {args:List AV} {obs:List eP} {r:AV} {fO:List eP} (hf:P.funcs[f]? = some fn) (hb:fn.body=some c) (hnm:(fn.name == "runtime.NumGoroutine")=false)
  (hN:args.length≤fn.ntmps) (hok:iW fn.ntmps c=true) (hle:obs.length≤fO.length)
  (h:kP cfg (Spec P cfg) ct (Loops P cfg fn.ntmps none obs.length) c ⟨KC args 0,JJ.pR obs 0,obs.length⟩ (ajW cfg fn.results.toList obs.length r fO)):Spec P cfg f args obs r fO:=
 aaq hc hf hb hnm hN hle (jl hc c _ _ hok h) (λ _ _ hk=>ajX hc hle hk)
end
end Go.Ab
namespace Go.Ab
section
variable {P:Program} {cfg:xE}
def aox:ZK→Value→Bool
 | .bool,.bool false=>true
 | .int k,.int k' n=>decide (k=k')&&decide (n=0)
 | .str,.string s=>s.data.isEmpty
 | .slice,.slice none 0 0=>true
 | .ptr,.pointer none=>true
 | .other,x=>x.oneCell'
 | _,_=>false
def agS:List ZK→List Value→Bool
 | [],[]=>true
 | z::l,v::m=>aox z v&&agS l m
 | _,_=>false
def aoy:TD→TypeDesc→Bool
 | .bool,.bool=>true
 | .int k,.int k'=>decide (k=k')
 | .str,.string=>true
 | .slice e,.slice e'=>Nat.beq e e'
 | .pointer e,.pointer e'=>Nat.beq e e'
 | .map k e,.map k' e'=>Nat.beq k k'&&Nat.beq e e'
 | .array n e,.array n' e'=>Nat.beq n n'&&Nat.beq e e'
 | .struct fs,.struct fields=>decide (fields.toList.map (λ f=>(f.offset,f.type))=fs)
 | .other,_=>true
 | _,_=>false
def fieldsB (P:Program):TypeDesc→Bool
 | .struct fields=>fields.toList.all λ f=>(P.info? f.type).isSome
 | _=>true
def agT (P:Program) (t:TypeId) (ti:RG):Bool:=
 match P.info? t,P.underlying t with
 | some i,some d=>match i.zero with
  | some z=>Nat.beq i.size ti.size&&Nat.beq i.bytes ti.bytes&&decide (d.isRow=ti.agg)&&Nat.beq z.cells.size ti.size&&agS ti.zero z.cells.toList&&aoy ti.desc d&&fieldsB P d&&(ti.agg||z.oneCell')
  | none=>false
 | _,_=>false
def ab8 (P:Program):List (Nat×RG)→Bool
 | []=>true
 | (t,ti)::l=>agT P t ti&&ab8 P l
theorem ah4 {z:ZK} {v:Value} (h:aox z v=true):MH z v:=by
 unfold aox at h;split at h
 ·rfl
 ·simp only [Bool.and_eq_true,decide_eq_true_eq] at h; obtain ⟨rfl,rfl⟩:=h; rfl
 ·rename_i s;show Value.string s=.string ByteArray.empty;have:s.data=#[]:=by simpa using h
  cases s;simp only at this;rw [this];rfl
 ·rfl
 ·rfl
 ·exact h
 ·cases h
theorem afQ:∀(zs:List ZK) (vs:List Value),agS zs vs=true→zs.length=vs.length∧∀j,j<zs.length→MH (zs.getD j .other) (vs.getD j Go.undef):=by
 intro zs;induction zs with
 | nil=>intro vs h; cases vs with
  | nil=>exact ⟨rfl,λ j hj=>by cases hj⟩
  | cons=>cases h
 | cons z zs ih=>intro vs h; cases vs with
  | nil=>cases h
  | cons v vs=>
   simp only [agS,Bool.and_eq_true] at h
   obtain ⟨h1,h2⟩:=ih vs h.2
   refine ⟨by simp [h1],λ j hj=>?_⟩
   cases j with
   | zero=>exact ah4 h.1
   | succ j=>simpa using h2 j (by simpa using hj)
theorem ah5 {t:TD} {d:TypeDesc} (h:aoy t d=true):ajb t d:=by
 unfold aoy at h;split at h
 ·rfl
 ·have:=of_decide_eq_true h; subst this; rfl
 ·rfl
 ·have:=Nat.eq_of_beq_eq_true h; subst this; rfl
 ·have:=Nat.eq_of_beq_eq_true h; subst this; rfl
 ·simp only [Bool.and_eq_true] at h; have h1:=Nat.eq_of_beq_eq_true h.1; have h2:=Nat.eq_of_beq_eq_true h.2; subst h1; subst h2; rfl
 ·simp only [Bool.and_eq_true] at h; have h1:=Nat.eq_of_beq_eq_true h.1; have h2:=Nat.eq_of_beq_eq_true h.2; subst h1; subst h2; rfl
 ·exact ⟨_,rfl,of_decide_eq_true h⟩
 ·trivial
 ·cases h
theorem ah6 {z:Value} (h:z.oneCell'=true):z.cells=#[z]:=by cases z<;>first | rfl | cases h
variable {t:TypeId}
theorem Y4 {ti:RG} (h:agT P t ti=true):ap0 P t ti∧∀d,P.underlying t=some d→Wy P d:=by
 unfold agT at h;split at h
 ·rename_i i d hi hd;split at h
  ·rename_i z hz;simp only [Bool.and_eq_true,decide_eq_true_eq] at h;obtain ⟨⟨⟨⟨⟨⟨⟨h1,h2⟩,h3⟩,h4⟩,h5⟩,h6⟩,h7⟩,h10⟩:=h;have e1:=Nat.eq_of_beq_eq_true h1;have e2:=Nat.eq_of_beq_eq_true h2;have e4:=Nat.eq_of_beq_eq_true h4;obtain ⟨h8,h9⟩:=afQ _ _ h5;have hlen:ti.zero.length=ti.size:=by rw [h8,← e4]; simp
   refine ⟨⟨⟨i,d,z,hi,hd,hz,e1,e2,h3,e4,hlen,λ j hj=>?_,ah5 h6⟩,λ ha i' z' hi' hz'=>?_⟩,λ d' hd'=>?_⟩
   ·have:=h9 j om;simpa using this
   ·rw [hi] at hi';cases hi';rw [hz] at hz';cases hz';rw [ha] at h10;exact ah6 h10
   ·rw [hd] at hd';cases hd';cases d with
    | struct fields=>
     simp only [fieldsB,List.all_eq_true] at h7;exact h7
    | _=>trivial
  ·cases h
 ·cases h
theorem WO:∀(l:List (Nat×RG)),ab8 P l=true→∀t ti,look l t=some ti→agT P t ti=true:=by
 intro l;induction l with
 | nil=>intro _ t ti h; cases h
 | cons q l ih=>
  intro h t ti hl;obtain ⟨k,tk⟩:=q;simp only [ab8,Bool.and_eq_true] at h;simp only [look] at hl;cases hb:Nat.beq k t with
  | true=>
   simp only [hb] at hl;cases hl;rw [← Nat.eq_of_beq_eq_true hb];exact h.1
  | false=>simp only [hb] at hl; exact ih h.2 t ti hl
def ajY (P:Program) (t:TypeId):Option ZK:=match P.underlying t with
 | some .bool=>some .bool
 | some (.int k)=>some (.int k)
 | some .string=>some .str
 | _=>none
def Y5 (P:Program) (fl:TypeId→Option (List ZK)):List Field→Nat→Option (List ZK)
 | [],_=>some []
 | f::fs,k=>match decide (f.name ≠ "_")&&Nat.beq f.offset k with
  | true=>match ajY P f.type with
   | some z=>match Y5 P fl fs (k+1) with
    | some l=>some (z::l)
    | none=>none
   | none=>match fl f.type with
    | some z1=>match Nat.beq (P.cellsOf f.type) z1.length,Y5 P fl fs (k+z1.length) with
     | true,some l=>some (z1++l)
     | _,_=>none
    | none=>none
  | false=>none
def agU (P:Program):Nat→TypeId→Option (List ZK)
 | 0,_=>none
 | n+1,t=>match P.underlying t,P.stoodInHeld t with
  | some (.struct fields),false=>Y5 P (agU P n) fields.toList 0
  | _,_=>none
def agV (P:Program) (t:TypeId) (zs:List ZK):Bool:=decide (agU P 4 t=some zs)&&!P.eqGuardType P.depth t
def ab9 (P:Program):List (Nat×List ZK)→Bool
 | []=>true
 | (t,zs)::l=>agV P t zs&&ab9 P l
theorem afR {z:ZK} (h:ajY P t=some z):∃d,P.underlying t=some d∧abO z d:=by
 unfold ajY at h;split at h
 ·rename_i e; cases h; exact ⟨_,e,rfl⟩
 ·rename_i e; cases h; exact ⟨_,e,rfl⟩
 ·rename_i e; cases h; exact ⟨_,e,rfl⟩
 ·cases h
theorem aec {fl:TypeId→Option (List ZK)} {ok:TypeId→List ZK→Prop} (hfl:∀t zs,fl t=some zs→ok t zs):∀(fs:List Field) (zs:List ZK) (k:Nat),Y5 P fl fs k=some zs→alQ P ok fs zs k:=by
 intro fs;induction fs with
 | nil=>intro zs k h; cases h; trivial
 | cons f fs ih=>
  intro zs k h;unfold Y5 at h;split at h
  ·rename_i hb;simp only [Bool.and_eq_true,decide_eq_true_eq] at hb;refine ⟨hb.1,Nat.eq_of_beq_eq_true hb.2,?_⟩;split at h
   ·rename_i z hz;split at h
    ·rename_i l hl;cases h;obtain ⟨d,h1,h2⟩:=afR hz;exact ⟨[z],l,rfl,.inl ⟨z,d,rfl,h1,h2⟩,ih _ _ hl⟩
    ·cases h
   ·split at h
    ·rename_i z1 hz1;split at h
     ·rename_i l hs hl;cases h;exact ⟨z1,l,rfl,.inr ⟨hfl _ _ hz1,Nat.eq_of_beq_eq_true hs⟩,ih _ _ hl⟩
     ·cases h
    ·cases h
  ·cases h
theorem afS:∀(n:Nat) (t:TypeId) (zs:List ZK),agU P n t=some zs→EqT P n t zs:=by
 intro n;induction n with
 | zero=>intro t zs h; cases h
 | succ n ih=>
  intro t zs h;unfold agU at h;split at h
  ·rename_i fields hu hh;exact ⟨fields,hu,hh,aec ih _ _ _ h⟩
  ·cases h
theorem afT {zs:List ZK} (h:agV P t zs=true):ap1 P t zs:=by
 unfold agV at h;simp only [Bool.and_eq_true,Bool.not_eq_true',decide_eq_true_eq] at h;exact ⟨afS _ _ _ h.1,h.2⟩
theorem aed:∀(l:List (Nat×List ZK)),ab9 P l=true→∀t zs,look l t=some zs→agV P t zs=true:=by
 intro l;induction l with
 | nil=>intro _ t ti h; cases h
 | cons q l ih=>
  intro h t ti hl;obtain ⟨k,tk⟩:=q;simp only [ab9,Bool.and_eq_true] at h;simp only [look] at hl;cases hb:Nat.beq k t with
  | true=>
   simp only [hb] at hl;cases hl;rw [← Nat.eq_of_beq_eq_true hb];exact h.1
  | false=>simp only [hb] at hl; exact ih h.2 t ti hl
theorem ajZ (h:ab8 P cfg.ty=true) (hm:P.follows .mixedOrders=true) (he:ab9 P cfg.eqs=true):iE P cfg where
 ty:=λ t ti hl=>(Y4 (WO _ h t ti hl)).1
 fields:=λ t ti d hl=>(Y4 (WO _ h t ti hl)).2 d
 mixed:=hm
 eqs:=λ t zs hl=>afT (aed _ he t zs hl)
theorem fG {c:Bool} {A B:Prop} (h1:c=true→A) (h2:c=false→B):YC c A B:=by
 cases c
 ·exact h2 rfl
 ·exact h1 rfl
end
end Go.Ab
namespace Go.Ab
theorem U1.agW {l m:List AV} (h1:l.length=m.length) (h2:∀j,j<l.length→Le (nth l j) (nth m j)):U1 l m:=by
 induction l generalizing m with
 | nil=>cases m with
  | nil=>trivial
  | cons=>simp at h1
 | cons u l ih=>cases m with
  | nil=>simp at h1
  | cons v m=>exact ⟨h2 0 (by simp),ih (by simpa using h1) λ j hj=>h2 (j+1) (by simpa using hj)⟩
variable {ρ:List (Nat×Option Nat)}
theorem agX {H':kN} {f:Nat} {u v:AV} (h:Le u v) (hp:qG v=true):mR ρ H' (f+1) u v:=by
 cases h with
 | refl=>
  cases u<;>simp only [qG] at hp<;>first
   | (cases hp; done)
   | (unfold mR; exact trivial)
   | (unfold mR; exact rfl)
   | (unfold mR; exact ⟨rfl,rfl⟩)
   | (unfold mR; exact ⟨rfl,λ _=>rfl,λ h=>h,λ i _=>.refl _⟩)
   | (unfold mR; exact U1.refl _)
   | (unfold mR; exact ⟨rfl,rfl,rfl⟩)
 | sl hn he hf h=>unfold mR; exact ⟨hn,he,hf,h⟩
 | ro hl h=>unfold mR; exact U1.agW hl h
 | agg=>cases hp
 | jQ=>cases hp
 | fn=>cases hp
theorem amj {H':kN}:∀(l m:List AV) (f:Nat),l.length+1<f→U1 l m→zF m=true→mR.SN ρ H' f l m:=by
 intro l;induction l with
 | nil=>
  intro m f hf h _;cases m with
  | nil=>cases f with
   | zero=>omega
   | succ f=>unfold mR.SN; trivial
  | cons=>exact h.elim
 | cons u l ih=>
  intro m f hf h hp;cases m with
  | nil=>exact h.elim
  | cons v m=>
   cases f with
   | zero=>omega
   | succ f=>
    cases f with
    | zero=>simp at hf
    | succ f=>
     unfold zF at hp;split at hp
     ·rename_i hv;unfold mR.SN;exact ⟨agX h.1 hv,ih m (f+1) (by simp at hf; omega) h.2 hp⟩
     ·cases hp
abbrev iV (n:Int):AV:=.int .i64 n
def bC {α:Type} (f:α→AV) (d:α) (l:List α):Nat→AV:=λ i=>f (l.getD i d)
def aj0 (l:List Int):AV:=.sl 1 l.length false (bC iV 0 l)
def I64 (l:List Int):Prop:=∀x∈l,aD x
theorem I64.get {l:List Int} (h:I64 l) (i:Nat):aD (l.getD i 0):=by
 rw [List.getD_eq_getElem?_getD];cases hi:l[i]? with
 | none=>exact ⟨by decide,by decide⟩
 | some x=>exact h x (List.mem_of_getElem? hi)
structure Tp where
 l:List Int
 pos:Nat
def Tp.ok (t:Tp):Prop:=I64 t.l∧t.l.length≤500∧t.pos≤t.l.length
def Tp.raw (t:Tp):Int×Tp:=if t.l.length≤t.pos then (0,t) else (t.l.getD t.pos 0,⟨t.l,t.pos+1⟩)
def asj (x n:Int):Int:=if n<1 then 0 else x % n
def Tp.n (t:Tp) (n:Int):Int×Tp:=(asj t.raw.1 n,t.raw.2)
def Tp.range (t:Tp) (lo hi:Int):Int×Tp:=(lo+(t.n (hi - lo+1)).1,(t.n (hi - lo+1)).2)
def Tp.pick (t:Tp) (l:List Int):Int×Tp:=(l.getD (t.n l.length).1.toNat 0,(t.n l.length).2)
variable {α:Type} {i:Nat}
theorem drop_cons {l:List α} (d:α) (h:i<l.length):l.drop i=l.getD i d::l.drop (i+1):=by
 rw [List.getD_eq_getElem?_getD,List.getElem?_eq_getElem h];exact List.drop_eq_getElem_cons h
theorem getD_take (l:List α) (d:α) {k:Nat} (h:i<k):(l.take k).getD i d=l.getD i d:=by
 rw [List.getD_eq_getElem?_getD,List.getD_eq_getElem?_getD,List.getElem?_take_of_lt h]
theorem getD_drop (l:List α) (d:α) (k i:Nat):(l.drop k).getD i d=l.getD (k+i) d:=by
 rw [List.getD_eq_getElem?_getD,List.getD_eq_getElem?_getD,List.getElem?_drop]
theorem iK {l:List α} (d:α) (h:i<l.length):l.take (i+1)=l.take i++[l.getD i d]:=by
 rw [List.getD_eq_getElem?_getD,List.getElem?_eq_getElem h];exact List.take_succ_eq_append_getElem h
theorem vT {β:Type} (f:β→α→β) (a:β) {l:List α} (d:α) (h:i<l.length):(l.take (i+1)).foldl f a=f ((l.take i).foldl f a) (l.getD i d):=by
 rw [iK d h,List.foldl_append];rfl
theorem jC {l:List α} (d:α) (h:i<l.length):l.getD i d∈l:=by
 rw [List.getD_eq_getElem?_getD,List.getElem?_eq_getElem h];exact List.getElem_mem _
theorem take_len {l:List α} (h:i≤l.length):(l.take i).length=i:=by
 rw [List.length_take,Nat.min_eq_left h]
theorem mG {l m:List α} (d:α) (h:i<l.length):(l++m).getD i d=l.getD i d:=by
 rw [List.getD_eq_getElem?_getD,List.getD_eq_getElem?_getD,List.getElem?_append_left h]
theorem lM {l:List α} {x:α} {m:List α} (d:α) (h:i=l.length):(l++x::m).getD i d=x:=by
 rw [List.getD_eq_getElem?_getD,List.getElem?_append_right om,h];simp
theorem Y6 {l:List α} (d:α) (h:l.length≤i):l.getD i d=d:=by
 rw [List.getD_eq_getElem?_getD,List.getElem?_eq_none h];rfl
section
variable {P:Program} {cfg:xE} {N:Nat} {cx:Ctx}
theorem aee {r:Option Nat} {n n':Nat} {c:Code} {Q:Exit→Act→World→Prop} {a:Act} {w:World} (h:c.wpIn (FW r) n P Q a w):c.wpIn (FW r) n' P Q a w:=
 λ b k cs hro hb _=>h b k cs hro hb (λ _ hd=>by cases hd)
def Pq (W:World) (I:Nat→Prop) (O:OM) (m:Nat):Ctx:=⟨W,λ b=>∃o p bo sz,O o=some p∧p.pl=some (b,bo,sz),I,O,m,λ k o=>W.heap[k]? = some o∧Pj o=true,true⟩
variable {H:Nat→Option eP} {D:Nat→Prop} {W:World} {I:Nat→Prop} {m:Nat}
theorem Rel.enter {O:OM} (hR:Rel cfg cx H D W I O) (hno:∀o kd z f,H o≠some (.map kd z f)) (hm:∀o,o<m→D o):Rel cfg (Pq W I O m) H D W I O where
 dom:=hR.dom
 used:=hR.used
 objs:=hR.objs
 inj:=hR.inj
 qH:=hR.qH
 lt:=hR.lt
 Bz:=hR.Bz
 size:=Nat.le_refl _
 frame:=λ _ _ _=>rfl
 new:=λ o p _ bo sz h1 h2=>.inr ⟨o,p,bo,sz,h1,h2⟩
 glob:=hR.glob
 SG:=λ _ h=>h
 U4:=λ _ h=>.inl h
 Yf:=λ _ _=>.inl rfl
 Dm:=hm
 env:=⟨iG.refl _,λ _ _ h=>h⟩
variable {H':Nat→Option eP} {D':Nat→Prop} {W':World} {I':Nat→Prop}
theorem Rel.back {O O':OM} (h0:Rel cfg cx H D W I O) (h1:Rel cfg (Pq W I O m) H' D' W' I' O') (hm:∀o,o<cx.m→o<m):Rel cfg cx H' D' W' I' O' where
 dom:=h1.dom
 used:=h1.used
 objs:=h1.objs
 inj:=h1.inj
 qH:=h1.qH
 lt:=h1.lt
 Bz:=h1.Bz
 size:=Nat.le_trans h0.size h1.size
 frame:=λ b hb hM=>by
  rw [h1.frame b (Nat.lt_of_lt_of_le hb h0.size) (λ ⟨o,p,bo,sz,q1,q2⟩=>by
   rcases h0.new o p b bo sz q1 q2 with h | h
   ·omega
   ·exact hM h)]
  exact h0.frame b hb hM
 new:=λ o p b bo sz q1 q2=>by
  rcases h1.new o p b bo sz q1 q2 with h | ⟨o',p',o8,sz',q3,q4⟩
  ·exact .inl (Nat.le_trans h0.size h)
  ·exact h0.new o' p' b o8 sz' q3 q4
 glob:=h1.glob
 SG:=λ b h=>h1.SG b (h0.SG b h)
 U4:=λ b h=>by
  rcases h1.U4 b h with h | h | ⟨o',p',o8,sz',q3,q4⟩
  ·exact h0.U4 b h
  ·exact .inr (.inl (Nat.le_trans h0.size h))
  ·exact .inr (h0.new o' p' b o8 sz' q3 q4)
 Yf:=λ o ho=>by
  rcases h1.Yf o (hm o ho) with h | h
  ·rw [h]; exact h0.Yf o ho
  ·exact .inr h
 Dm:=λ o ho=>h1.Dm o (hm o ho)
 env:=h0.env.step h1.env.same
theorem Rel.afU {O O':OM} (h0:Rel cfg cx H D W I O) (h1:Rel cfg (Pq W I O m) H' D' W' I' O') (b:Nat) (hb:I b):W'.heap[b]? = W.heap[b]? :=
 h1.frame b (h0.Bz b hb) (λ ⟨o,p,bo,sz,q1,q2⟩=>h0.qH o p b bo sz q1 q2 hb)
theorem fA.behind {O O':OM} (h0:Rel cfg cx H (λ o=>o<m) W I O) (h1:Rel cfg (Pq W I O m) H' D' W' I' O') {v:AV} {x:Value} (h:fA W I O (λ o=>o<m) v x):fA W' I' O' D' v x:=
 h.mono h1.SG (h0.afU h1) h1.Yf h1.Dm h0.used
theorem KG (w:World) (o:Obj):tY (w.alloc o) w:=by
 have hlt:∀a:Addr,(w.cell? a).isSome=true→a.block<w.heap.size:=λ a h=>by
  obtain ⟨v,hv⟩:=Option.isSome_iff_exists.1 h;exact World.block_lt_of_cell? _ _ hv
 have hb:∀a:Addr,a.block<w.heap.size→(w.alloc o).heap[a.block]? = w.heap[a.block]? := λ a h=>by
  show (w.heap.push o)[a.block]? = _;rw [Array.getElem?_push_lt h,Array.getElem?_eq_getElem h]
 refine ⟨λ a v hv=>?_,λ a hv=>?_,by simp,λ b es c hbb=>by
  have hlt2:b<w.heap.size:=by
   rcases Nat.lt_or_ge b w.heap.size with h1 | h1
   ·exact h1
   ·rw [Array.getElem?_eq_none h1] at hbb; cases hbb
  show (w.heap.push o)[b]? = _;rw [Array.getElem?_push_lt hlt2,← hbb,Array.getElem?_eq_getElem hlt2]⟩
 ·rw [← hv,World.cell?_of_block (hb a (hlt a (by rw [hv]; rfl)))]
 ·exact World.frozen?_of_block (hb a (hlt a hv))
def RQ:kN→Bool
 | []=>true
 | (_,x)::l=>match x with
  | some (.map ..)=>false
  | _=>RQ l
theorem WQ:∀ {H:kN},RQ H=true→∀o kd z f,hget H o≠some (.map kd z f):=by
 intro H;induction H with
 | nil=>intro _ o kd z f h; cases h
 | cons u l ih=>
  intro h o kd z f;obtain ⟨q,x⟩:=u;unfold RQ at h;unfold hget look;split at h
  ·cases h
  ·rename_i hx;cases hb:Nat.beq q o with
   | true=>
    simp only;cases x with
    | none=>intro h; cases h
    | some x=>
     intro h;cases h;exact hx kd z f rfl
   | false=>simp only; exact ih h o kd z f
def Y7 (P:Program) (gf:FuncId) (caps:List AV) (len:Nat) (e0 e1:Nat→AV):Prop:=
 (∀args w,(callFunc gf args).run P w=.ok (.enter gf args) w)∧
 ∀(w:World) (I:Nat→Prop) (lb:Array Value),(∀b,I b→b<w.heap.size)→lb.size=caps.length→(∀j,j<caps.length→iF w I (nth caps j) (lb.getD j Go.undef))→
  ∃v0 v1:Nat→Value,(∀k,k<len→iF w I (e0 k) (v0 k)∧iF w I (e1 k) (v1 k))∧
   ∀(l n:Nat) (J:Nat→World→Prop) (Jx:World→Prop) (W:World),(∀b,I b→W.heap[b]? = w.heap[b]?)→
    (∀k W1,k<len→J k W1→YieldAt (FW none) n P l #[v0 k,v1 k] W1 λ e W'=>(e=.returned (.bool true)∧J (k+1) W'∧∀b,I b→W'.heap[b]? = W1.heap[b]?)∨(e=.returned (.bool false)∧Jx W'))→
    J 0 W→CallsIn (FW none) n P gf (#[.func (.yield l) #[] #[]]++lb) W λ e W'=>(∃v,e=.returned v)∧(J len W'∨Jx W')
theorem asl {β:Type} (p0 p1:α) (v0 v1:β):(#[p0,p1]:Array α).zip #[v0,v1]=#[(p0,v0),(p1,v1)]:=by
 apply Array.toList_inj.1;simp
theorem Dz (t:Nat):jf (λ _=>true) (some t) true=λ _=>true:=by
 funext k;unfold jf;simp
theorem ah7 (hc:iE P cfg) {m:Nat} {ct ct':List Nat} {g:Operand} {p0 p1:Nat} {assign body:Code} {s:St} {K:Exit→St→Prop} (afV:iW N assign=true) (aoA:iW N body=true) (hp0:p0<N) (hp1:p1<N)
  {gf:FuncId} {caps:List AV} {len:Nat} {e0 e1:Nat→AV} (hit:Y7 P gf caps len e0 e1) (hg:Yc cfg (iD s.tmps) g=.fn gf caps) (aj1:∀v∈caps,∃cs,v=.ro cs)
  {α:Type} (st:α→St) (st1:Nat→α→St) (hnm:∀k gx,RQ (st gx).heap=true∧RQ (st1 k gx).heap=true) (x0:α) (ρ0:List (Nat×Option Nat)) (h0:Emb m ρ0 s (st x0)) (inv:Nat→α→Prop) (hi0:inv 0 x0)
  (ha:∀k l gx,k<len→inv k gx→m≤(st gx).nx∧kP cfg (Spec P cfg) ct (Loops P cfg N (some l) (st gx).nx) assign ⟨(p1,e1 k)::(p0,e0 k)::(st gx).tmps,(st gx).heap,(st gx).nx⟩ (λ e s'=>match e with | .normal=>∃ρ,Emb (st gx).nx ρ s' (st1 k gx) | _=>False))
  (hb:∀k l gx,k<len→inv k gx→kP cfg (Spec P cfg) ct' (Loops P cfg N (some l) (st1 k gx).nx) body (st1 k gx) (λ e s'=>match e with | .normal=>∃x' ρ,inv (k+1) x'∧Emb m ρ ⟨(st gx).tmps,s'.heap,s'.nx⟩ (st x') | .ret=>K .ret ⟨(st gx).tmps,s'.heap,s'.nx⟩ | _=>False))
  (hK:∀gx,inv len gx→K .normal (st gx)):Loops P cfg N none m (.rangeFunc g #[p0,p1] assign body) s K:=by
 refine ⟨λ n cx0 a w I O hS0 hrd=>aee (n:=3) ?_⟩;obtain ⟨ms,hnd,_,hds,hms⟩:=hS0.marks;obtain ⟨cx,hcx⟩:∃cx,cx=cx0.also ms:=⟨_,rfl⟩;have hcw:cx.w0=cx0.w0:=by rw [hcx]; rfl
 have hcm:cx.m=cx0.m:=by rw [hcx]; rfl
 have hR0:Rel cfg cx (hget s.heap) (λ o=>o<s.nx) w I O:=by rw [hcx]; exact hS0.rel.also (λ D hD=>(hms D hD).2)
 obtain ⟨lb,hgv,hlb,hlr⟩:=(hg ▸ wH hS0.rel hS0.tmps g (λ _ _=>rfl)).MI;have hcp:∀j,j<caps.length→iF w I (nth caps j) (lb.getD j Go.undef):=λ j hj=>by
  have hmem:nth caps j∈caps:=by rw [vR]; rw [List.getD_eq_getElem?_getD,List.getElem?_eq_getElem hj]; exact List.getElem_mem _
  obtain ⟨cs,hcs⟩:=aj1 _ hmem;have:=hlr j hj;rw [hcs] at this ⊢;cases this with
  | pure h=>exact h
 obtain ⟨v0,v1,hel,hrun⟩:=hit.2 w I lb hR0.Bz hlb hcp;refine wpIn_rangeFunc ?_;intro fn hfn;obtain ⟨rc,hrc⟩:∃rc:LoopState→Option Code→Loop,rc=λ st pe=>{ state:=st,pending:=pe,fn,tmps:=a.tmps,params:=#[p0,p1],assign,body,defers:=w.heap.size }:=⟨_,rfl⟩;obtain ⟨W1,hW1⟩:∃W1,W1=(w.alloc (.deferred (some []))).alloc (.loop (rc .ready none)):=⟨_,rfl⟩;have hsz1:W1.heap.size=w.heap.size+2:=by rw [hW1]; simp
 have hD1:W1.heap[w.heap.size]? = some (.deferred (some [])):=by
  rw [hW1];show ((w.heap.push _).push _)[w.heap.size]? = _;have hp:(w.heap.push (Obj.deferred (some []))).size=w.heap.size+1:=Array.size_push _;rw [Array.getElem?_push,if_neg om,Array.getElem?_push_size]
 have hL1:W1.heap[w.heap.size+1]? = some (.loop (rc .ready none)):=by
  have:=World.alloc_heap_new (w.alloc (.deferred (some []))) (.loop (rc .ready none));rw [World.size_alloc] at this;rw [hW1];exact this
 have aj2:∀b,b<w.heap.size→W1.heap[b]? = w.heap[b]? := λ b hb=>by
  rw [hW1];show ((w.heap.push _).push _)[b]? = _;rw [Array.getElem?_push_lt (by simp; omega),Array.getElem_push_lt hb,Array.getElem?_eq_getElem hb]
 have amk:tY W1 w:=by
  rw [hW1];have q1:=KG w (.deferred (some []));have q2:=KG (w.alloc (.deferred (some []))) (.loop (rc .ready none));exact ⟨λ x v h=>q2.cell x v (q1.cell x v h),λ x h=>by
   rw [q2.frozen x (by obtain ⟨v,hv⟩:=Option.isSome_iff_exists.1 h; rw [q1.cell x v hv]; rfl),q1.frozen x h],Nat.le_trans q1.size q2.size,λ b es c h=>q2.maps b es c (q1.maps b es c h)⟩
 have aqs:H6 cx W1:=by
  rw [hW1];exact (hR0.env.step (iG.alloc _ _)).step (iG.alloc _ _)
 have asn:∀k o,cx.K k o→k<w.heap.size:=λ k o h=>by
  have:=(hR0.env.kept k o h).1;rcases Nat.lt_or_ge k w.heap.size with h1 | h1
  ·exact h1
  ·rw [Array.getElem?_eq_none h1] at this; cases this
 have hw0:cx.w0.heap.size≤w.heap.size:=hR0.size;have aj3:∀(W:World) (k:Nat) (o:Obj),w.heap.size≤k→H6 cx W→H6 cx (W.putObj k o):=λ W k o hk he=>by
  refine ⟨⟨he.same.os,he.same.tape,he.same.output,λ i x hi hx=>?_⟩,λ i x hi=>?_⟩
  ·have hlt:i<cx.w0.heap.size:=by
    rcases Nat.lt_or_ge i cx.w0.heap.size with h1 | h1
    ·exact h1
    ·rw [Array.getElem?_eq_none h1] at hi; cases hi
   rw [World.putObj_heap_other om];exact he.same.keep i x hi hx
  ·rw [World.putObj_heap_other (by have:=asn i x hi; omega)];exact he.kept i x hi
 have Yl:∀(W:World),Marks cx W ([]:List Deferred):=λ W=>⟨[],List.nodup_nil,λ _=>rfl,rfl,λ _ h=>by cases h⟩
 have hS1:jB cfg N m cx s ⟨a.tmps,[]⟩ w I O:=⟨hcm.trans hS0.m,hR0,⟨rfl,hS0.tmps.size,hS0.tmps.rep,hS0.tmps.gone⟩,Yl w⟩;have hS2:=Ih hS1 h0;have acd:∀ {s':St} {W:World} {I':Nat→Prop} {O':OM} {o:Obj} (o':Obj),W.heap[w.heap.size+1]? = some o→Pj o=true∧(∀es c,o≠.map es c)→jB cfg N m cx s' ⟨a.tmps,[]⟩ W I' O'→jB cfg N m cx s' ⟨a.tmps,[]⟩ (W.putObj (w.heap.size+1) o') I' O':=λ o' ho hn hS=>
  hS.turn (GI ho hn.1 hn.2) (λ b hb=>World.putObj_heap_other om) (aj3 _ _ _ om hS.rel.env) rfl (Yl _)
 refine ⟨w.heap.size+1,[Y0 w.heap.size],W1,{ target:=.fn (.func gf) lb,args:=#[.func (.yield (w.heap.size+1)) #[] #[]] },W1,gf,#[.func (.yield (w.heap.size+1)) #[] #[]]++lb,W1,?_,?_,λ _ _=>trivial,?_,(λ h=>by cases h),?_⟩
 ·rw [hW1,hrc]; exact run_enterLoop_outer _ _ _ _ _
 ·simp only [resolve,hgv];simp [go_sem]
 ·simp [invoke,go_sem,hit.1]
 refine (hrun (w.heap.size+1) (3 - 1)
  (λ k W=>∃gx,inv k gx∧∃I1 O1,jB cfg N m cx (st gx) ⟨a.tmps,[]⟩ W I1 O1∧(∀b,I b→I1 b)∧(∀b,I b→W.heap[b]? = w.heap[b]?)∧W.heap[w.heap.size+1]? = some (.loop (rc .ready none))∧W.heap[w.heap.size]? = some (.deferred (some [])))
  (λ W=>∃s' I1 O1,K .ret s'∧jB cfg N m cx s' ⟨a.tmps,[]⟩ W I1 O1∧W.heap[w.heap.size+1]? = some (.loop (rc .done (some .ret)))∧W.heap[w.heap.size]? = some (.deferred (some [])))
  W1 (λ b hb=>aj2 b (hR0.Bz b hb)) ?_ ?_).mono ?_
 ·rintro k W hk ⟨gx,hiv,I1,O1,hS,hII,hkeep,hl,hD⟩;have hlW:w.heap.size+1<W.heap.size:=(Array.getElem?_eq_some_iff.1 hl).1;have hy:=run_yield (P:=P) (args:=#[v0 k,v1 k]) hl (by rw [hrc]; rfl);rw [hrc] at hy;refine ⟨fn,_,assign,body,hy,roundIn_of_wpIn hfn ?_⟩;clear hy;obtain ⟨hnx,hxa⟩:=ha k (w.heap.size+1) gx hk hiv;have hmx:∀o,o<cx.m→o<(st gx).nx:=λ o ho=>Nat.lt_of_lt_of_le (by rw [hS.m] at ho; exact ho) hnx;have hRr:=hS.rel.enter (WQ (hnm k gx).1) (m:=(st gx).nx) (λ _ h=>h);have hwI:∀b,I b→W.heap[b]? = w.heap[b]? := hkeep;obtain ⟨he0,he1⟩:=hel k hk;have hpe:∀ {v:AV} {x:Value},iF w I v x→fA W I1 O1 (λ o=>o<(st gx).nx) v x:=λ h=>.pure (h.mono hII hwI);have hT1:=AB.put hS.tmps (λ _ _ h=>h) (some p0) (λ _ h=>by cases h; exact hp0) (e0 k) (v0 k) true (λ _=>hpe he0) (λ h=>by cases h);have hT2:=AB.put hT1 (λ _ _ h=>h) (some p1) (λ _ h=>by cases h; exact hp1) (e1 k) (v1 k) true (λ _=>hpe he1) (λ h=>by cases h);rw [Dz,Dz,← nZ,← nZ] at hT2;have hSa:jB cfg N (st gx).nx (Pq W I1 O1 (st gx).nx) ⟨(p1,e1 k)::(p0,e0 k)::(st gx).tmps,(st gx).heap,(st gx).nx⟩ { tmps:=(a.tmps.setIfInBounds p0 (v0 k)).setIfInBounds p1 (v1 k),defers:=[] } W I1 O1:=
   ⟨rfl,hRr,hT2,⟨[],List.nodup_nil,λ _=>rfl,rfl,λ _ h=>by cases h⟩⟩
  have hga:=jl hc assign _ _ afV hxa (3 - 1) _ _ W I1 O1 hSa rfl;have htm:((#[p0,p1]:Array Tmp).zip #[v0 k,v1 k]).foldl (λ tmps (t,a)=>tmps.setIfInBounds t a) a.tmps=(a.tmps.setIfInBounds p0 (v0 k)).setIfInBounds p1 (v1 k):=by rw [asl]; rfl
  refine wpIn_mono (htm ▸ hga) ?_;rintro e a2 W2 ⟨s2,I2,O2,hk2,hSb⟩;cases e with
  | normal=>
   obtain ⟨ρ,hE⟩:=hk2;have hSc:=Ih hSb hE;have hRc:=hS.rel.back hSc.rel hmx;have hl2:=(hSc.rel.env.kept _ _ ⟨hl,rfl⟩).1;have hD2:=(hSc.rel.env.kept _ _ ⟨hD,rfl⟩).1;have asq:=λ b hb=>hS.rel.afU hSc.rel b (hII b hb);refine ⟨_,run_beginRound hl2 (by rw [hrc]),?_⟩;have asr:w.heap.size+1<W2.heap.size:=(Array.getElem?_eq_some_iff.1 hl2).1;obtain ⟨W3,hW3⟩:∃W3,W3=W2.putObj (w.heap.size+1) (.loop { rc .ready none with state:=.busy }):=⟨_,rfl⟩;rw [← hW3];have hl3:W3.heap[w.heap.size+1]? = some (.loop { rc .ready none with state:=.busy }):=by rw [hW3]; exact World.putObj_heap_same asr
   have hD3:W3.heap[w.heap.size]? = some (.deferred (some [])):=by rw [hW3]; exact (World.putObj_heap_other om).trans hD2
   have aoB:tY W3 W2:=by rw [hW3]; exact GI hl2 rfl
   have hR3:Rel cfg cx (hget (st1 k gx).heap) (λ o=>o<(st1 k gx).nx) W3 I2 (og ρ (st1 k gx).heap O2):=hRc.turn aoB (λ b hb=>by rw [hW3]; exact World.putObj_heap_other om) (by rw [hW3]; exact aj3 _ _ _ om hRc.env);have hnx1:(st gx).nx≤(st1 k gx).nx:=by
    have:=hE.JC;unfold afg at this;split at this
    ·exact Nat.le_of_ble_eq_true this
    ·cases this
   have hT0:∀t,fA W3 I2 (og ρ (st1 k gx).heap O2) (λ o=>o<(st1 k gx).nx) (iD (st gx).tmps t) (a.tmps.getD t Go.undef):=λ t=>(fA.behind hS.rel hSc.rel (hS.tmps.rep t rfl)).turn aoB;have hRd:=hR3.enter (WQ (hnm k gx).2) (m:=(st1 k gx).nx) (λ _ ho=>ho);have hSd:jB cfg N (st1 k gx).nx (Pq W3 I2 (og ρ (st1 k gx).heap O2) (st1 k gx).nx) (st1 k gx) a2 W3 I2 (og ρ (st1 k gx).heap O2):=by
    refine ⟨rfl,hRd,⟨rfl,hSc.tmps.size,λ t ht=>(hSc.tmps.rep t ht).turn aoB,λ t ht=>by cases ht⟩,?_⟩;have:a2.defers=[]:=by
     obtain ⟨ms2,_,h1,h2,_⟩:=hSc.marks;rw [h1 rfl] at h2;exact h2
    rw [this];exact ⟨[],List.nodup_nil,λ _=>rfl,rfl,λ _ h=>by cases h⟩
   have hgb:=jl hc body _ _ aoA (hb k (w.heap.size+1) gx hk hiv) (3 - 1) _ _ W3 I2 _ hSd rfl;refine wpIn_mono hgb ?_;rintro e a4 W4 ⟨s4,I4,O4,hk4,hSe⟩;have hRe:=hR3.back hSe.rel (λ o ho=>Nat.lt_of_lt_of_le (hmx o ho) hnx1);have hl4:=(hSe.rel.env.kept _ _ ⟨hl3,rfl⟩).1;have hD4:=(hSe.rel.env.kept _ _ ⟨hD3,rfl⟩).1;have aqt:w.heap.size+1<W4.heap.size:=(Array.getElem?_eq_some_iff.1 hl4).1;have aqu:∀b,I b→I2 b:=λ b hb=>hSc.rel.SG b (hII b hb);have aqv:∀b,I b→W4.heap[b]? = W.heap[b]? := λ b hb=>by
    have hbl:=hR0.Bz b hb;rw [hR3.afU hSe.rel b (aqu b hb),hW3,World.putObj_heap_other om];exact asq b hb
   have hT4:jB cfg N m cx ⟨(st gx).tmps,s4.heap,s4.nx⟩ ⟨a.tmps,[]⟩ W4 I4 O4:=
    ⟨hS.m,hRe,⟨rfl,hS.tmps.size,λ t _=>fA.behind hR3 hSe.rel (hT0 t),λ t ht=>by cases ht⟩,Yl _⟩
   cases e with
   | normal=>
    obtain ⟨x4,ρ4,asu,hE4⟩:=hk4;have hSf:=Ih hT4 hE4;refine ⟨_,_,run_endRound none hl4,.inl ⟨rfl,⟨x4,asu,I4,_,acd _ hl4 ⟨rfl,nofun⟩ hSf,λ b hb=>hSe.rel.SG b (aqu b hb),λ b hb=>?_,?_,?_⟩,λ b hb=>?_⟩⟩
    ·have hbl:=hR0.Bz b hb;rw [World.putObj_heap_other om,aqv b hb];exact hkeep b hb
    ·rw [World.putObj_heap_same aqt,hrc]; rfl
    ·rw [World.putObj_heap_other om]; exact hD4
    ·have hbl:=hR0.Bz b hb;rw [World.putObj_heap_other om];exact aqv b hb
   | ret=>
    refine ⟨_,_,run_endRound (some .ret) hl4,.inr ⟨rfl,_,I4,O4,hk4,acd _ hl4 ⟨rfl,nofun⟩ hT4,?_,?_⟩⟩
    ·rw [World.putObj_heap_same aqt,hrc]; rfl
    ·rw [World.putObj_heap_other om]; exact hD4
   | exit id=>exact hk4.elim
   | goto t=>exact hk4.elim
   | panic ch=>exact hk4.elim
   | outgrown=>exact hk4.elim
  | ret=>exact hk2.elim
  | exit id=>exact hk2.elim
  | goto t=>exact hk2.elim
  | panic ch=>exact hk2.elim
  | outgrown=>exact hk2.elim
 ·exact ⟨x0,hi0,I,_,hS2.turn amk (λ b hb=>aj2 b om) aqs rfl (Yl _),λ _ h=>h,λ b hb=>aj2 b (hR0.Bz b hb),hL1,hD1⟩
 ·have fin:∀ {s':St} {W:World} {I':Nat→Prop} {O':OM} {o:Obj} (o':Obj),W.heap[w.heap.size+1]? = some o→Pj o=true∧(∀es c,o≠.map es c)→W.heap[w.heap.size]? = some (.deferred (some []))→jB cfg N m cx s' ⟨a.tmps,[]⟩ W I' O'→
    jB cfg N m cx0 s' { a with defers:=Y0 w.heap.size::a.defers } (W.putObj (w.heap.size+1) o') I' O':=by
   intro s' W I' O' o o' ho hn hD hS
   have hS':=acd o' ho hn hS
   have hRx:=hS'.rel
   rw [hcx] at hRx
   obtain ⟨hRy,hmy⟩:=hRx.ajN
   refine ⟨hS0.m,hRy,⟨rfl,hS'.tmps.size,hS'.tmps.rep,hS'.tmps.gone⟩,⟨w.heap.size::ms,?_,(λ h=>by rw [hrd] at h; cases h),?_,λ D hDm=>?_⟩⟩
   ·refine List.nodup_cons.2 ⟨λ hin=>?_,hnd⟩
    have:=(hms _ hin).2
    rw [Array.getElem?_eq_none (Nat.le_refl _)] at this
    cases this
   ·show Y0 w.heap.size::a.defers=_
    rw [hds]
    rfl
   ·rcases List.mem_cons.1 hDm with rfl | hDm
    ·exact ⟨by rw [← hcw]; exact hw0,(World.putObj_heap_other om).trans hD⟩
    ·exact ⟨(hms D hDm).1,hmy D hDm⟩
  rintro e W2 ⟨⟨v,rfl⟩,⟨gx,hiv,I2,O2,aoC,_,_,hl2,hD2⟩ | ⟨s2,I2,O2,hk2,aoC,hl2,hD2⟩⟩
  ·exact ⟨none,_,by have:=run_endLoop (P:=P) hl2 (by rw [hrc]; simp); rw [hrc] at this; exact this,st gx,I2,O2,hK gx hiv,fin _ hl2 ⟨rfl,nofun⟩ hD2 aoC⟩
  ·exact ⟨some .ret,_,by have:=run_endLoop (P:=P) hl2 (by rw [hrc]; simp); rw [hrc] at this; exact this,wpIn_ret ⟨s2,I2,O2,hk2,fin _ hl2 ⟨rfl,nofun⟩ hD2 aoC⟩⟩
end
end Go.Ab
namespace Go.Ab
inductive M:Type→Type 1 where
 | ret {R:Type} (v:R):M R
 | need {R:Type} (p:Prop) (d:Decidable p) (m:M R):M R
 | grd {R:Type} (p:Prop) (d:Decidable p) (m:M R) (z:R):M R
 | bnd {A R:Type} (m:M A) (k:A→M R):M R
 | sup {R:Type} (f:Nat→M R):M R
 | bot {R:Type}:M R
def M.den:{R:Type}→M R→R→Prop
 | _,.ret v,r=>r=v
 | _,.need p _ m,r=>p∧den m r
 | _,.grd p _ m _,r=>p→den m r
 | _,.bnd m k,r=>∃v,den m v∧den (k v) r
 | _,.sup f,r=>∃n,den (f n) r
 | _,.bot,_=>False
instance {R:Type}:CoeFun (M R) λ _=>R→Prop:=⟨M.den⟩
instance {x:Int}:Decidable (aD x):=by unfold aD; infer_instance
def need {R:Type} (p:Prop) [d:Decidable p] (m:M R):M R:=.need p d m
def grd {R:Type} [Inhabited R] (p:Prop) [d:Decidable p] (m:M R):M R:=.grd p d m default
def bnd {A R:Type} (m:M A) (k:A→M R):M R:=.bnd m k
def ret {R:Type} (v:R):M R:=.ret v
def itM {σ R:Type} (F:(σ→M R)→σ→M R):Nat→σ→M R
 | 0=>λ _=>.bot
 | n+1=>F (itM F n)
def dF {σ R:Type} (F:(σ→M R)→σ→M R) (s:σ):M R:=.sup λ n=>itM F n s
noncomputable def M.ex (n:Nat) {R:Type} (m:M R):Option R:=
 @M.rec (λ R _=>Option R) (λ v=>some v) (λ _ d _ ih=>match d with | .isTrue _=>ih | .isFalse _=>none) (λ _ d _ z ih=>match d with | .isTrue _=>ih | .isFalse _=>some z)
  (λ _ _ ih ihk=>match ih with | some v=>ihk v | none=>none) (λ _ ih=>ih n) none R m
variable {R:Type}
theorem M.aoD (n:Nat) (m:M R):∀r,m.ex n=some r→m r:=by
 induction m with
 | ret v=>intro r h; exact (Option.some.inj h).symm
 | need p d m ih=>
  intro r h;cases d with
  | isTrue hp=>exact ⟨hp,ih r h⟩
  | isFalse hp=>exact absurd h (by show ¬ (none=some r); nofun)
 | grd p d m z ih=>
  intro r h;cases d with
  | isTrue hp=>exact λ _=>ih r h
  | isFalse hp=>exact λ q=>absurd q hp
 | bnd m k ih ihk=>
  intro r h;have h:(match m.ex n with | some v=>(k v).ex n | none=>none)=some r:=h;cases hv:m.ex n with
  | none=>rw [hv] at h; cases h
  | some v=>rw [hv] at h; exact ⟨v,ih v hv,ihk v r h⟩
 | sup f ih=>intro r h; exact ⟨n,ih n r h⟩
 | bot=>intro r h; cases h
theorem aO {p:Prop} {d:Decidable p} {m:M R} {r:R} {K:Prop} (hm:need p m r) (h:p→m r→K):p∧K:=⟨hm.1,h hm.1 hm.2⟩
theorem fQ {c:Bool} {x y:M R} {r:R} {A B:Prop} (hm:(cond c x y) r) (h1:c=true→x r→A) (h2:c=false→y r→B):YC c A B:=by
 cases c
 ·exact h2 rfl hm
 ·exact h1 rfl hm
theorem dh {A:Type} {m:M A} {k:A→M R} {r:R} {G:Prop} (hm:bnd m k r) (h:∀v,m v→k v r→G):G:=by
 obtain ⟨v,h1,h2⟩:=hm;exact h v h1 h2
section
variable {P:Program} {cfg:xE} {N:Nat}
variable {m:Nat} {s:St}
theorem ace {r:Option Nat} {c:Code} {K:Exit→St→Prop} {α:Type} (st:α→St) (inv:α→Prop) (μ:α→Nat) (x0:α) (ρ0:List (Nat×Option Nat)) (os0:List Nat) (h0:inv x0) (hE:P6 m ρ0 os0 s (st x0))
  (round:∀x,inv x→Good P cfg N r m c (st x) (λ e s'=>match e with | .normal=>∃x' ρ os,inv x'∧μ x'<μ x∧P6 m ρ os s' (st x') | e=>K e s')):Loops P cfg N r m (.loop c) s K:=by
 refine ⟨λ n0 cx a w I O hS hrd=>?_⟩;obtain ⟨I1,O1,hS1⟩:=zI hS hE;refine wpIn_loop_ghost (λ n a w=>∃x I O,inv x∧n=μ x∧jB cfg N m cx (st x) a w I O) (μ x0) ⟨x0,I1,O1,h0,rfl,hS1⟩ ?_;intro n a w hI;obtain ⟨x,I,O,hx,rfl,hS⟩:=hI;refine wpIn_mono (round x hx n0 cx a w I O hS hrd) ?_;intro e a' w' ⟨s',I',O',h1,h2⟩;cases e with
 | normal=>
  obtain ⟨x',ρ,os,h3,h4,h5⟩:=h1;obtain ⟨I2,O2,hS2⟩:=zI h2 h5;exact ⟨μ x',h4,x',I2,O2,h3,rfl,hS2⟩
 | exit id=>exact ⟨s',I',O',h1,h2⟩
 | goto l=>exact ⟨s',I',O',h1,h2⟩
 | ret=>exact ⟨s',I',O',h1,h2⟩
 | panic ch=>exact ⟨s',I',O',h1,h2⟩
 | outgrown=>exact ⟨s',I',O',h1,h2⟩
variable {c:Code}
theorem nk (hc:iE P cfg) {rr:Option Nat} {ct:List Nat} {K:Exit→St→Prop} (hok:iW N c=true) {σ:Type} {F:(σ→M R)→σ→M R} {x0:σ} {r:R} (hm:dF F x0 r) (st:σ→St) (ρ0:List (Nat×Option Nat)) (os0:List Nat) (hE:P6 m ρ0 os0 s (st x0))
  (round:∀(self:σ→M R) (x:σ),F self x r→kP cfg (Spec P cfg) ct (Loops P cfg N rr m) c (st x) (λ e s'=>match e with | .normal=>∃x' ρ os,self x' r∧P6 m ρ os s' (st x') | e=>K e s')):Loops P cfg N rr m (.loop c) s K:=by
 obtain ⟨n0,h0⟩:=hm;refine ace (λ x:σ×Nat=>st x.1) (λ x=>itM F x.2 x.1 r) (λ x=>x.2) (x0,n0) ρ0 os0 h0 hE ?_;rintro ⟨x,n⟩ hx;cases n with
 | zero=>exact hx.elim
 | succ n=>
  refine (jl hc c (st x) _ hok (round (itM F n) x hx)).mono ?_;intro e s' h;cases e with
  | normal=>
   obtain ⟨x',ρ,os,h1,h2⟩:=h;exact ⟨(x',n),ρ,os,h1,Nat.lt_succ_self n,h2⟩
  | _=>exact h
theorem QO (hc:iE P cfg) {rr:Option Nat} {m:Nat} {ct:List Nat} {x y:Code} {s:St} {K:Exit→St→Prop} (aj4:iW N x=true) (ah8:iW N y=true) {σ:Type} (k:σ→M R) (r:R) (st:σ→St)
  (h1:kP cfg (Spec P cfg) ct (Loops P cfg N rr m) x s (λ e s'=>match e with | .normal=>∃x' ρ os,k x' r∧P6 m ρ os s' (st x') | e=>K e s'))
  (h2:∀x',k x' r→kP cfg (Spec P cfg) ct (Loops P cfg N rr m) y (st x') K):Loops P cfg N rr m (.seq x y) s K:=by
 refine ⟨sJ ((jl hc x s _ aj4 h1).mono ?_)⟩;intro e s' h;cases e with
 | normal=>
  obtain ⟨x',ρ,os,h3,h4⟩:=h;exact λ n0 cx a w I O hS hrd=>by
   obtain ⟨I',O',h'⟩:=zI hS h4;exact jl hc y (st x') K ah8 (h2 x' h3) n0 cx a w I' O' h' hrd
 | _=>exact h
structure aj5 (P:Program) (cfg:xE) (N:Nat) (r:Option Nat) (m:Nat) (c:Code) (K:Exit→St→Prop) (M:Nat) (s:St):Prop where
 ok:∀(n0:Nat) (cx:Ctx) (a:Act) (w:World) (I:Nat→Prop) (O:OM),jB cfg N m cx s a w I O→cx.rd=r.isSome→Code.roundsIn (FW r) n0 P c (λ e a' w'=>∃s' I' O',K e s'∧jB cfg N m cx s' a' w' I' O') M a w
theorem jg (hc:iE P cfg) {r:Option Nat} {m:Nat} {ct:List Nat} {s:St} {K:Exit→St→Prop} {M:Nat} (hok:iW N c=true)
  (h:kP cfg (Spec P cfg) ct (Loops P cfg N r m) c s (λ e s'=>match e with | .normal=>aj5 P cfg N r m c K M s' | e=>K e s')):aj5 P cfg N r m c K (M+1) s:=by
 refine ⟨λ n0 cx a w I O hS hrd=>?_⟩;rw [roundsIn_succ];refine wpIn_mono (jl hc c s _ hok h n0 cx a w I O hS hrd) ?_;intro e a' w' ⟨s',I',O',h1,h2⟩;cases e with
 | normal=>exact h1.ok n0 cx a' w' I' O' h2 hrd
 | exit id=>exact ⟨s',I',O',h1,h2⟩
 | goto l=>exact ⟨s',I',O',h1,h2⟩
 | ret=>exact ⟨s',I',O',h1,h2⟩
 | panic ch=>exact ⟨s',I',O',h1,h2⟩
 | outgrown=>exact ⟨s',I',O',h1,h2⟩
variable {r:Option Nat} {K:Exit→St→Prop}
theorem WR (M:Nat) (h:aj5 P cfg N r m c K M s):Loops P cfg N r m (.loop c) s K:=
 ⟨λ n0 cx a w I O hS hrd=>wpIn_loop_rounds M (h.ok n0 cx a w I O hS hrd)⟩
end
end Go.Ab
namespace Go.Ab
variable {α:Type}
theorem lX {f:α→AV} {d:α} {l:List α} {k:Nat} (_h:k≤l.length):∀i,i<k→Le (bC f d l i) (bC f d (l.take k) i):=λ i hi=>by
 unfold bC;rw [getD_take l d hi];exact .refl _
variable {g:Nat→AV}
theorem fM (f:α→AV) (d:α) (l:List α) {n:Nat} (hg:g=Wv (l.map f):=by rfl) (hn:n≤l.length:=by exact Nat.le_of_ble_eq_true rfl):∀i,i<n→Le (g i) (bC f d l i):=λ i hi=>by
 subst hg;unfold bC Wv;rw [vR,List.getD_eq_getElem?_getD,List.getElem?_map,List.getD_eq_getElem?_getD,List.getElem?_eq_getElem om];exact .refl _
variable {n:Nat}
theorem Ii {f:α→AV} {d:α} {x:α} {l:List α} (h0:Le (g 0) (f x)) (ht:∀i,i<n→Le ((λ j=>g (j+1)) i) (bC f d l i)):∀i,i<n+1→Le (g i) (bC f d (x::l) i):=λ i hi=>by
 cases i with
 | zero=>exact h0
 | succ i=>exact ht i om
theorem iL {f:α→AV} {d:α} {l m:List α} {k:Nat} {h:Nat→AV} (hn:n=l.length) (hg:∀i,i<n→Le (g i) (bC f d l i)) (hk:k=m.length) (hh:∀i,i<k→Le (h i) (bC f d m i)):∀i,i<n+k→Le (appG n g h i) (bC f d (l++m) i):=λ i hi=>by
 unfold appG;cases hb:Nat.blt i n with
 | true=>
  have hlt:i<n:=by simpa using hb
  have:=hg i hlt;unfold bC at this ⊢;rw [mG d om];exact this
 | false=>
  have hge:n≤i:=by
   rcases Nat.lt_or_ge i n with h | h
   ·rw [show Nat.blt i n=true by simpa using h] at hb; cases hb
   ·exact h
  have:=hh (i - n) om;unfold bC at this ⊢;rw [List.getD_eq_getElem?_getD,List.getElem?_append_right om,← List.getD_eq_getElem?_getD,← hn];exact this
theorem ah9 {f:α→AV} {d:α} {l:List α} {a N:Nat} (hg:∀i,i<N→Le (g i) (bC f d l i)) (h:a+n≤N):∀i,i<n→Le (g (a+i)) (bC f d ((l.drop a).take n) i):=λ i hi=>by
 have:=hg (a+i) om;unfold bC at this ⊢;rw [getD_take _ d hi,getD_drop];exact this
theorem aia {f:α→AV} {d:α} {l:List α} {a N:Nat} (hg:∀i,i<N→Le (g i) (bC f d l i)) (h:a+n≤N):∀i,i<n→Le (rE a g i) (bC f d ((l.drop a).take n) i):=λ i hi=>by
 rw [Dw];exact ah9 hg h i hi
theorem rR {f:α→AV} {d:α} {l:List α} {j:Nat} {v:AV} {x:α} (hg:∀i,i<n→Le (g i) (bC f d l i)) (hn:n=l.length) (hv:Le v (f x)):∀i,i<n→Le (adh g j v i) (bC f d (l.set j x) i):=λ i hi=>by
 unfold adh;cases hb:Nat.beq i j with
 | true=>
  have:=Nat.eq_of_beq_eq_true hb;subst this;unfold bC;rw [List.getD_eq_getElem?_getD,List.getElem?_set_self om];exact hv
 | false=>
  have hne:i≠j:=λ e=>by subst e; simp at hb
  have:=hg i hi;unfold bC at this ⊢;rw [List.getD_eq_getElem?_getD,List.getElem?_set_ne om,← List.getD_eq_getElem?_getD];exact this
def aqw {α:Type} (l:List α) (i:Nat) (s:List α):List α:=l.mapIdx λ j x=>if i≤j then s.getD (j - i) x else x
theorem j5 (l:List α) (i:Nat) (s:List α):(aqw l i s).length=l.length:=by
 unfold aqw;rw [List.length_mapIdx]
theorem aj6 (f:α→AV) (d:α) {n:Nat} {z:AV} (hz:Le z (f d):=by exact .refl _):∀i,i<n→Le ((λ _=>z) i) (bC f d (List.replicate n d) i):=λ i hi=>by
 unfold bC;rw [List.getD_eq_getElem?_getD,List.getElem?_replicate,if_pos hi];exact hz
def strOf (l:List Int):ByteArray:=JH l.length 0 (bC (AV.int .u8) 0 l) ByteArray.empty
def u8L:List AV→Bool
 | []=>true
 | v::l=>an5 v&&u8L l
theorem aj7:∀ {es:List AV},u8L es=true→∀i,i<es.length→an5 (Wv es i)=true:=by
 intro es;induction es with
 | nil=>intro _ i h; exact absurd h (Nat.not_lt_zero _)
 | cons v l ih=>
  intro h i hi;simp only [u8L,Bool.and_eq_true] at h;cases i with
  | zero=>exact h.1
  | succ i=>exact ih h.2 i (by simpa using hi)
theorem Y8 {ρ:List (Nat×Option Nat)} {H':kN} {f:Nat} {u v:AV} (h:Le u v) (hp:apU v=true) (hl:v.cells.length+2<f):mR ρ H' f u v:=by
 obtain ⟨f,rfl⟩:∃f',f=f'+1:=⟨f - 1,by omega⟩;cases v with
 | agg cs'=>
  have key:∀cs,U1 cs cs'→mR ρ H' (f+1) (.agg cs) (.agg cs'):=by
   intro cs hcs;unfold mR;have:=(DW _ _ hcs).1;exact amj cs cs' f (by simp [AV.cells] at hl; omega) hcs hp
  cases h with
  | refl=>exact key _ (U1.refl _)
  | agg hl h=>exact key _ (U1.agW hl h)
 | _=>exact agX h hp
def Mc {α:Type} (f:α→AV) (X:Nat→α):Nat→AV:=λ i=>f (X i)
def upd {α:Type} (X:Nat→α) (i:Nat) (x:α):Nat→α:=λ j=>bif Nat.beq j i then x else X j
theorem aib (X:Nat→α) (i:Nat) (x:α):upd X i x i=x:=by
 unfold upd;rw [show Nat.beq i i=true by simp];rfl
theorem amm {f:α→AV} {X:Nat→α} {j:Nat} {v:AV} {x:α} (hg:∀i,i<n→Le (g i) (Mc f X i)) (hv:Le v (f x)):∀i,i<n→Le (adh g j v i) (Mc f (upd X j x) i):=λ i hi=>by
 unfold adh Mc upd;cases hb:Nat.beq i j with
 | true=>exact hv
 | false=>exact hg i hi
theorem acf {f:α→AV} {X:Nat→α} (h1:∀x,(f x).cells=[f x]):∀(n k i:Nat),i<n→nth (kZ n k (Mc f X)) i=f (X (k+i)):=by
 intro n;induction n with
 | zero=>intro k i h; exact absurd h (Nat.not_lt_zero _)
 | succ n ih=>
  intro k i hi;simp only [kZ];have:(Mc f X k).cells=[f (X k)]:=h1 _;rw [this];cases i with
  | zero=>rfl
  | succ i=>
   show nth (kZ n (k+1) (Mc f X)) i=_;rw [ih (k+1) i om];congr 2;omega
theorem abf {f:α→AV} {X:Nat→α} (h1:∀x,(f x).cells=[f x]):∀i,i<n→Le (Wv (kZ n 0 (Mc f X)) i) (Mc f X i):=λ i hi=>by
 unfold Wv;rw [acf h1 n 0 i hi,Nat.zero_add];exact .refl _
theorem amn {f:α→AV} {d:α} {X:Nat→α} :∀i,i<n→Le (Mc f X i) (bC f d ((List.range n).map X) i):=λ i hi=>by
 unfold Mc bC;rw [List.getD_eq_getElem?_getD,List.getElem?_map,List.getElem?_range hi];exact .refl _
theorem oh (x:eP) (h:(match x with | .map .. => false | _=>true)=true:=by rfl):LeO x x:=by
 cases x with
 | box cs=>exact U1.refl cs
 | row es n g=>exact ⟨rfl,rfl,λ _ _=>.refl _⟩
 | map=>cases h
theorem vac {c b:Bool} (h:(c==b)=false):¬ c=b:=by
 rintro rfl;simp at h
def W {R:Type} (m:M R) (Q:R→Prop):Prop:=∃r,m r∧Q r
variable {R:Type}
theorem au {v:R} {Q:R→Prop} (h:Q v):W (ret v) Q:=⟨v,rfl,h⟩
theorem aQ {p:Prop} {d:Decidable p} {m:M R} {Q:R→Prop} (hp:p) (h:W m Q):W (need p m) Q:=by
 obtain ⟨r,h1,h2⟩:=h;exact ⟨r,⟨hp,h1⟩,h2⟩
theorem aG {A:Type} {m:M A} {k:A→M R} {P:A→Prop} {Q:R→Prop} (h:W m P) (hk:∀v,P v→W (k v) Q):W (bnd m k) Q:=by
 obtain ⟨v,h1,h2⟩:=h;obtain ⟨r,h3,h4⟩:=hk v h2;exact ⟨r,⟨v,h1,h3⟩,h4⟩
theorem bW {c:Bool} {x y:M R} {Q:R→Prop} (h1:c=true→W x Q) (h2:c=false→W y Q):W (cond c x y) Q:=by
 cases c
 ·exact h2 rfl
 ·exact h1 rfl
theorem Vi {m:M R} {Q Q':R→Prop} (h:W m Q) (hq:∀r,Q r→Q' r):W m Q':=by
 obtain ⟨r,h1,h2⟩:=h;exact ⟨r,h1,hq r h2⟩
theorem zJ {m:M R} {v:R} (h:m v):W m (λ r=>r=v):=⟨v,h,rfl⟩
theorem lY {m:M R} {v:R} (h:W m (λ r=>r=v)):m v:=by
 obtain ⟨r,h1,rfl⟩:=h;exact h1
theorem xR {A:Type} [Inhabited A] {c:Prop} [Decidable c] {m:M A} {P:A→Prop} (h:c→W m P):W (grd c m) (λ v=>c→P v):=by
 by_cases hc:c
 ·obtain ⟨v,h1,h2⟩:=h hc;exact ⟨v,λ _=>h1,λ _=>h2⟩
 ·exact ⟨default,λ h=>absurd h hc,λ h=>absurd h hc⟩
theorem bM {σ:Type} {F:(σ→M R)→σ→M R} {Q:R→Prop} (inv:σ→Prop) (μ:σ→Nat) (h:∀(self:σ→M R) (s:σ),inv s→(∀s',inv s'→μ s'<μ s→W (self s') Q)→W (F self s) Q) {s:σ} (hs:inv s):W (dF F s) Q:=by
 have key:∀n s,inv s→μ s<n→W (itM F n s) Q:=by
  intro n;induction n with
  | zero=>intro s _ h; exact absurd h (Nat.not_lt_zero _)
  | succ n ih=>intro s hs hn; exact h _ s hs λ s' h1 h2=>ih s' h1 om
 obtain ⟨r,h1,h2⟩:=key (μ s+1) s hs (Nat.lt_succ_self _);exact ⟨r,⟨_,h1⟩,h2⟩
section
variable {P:Program} {cfg:xE} {N:Nat}
theorem abg {r:Option Nat} {n0:Nat} {oA oB:Oper} {Q:Exit→Act→World→Prop} {a:Act} {w:World} (hA:oA.guard=none) (hB:oB.guard=none) (hdA:∀c,oA.op≠.defer c) (hdB:∀c,oB.op≠.defer c)
  {x y:Value} (h1:(execOp a.eval oA).run P w=.ok (.value x) w) (h2:(execOp (a.put oA.dst x).eval oB).run P w=.ok (.value y) w) (h:Q .normal ((a.put oA.dst x).put oB.dst y) w):
  wpOpsIn (FW r) n0 P #[oA,oB] Q (List.range 2) a w:=by
 show wpOpsIn (FW r) n0 P #[oA,oB] Q [0,1] a w;unfold wpOpsIn;simp only [List.getElem?_toArray,List.getElem?_cons_zero];rw [if_pos (by unfold Region.wanted; rw [hA])];refine ab4 hdA (BF h1 ?_);unfold wpOpsIn;simp only [List.getElem?_toArray,List.getElem?_cons_succ,List.getElem?_cons_zero];rw [if_pos (by unfold Region.wanted; rw [hB])];refine ab4 hdB (BF h2 ?_);unfold wpOpsIn;exact h
variable {t:TypeId} {e:TypeId}
theorem aj9 {r:Option Nat} {m id:Nat} (hu:P.underlying t=some (.slice e)) {t0 d3 d4:Nat} (h3:d3<N) (h4:d4<N) {t' tyA tyB:TypeId} {pA pB:String} {aA aB:Array Edge}
  {T:List (Nat×AV)} {H:kN} {nx:Nat} {es n:Nat} {f:Bool} {g:Nat→AV} (hs:iD T t0=.sl es n f g) {K:Exit→St→Prop}
  (hK:∀b,(b=true→n=0)→K .normal ⟨(d4,.bool b)::(d3,.sl es n f g)::T,H,nx⟩):
  Good P cfg N r m (.region id #[⟨some d3,.move (.tmp t0),tyA,pA,aA,none⟩,⟨some d4,.binOp .eql t (.tmp d3) (.const (.slice none 0 0)) t',tyB,pB,aB,none⟩] false) ⟨T,H,nx⟩ K:=by
 intro n0 cx a w I O hS hrd;have hx:=hS.tmps.rep t0 rfl;have hsz:=hS.tmps.size;have hs':iD (⟨T,H,nx⟩:St).tmps t0=.sl es n f g:=hs;rw [hs'] at hx;generalize hxv:a.tmps.getD t0 Go.undef=x at hx;have hp:=hx.GH;refine wpIn_region ?_;cases hp with
 | @sl _ _ _ _ aa cap b off vs hcap hfull ha hes hm h1 hr=>
  have hb:aa.isNone=true→n=0:=λ h=>by
   rcases Nat.eq_zero_or_pos n with h0 | h0
   ·exact h0
   ·rw [(ha om).1] at h; cases h
  refine abg rfl rfl (λ c h=>by cases h) (λ c h=>by cases h) (x:=.slice aa n cap) (y:=.bool aa.isNone) ?_ ?_ ?_
  ·simp only [execOp,Act.eval];rw [hxv];rfl
  ·have e1:(a.put (some d3) (.slice aa n cap)).eval (.tmp d3)=.slice aa n cap:=by
    simp [Act.put,Act.eval,hsz,h3]
   have e2:=run_equal_slice_nil (P:=P) w t e aa n cap hu;have e3:(a.put (some d3) (.slice aa n cap)).eval (.const (.slice none 0 0))=.slice none 0 0:=rfl;have hg:(eqGuard .eql t (.tmp d3) (.const (.slice none 0 0)) (.slice aa n cap) (.slice none 0 0)).run P w=.ok () w:=by unfold eqGuard; simp
   simp only [execOp];rw [e1,e3];simp [hg,binOp,e2]
  ·refine ⟨_,I,O,hK aa.isNone hb,hS.m,hS.rel,?_,hS.marks⟩;have h5:=hS.tmps.put (λ _ _ h=>h) (some d3) (λ k hk=>by cases hk; exact h3) (.sl es n f g) (.slice aa n cap) true (λ _=>hx) (λ h=>by cases h);have h6:=h5.put (λ _ _ h=>h) (some d4) (λ k hk=>by cases hk; exact h4) (.bool aa.isNone) (.bool aa.isNone) true (λ _=>.pure (.bool _)) (λ h=>by cases h);refine ⟨h6.defers,h6.size,λ tt _=>?_,λ tt h=>by cases h⟩;have:=h6.rep tt (by rw [Dz,Dz]);show fA w I O _ (iD ((d4,.bool aa.isNone)::(d3,.sl es n f g)::T) tt) _;rw [nZ,nZ];exact this
theorem Y9 (hc:iE P cfg) {rr:Option Nat} {m:Nat} {ct:List Nat} (hu:P.underlying t=some (.slice e)) {a X Y:Code} {s:St} {K:Exit→St→Prop} (afV:iW N a=true) (aoG:iW N X=true) (aoH:iW N Y=true)
  {id t0 d3 d4:Nat} (h3:d3<N) (h4:d4<N) {t' tyA tyB:TypeId} {pA pB:String} {aA aB:Array Edge} (T:List (Nat×AV)) (H:kN) (nx:Nat) {es n:Nat} {f:Bool} {g:Nat→AV} (hs:iD T t0=.sl es n f g)
  (h1:kP cfg (Spec P cfg) ct (Loops P cfg N rr m) a s (λ e s'=>match e with | .normal=>s'=⟨T,H,nx⟩ | _=>False))
  (hX:n=0→kP cfg (Spec P cfg) ct (Loops P cfg N rr m) X ⟨(d4,.bool true)::(d3,.sl es n f g)::T,H,nx⟩ (λ e s'=>match e with | .normal=>False | e=>K e s'))
  (hY:kP cfg (Spec P cfg) ct (Loops P cfg N rr m) Y ⟨(d4,.bool false)::(d3,.sl es n f g)::T,H,nx⟩ K):
  Loops P cfg N rr m (.seq a (.seq (.seq (.region id #[⟨some d3,.move (.tmp t0),tyA,pA,aA,none⟩,⟨some d4,.binOp .eql t (.tmp d3) (.const (.slice none 0 0)) t',tyB,pB,aB,none⟩] false) (.cond (.tmp d4) X .skip)) Y)) s K:=by
 refine ⟨sJ ((jl hc a s _ afV h1).mono ?_)⟩;intro e s' h;cases e with
 | normal=>
  have h:s'=⟨T,H,nx⟩:=h;subst h;refine sJ (sJ (aj9 hu h3 h4 hs λ b hb=>?_));have aoI:Yc cfg (iD (⟨(d4,.bool b)::(d3,.sl es n f g)::T,H,nx⟩:St).tmps) (.tmp d4)=.bool b:=by
   show iD ((d4,.bool b)::(d3,.sl es n f g)::T) d4=_;rw [nZ];simp [jf]
  refine Vg aoI (λ hb1=>?_) (λ hb1=>?_)
  ·subst hb1;refine (jl hc X _ _ aoG (hX (hb rfl))).mono ?_;intro e s' h;cases e with
   | normal=>exact h.elim
   | _=>exact h
  ·subst hb1;refine jl (ct:=ct) hc .skip _ _ rfl ?_;exact jl hc Y _ _ aoH hY
 | _=>exact h.elim
theorem afW {r:Option Nat} {m id:Nat} (hu:P.underlying t=some (.slice e)) {t0 d3 d4:Nat} (h3:d3<N) (h4:d4<N) {t' tyA tyB:TypeId} {pA pB:String} {aA aB:Array Edge}
  {T:List (Nat×AV)} {H:kN} {nx:Nat} {ob i n:Nat} {f:Bool} (hs:iD T t0=.dQ ob i n f) {oo:eP} (hoo:hget H ob=some oo) {K:Exit→St→Prop}
  (hK:∀b,(b=true→n=0)→K .normal ⟨(d4,.bool b)::(d3,.dQ ob i n f)::T,H,nx⟩):
  Good P cfg N r m (.region id #[⟨some d3,.move (.tmp t0),tyA,pA,aA,none⟩,⟨some d4,.binOp .eql t (.tmp d3) (.const (.slice none 0 0)) t',tyB,pB,aB,none⟩] false) ⟨T,H,nx⟩ K:=by
 intro n0 cx a w I O hS hrd;have hx:=hS.tmps.rep t0 rfl;have hsz:=hS.tmps.size;have hs':iD (⟨T,H,nx⟩:St).tmps t0=.dQ ob i n f:=hs;rw [hs'] at hx;generalize hxv:a.tmps.getD t0 Go.undef=x at hx;obtain ⟨p,hp,_⟩:=hS.rel.live hoo;obtain ⟨aa,cap,hxe,_,a2,_,a4⟩:=hx.pV hp;subst hxe;refine wpIn_region ?_;have hb:aa.isNone=true→n=0:=λ h=>by
  rcases Nat.eq_zero_or_pos cap with h0 | h0
  ·omega
  ·obtain ⟨b,bo,sz,_,e2,_⟩:=a4 om;rw [e2] at h; cases h
 refine abg rfl rfl (λ c h=>by cases h) (λ c h=>by cases h) (x:=.slice aa n cap) (y:=.bool aa.isNone) ?_ ?_ ?_
 ·simp only [execOp,Act.eval];rw [hxv];rfl
 ·have e1:(a.put (some d3) (.slice aa n cap)).eval (.tmp d3)=.slice aa n cap:=by
   simp [Act.put,Act.eval,hsz,h3]
  have e2:=run_equal_slice_nil (P:=P) w t e aa n cap hu;have e3:(a.put (some d3) (.slice aa n cap)).eval (.const (.slice none 0 0))=.slice none 0 0:=rfl;have hg:(eqGuard .eql t (.tmp d3) (.const (.slice none 0 0)) (.slice aa n cap) (.slice none 0 0)).run P w=.ok () w:=by unfold eqGuard; simp
  simp only [execOp];rw [e1,e3];simp [hg,binOp,e2]
 ·refine ⟨_,I,O,hK aa.isNone hb,hS.m,hS.rel,?_,hS.marks⟩;have h5:=hS.tmps.put (λ _ _ h=>h) (some d3) (λ k hk=>by cases hk; exact h3) (.dQ ob i n f) (.slice aa n cap) true (λ _=>hx) (λ h=>by cases h);have h6:=h5.put (λ _ _ h=>h) (some d4) (λ k hk=>by cases hk; exact h4) (.bool aa.isNone) (.bool aa.isNone) true (λ _=>.pure (.bool _)) (λ h=>by cases h);refine ⟨h6.defers,h6.size,λ tt _=>?_,λ tt h=>by cases h⟩;have:=h6.rep tt (by rw [Dz,Dz]);show fA w I O _ (iD ((d4,.bool aa.isNone)::(d3,.dQ ob i n f)::T) tt) _;rw [nZ,nZ];exact this
theorem afX (hc:iE P cfg) {rr:Option Nat} {m:Nat} {ct:List Nat} (hu:P.underlying t=some (.slice e)) {a X Y:Code} {s:St} {K:Exit→St→Prop} (afV:iW N a=true) (aoG:iW N X=true) (aoH:iW N Y=true)
  {id t0 d3 d4:Nat} (h3:d3<N) (h4:d4<N) {t' tyA tyB:TypeId} {pA pB:String} {aA aB:Array Edge} (T:List (Nat×AV)) (H:kN) (nx:Nat) {ob i n:Nat} {f:Bool} (hs:iD T t0=.dQ ob i n f) {oo:eP} (hoo:hget H ob=some oo)
  (h1:kP cfg (Spec P cfg) ct (Loops P cfg N rr m) a s (λ e s'=>match e with | .normal=>s'=⟨T,H,nx⟩ | _=>False))
  (hX:n=0→kP cfg (Spec P cfg) ct (Loops P cfg N rr m) X ⟨(d4,.bool true)::(d3,.dQ ob i n f)::T,H,nx⟩ (λ e s'=>match e with | .normal=>False | e=>K e s'))
  (hY:kP cfg (Spec P cfg) ct (Loops P cfg N rr m) Y ⟨(d4,.bool false)::(d3,.dQ ob i n f)::T,H,nx⟩ K):
  Loops P cfg N rr m (.seq a (.seq (.seq (.region id #[⟨some d3,.move (.tmp t0),tyA,pA,aA,none⟩,⟨some d4,.binOp .eql t (.tmp d3) (.const (.slice none 0 0)) t',tyB,pB,aB,none⟩] false) (.cond (.tmp d4) X .skip)) Y)) s K:=by
 refine ⟨sJ ((jl hc a s _ afV h1).mono ?_)⟩;intro e s' h;cases e with
 | normal=>
  have h:s'=⟨T,H,nx⟩:=h;subst h;refine sJ (sJ (afW hu h3 h4 hs hoo λ b hb=>?_));have aoI:Yc cfg (iD (⟨(d4,.bool b)::(d3,.dQ ob i n f)::T,H,nx⟩:St).tmps) (.tmp d4)=.bool b:=by
   show iD ((d4,.bool b)::(d3,.dQ ob i n f)::T) d4=_;rw [nZ];simp [jf]
  refine Vg aoI (λ hb1=>?_) (λ hb1=>?_)
  ·subst hb1;refine (jl hc X _ _ aoG (hX (hb rfl))).mono ?_;intro e s' h;cases e with
   | normal=>exact h.elim
   | _=>exact h
  ·subst hb1;refine jl (ct:=ct) hc .skip _ _ rfl ?_;exact jl hc Y _ _ aoH hY
 | _=>exact h.elim
def acg {σ R:Type} (len:Nat) (B:Nat→(σ→M R)→σ→M R) (fin:σ→M R):Nat→σ→M R
 | 0=>fin
 | j+1=>B (len - (j+1)) (acg len B fin j)
theorem abh (hc:iE P cfg) {m:Nat} {ct ct':List Nat} {g:Operand} {p0 p1:Nat} {assign body:Code} {s:St} {K:Exit→St→Prop} (afV:iW N assign=true) (aoA:iW N body=true) (hp0:p0<N) (hp1:p1<N)
  {gf:FuncId} {caps:List AV} {len:Nat} {e0 e1:Nat→AV} (hit:Y7 P gf caps len e0 e1) (hg:Yc cfg (iD s.tmps) g=.fn gf caps) (aj1:∀v∈caps,∃cs,v=.ro cs)
  {σ R:Type} {B:Nat→(σ→M R)→σ→M R} {fin:σ→M R} {x0:σ} {r:R} (hm:acg len B fin len x0 r)
  (st:σ→St) (st1:Nat→σ→St) (hnm:∀k gx,RQ (st gx).heap=true∧RQ (st1 k gx).heap=true) (ρ0:List (Nat×Option Nat)) (h0:Emb m ρ0 s (st x0))
  (ha:∀k l gx,k<len→m≤(st gx).nx∧kP cfg (Spec P cfg) ct (Loops P cfg N (some l) (st gx).nx) assign ⟨(p1,e1 k)::(p0,e0 k)::(st gx).tmps,(st gx).heap,(st gx).nx⟩ (λ e s'=>match e with | .normal=>∃ρ,Emb (st gx).nx ρ s' (st1 k gx) | _=>False))
  (hb:∀k l self gx,k<len→B k self gx r→kP cfg (Spec P cfg) ct' (Loops P cfg N (some l) (st1 k gx).nx) body (st1 k gx) (λ e s'=>match e with | .normal=>∃x' ρ,self x' r∧Emb m ρ ⟨(st gx).tmps,s'.heap,s'.nx⟩ (st x') | .ret=>K .ret ⟨(st gx).tmps,s'.heap,s'.nx⟩ | _=>False))
  (hK:∀gx,fin gx r→K .normal (st gx)):Loops P cfg N none m (.rangeFunc g #[p0,p1] assign body) s K:=by
 refine ah7 (ct:=ct) (ct':=ct') hc afV aoA hp0 hp1 hit hg aj1 st st1 hnm x0 ρ0 h0 (λ k x=>acg len B fin (len - k) x r) hm (λ k l gx hk _=>ha k l gx hk) ?_ ?_
 ·intro k l gx hk hi;obtain ⟨j,hj⟩:∃j,len - k=j+1:=⟨len - k - 1,by omega⟩;have h1:=hi;rw [hj] at h1;have e1:len - (j+1)=k:=by omega
  have h2:B k (acg len B fin j) gx r:=by
   have:B (len - (j+1)) (acg len B fin j) gx r:=h1;rwa [e1] at this
  have e2:j=len - (k+1):=by omega
  subst e2;exact hb k l _ gx hk h2
 ·intro gx hi;have:=hi;rw [Nat.sub_self] at this;exact hK gx this
end
end Go.Ab
namespace Go.Ab
mutual
def noR (o:Nat):AV→Bool
 | .ptr o' _ _=>!Nat.beq o' o
 | .dQ o' _ _ _=>!Nat.beq o' o
 | .mref o'=>!Nat.beq o' o
 | .agg cs=>aef o cs
 | .fn _ cs=>aef o cs
 | .jQ cs=>aef o cs
 | _=>true
def aef (o:Nat):List AV→Bool
 | []=>true
 | v::l=>noR o v&&aef o l
end
def akb (o t0:Nat):List (Nat×AV)→Bool
 | []=>true
 | (t,v)::l=>(Nat.beq t t0||noR o v)&&akb o t0 l
def asw (o:Nat):Option eP→Bool
 | some (.box cs)=>aef o cs
 | _=>true
def akc (o:Nat):kN→Bool
 | []=>true
 | (_,x)::l=>asw o x&&akc o l
variable {o:Nat}
theorem Tk:∀ {l:List AV} {j:Nat},aef o l=true→noR o (nth l j)=true:=by
 intro l;induction l with
 | nil=>intro j _; cases j<;>rfl
 | cons v l ih=>
  intro j h;simp only [aef,Bool.and_eq_true] at h;cases j with
  | zero=>exact h.1
  | succ j=>exact ih h.2
theorem akd {t0:Nat} :∀ {l:List (Nat×AV)},akb o t0 l=true→∀t,t≠t0→noR o (iD l t)=true:=by
 intro l;induction l with
 | nil=>intro _ t _; rfl
 | cons p l ih=>
  obtain ⟨k,v⟩:=p;intro h t ht;simp only [akb,Bool.and_eq_true,Bool.or_eq_true] at h;unfold iD;simp only [look];cases hb:Nat.beq k t with
  | true=>
   have:=Nat.eq_of_beq_eq_true hb;subst this;rcases h.1 with h1 | h1
   ·exact absurd (Nat.eq_of_beq_eq_true h1) ht
   ·exact h1
  | false=>exact ih h.2 t ht
theorem ake:∀ {l:kN},akc o l=true→∀o' cs,hget l o'=some (.box cs)→aef o cs=true:=by
 intro l;induction l with
 | nil=>intro _ o' cs h; cases h
 | cons p l ih=>
  obtain ⟨k,x⟩:=p;intro h o' cs hg;simp only [akc,Bool.and_eq_true] at h;unfold hget at hg;simp only [look] at hg;cases hb:Nat.beq k o' with
  | true=>
   rw [hb] at hg;cases x with
   | none=>cases hg
   | some y=>
    simp only at hg;cases hg;exact h.1
  | false=>
   rw [hb] at hg;exact ih h.2 o' cs hg
theorem fA.agY {w:World} {I:Nat→Prop} {O O':OM} {D:Nat→Prop} (hO:∀o',o'≠o→O' o'=O o') {v:AV} {x:Value} (h:fA w I O D v x):noR o v=true→fA w I O' D v x:=by
 have ne:∀ {o':Nat},(!Nat.beq o' o)=true→o'≠o:=λ hn e=>by subst e; simp at hn
 induction h with
 | pure h=>exact λ _=>.pure h
 | ptr ho hp hi=>exact λ hn=>.ptr ((hO _ (ne hn)).trans ho) hp hi
 | dQ ho hi hcap hfull hpl hext=>exact λ hn=>.dQ ((hO _ (ne hn)).trans ho) hi hcap hfull hpl hext
 | mref ho hp=>exact λ hn=>.mref ((hO _ (ne hn)).trans ho) hp
 | Aw ho hd h1=>exact λ hn=>.Aw ((hO _ (ne hn)).trans ho) hd h1
 | Ay ho hd h1=>exact λ hn=>.Ay ((hO _ (ne hn)).trans ho) hd h1
 | xH ho hd h1=>exact λ hn=>.xH ((hO _ (ne hn)).trans ho) hd h1
 | agg hl hr ih=>exact λ hn=>.agg hl λ j hj=>ih j hj (Tk hn)
 | fn hl hr ih=>exact λ hn=>.fn hl λ j hj=>ih j hj (Tk hn)
 | jQ hl hr ih=>exact λ hn=>.jQ hl λ j hj=>ih j hj (Tk hn)
section
variable {P:Program} {cfg:xE} {N:Nat} {cx:Ctx}
def agZ (o es n:Nat) (g:Nat→AV) (u:AV) (H:kN):kN:=(o,some (.row es (n+1) (appG n g (λ _=>u))))::H
def anC (t0 o n:Nat) (T:List (Nat×AV)):List (Nat×AV):=(t0,.dQ o 0 n true)::T
theorem afY {m:Nat} {s:St} {a:Act} {w:World} {I:Nat→Prop} {O:OM} (hS:jB cfg N m cx s a w I O) {t0 n es:Nat} {g:Nat→AV} {u:AV} (hn:0<n) (hm:m≤o)
  (hT:iD s.tmps t0=.dQ o 0 n false) (hH:hget s.heap o=some (.row es n g)) (hu:u.cells.length=es) (hu1:∀j,j<es→nth u.cells j=.undef) (hnT:akb o t0 s.tmps=true) (hnH:akc o s.heap=true):
  jB cfg N m cx ⟨anC t0 o n s.tmps,s.heap,s.nx⟩ a w I O∨∃O',jB cfg N m cx ⟨s.tmps,agZ o es n g u s.heap,s.nx⟩ a w I O':=by
 obtain ⟨p,hp,rQ⟩:=hS.rel.live hH;have hr:=hS.tmps.rep t0 rfl;rw [hT] at hr;obtain ⟨aa,cap,hxv,h2,hcap,hfl,hpl⟩:=hr.pV hp;by_cases hc:cap=n
 ·refine .inl ⟨hS.m,hS.rel,⟨rfl,hS.tmps.size,λ t _=>?_,λ t h=>by cases h⟩,hS.marks⟩;show fA w I O _ (iD ((t0,.dQ o 0 n true)::s.tmps) t) _;rw [nZ];by_cases ht:t=t0
  ·subst ht;rw [MR];generalize a.tmps.getD t Go.undef=x at hr hxv ⊢;subst hxv;cases hr with
   | pure h=>cases h
   | dQ ho h1 h2 h3 h4 h5=>exact .dQ ho h1 h2 (λ _=>hc) h4 h5
   | xH ho=>rw [hp] at ho; cases ho
  ·rw [upd_ne _ _ _ _ (by simpa using λ e:t0=t=>ht e.symm)];exact hS.tmps.rep t rfl
 ·refine .inr ?_;have hcap1:n+1≤cap:=by omega
  obtain ⟨hpn,hes,hcl,hd⟩:=rQ;obtain ⟨b,bo,sz,hpb,hal,hle,hcs⟩:∃b bo sz,p.pl=some (b,bo,sz)∧xI w b bo sz∧bo+n*es≤sz∧∀i j,i<n→j<es→iF w I (nth (g i).cells j) (cellAt w b (bo+(i*es+j)))∧(cellAt w b (bo+(i*es+j))).oneCell'=true:=by
   rcases hd with h | h
   ·omega
   ·exact h
  obtain ⟨b',o8,sz',aqy,haa,hroom⟩:=hpl om;rw [hpb] at aqy;cases aqy;simp only [Nat.zero_add] at hroom;rw [hes] at hroom;have hroom1:bo+(n+1)*es≤sz:=Nat.le_trans (Nat.add_le_add_left (Nat.mul_le_mul_right _ hcap1) _) hroom;let O':OM:=λ o'=>if o'=o then some ⟨p.es,n+1,p.pl⟩ else O o'
  have hO':∀o',o'≠o→O' o'=O o':=λ o' h=>if_neg h;have hOo:O' o=some ⟨p.es,n+1,p.pl⟩:=if_pos rfl;have back:∀ {o' p'},O' o'=some p'→∃q,O o'=some q∧q.pl=p'.pl:=λ {o' p'} h=>by
   by_cases e:o'=o
   ·subst e; rw [hOo] at h; cases h; exact ⟨p,hp,rfl⟩
   ·rw [hO' _ e] at h; exact ⟨p',h,rfl⟩
  have hHg:∀o',hget (agZ o es n g u s.heap) o'=if o'=o then some (.row es (n+1) (appG n g (λ _=>u))) else hget s.heap o':=λ o'=>by
   unfold agZ hget;simp only [look];cases hb:Nat.beq o o' with
   | true=>have:=Nat.eq_of_beq_eq_true hb; subst this; simp
   | false=>
    have:o'≠o:=λ e=>by subst e; simp at hb
    rw [if_neg this]
  have hR:=hS.rel;refine ⟨O',hS.m,?_,⟨rfl,hS.tmps.size,λ t _=>?_,λ t h=>by cases h⟩,hS.marks⟩
  ·constructor
   ·intro o';rw [hHg];by_cases e:o'=o
    ·subst e; rw [hOo,if_pos rfl]; simp
    ·rw [hO' _ e,if_neg e]; exact hR.dom o'
   ·intro o' p' h;obtain ⟨q,hq,_⟩:=back h;exact hR.used o' q hq
   ·intro o' ob p' h1 h2;show iQ w I O' _ p' ob;rw [hHg] at h1;by_cases e:o'=o
    ·subst e;rw [if_pos rfl] at h1;cases h1;rw [hOo] at h2;cases h2;have gi:∀i,i<n→appG n g (λ _=>u) i=g i:=λ i hi=>by
      have:Nat.blt i n=true:=by simpa using hi
      simp [appG,this]
     have gn:appG n g (λ _=>u) n=u:=by
      have:Nat.blt n n=false:=by
       cases hb:Nat.blt n n with
       | false=>rfl
       | true=>exact absurd (show n<n by simp at hb) (Nat.lt_irrefl n)
      simp [appG,this]
     refine ⟨rfl,hes,λ i hi=>?_,.inr ⟨b,bo,sz,hpb,hal,hroom1,λ i j hi hj=>?_⟩⟩
     ·by_cases hin:i<n
      ·rw [gi i hin]; exact hcl i hin
      ·have:i=n:=by omega
       subst this;rw [gn]; exact hu
     ·by_cases hin:i<n
      ·rw [gi i hin]; exact hcs i j hin hj
      ·have:i=n:=by omega
       subst this;rw [gn,hu1 j hj];refine ⟨.undef _,hal.one _ om ?_⟩;rw [Nat.add_mul,Nat.one_mul] at hroom1;omega
    ·rw [if_neg e] at h1;rw [hO' _ e] at h2;have rQ:=hR.objs o' ob p' h1 h2;cases ob with
     | box cs=>
      obtain ⟨q1,b,bo,sz,q2,q3,q4,q5⟩:=rQ;have hnb:=ake hnH o' cs h1;exact ⟨q1,b,bo,sz,q2,q3,q4,λ j hj=>(q5 j hj).agY hO' (Tk hnb)⟩
     | row es n g=>exact rQ
     | map kd z f=>exact rQ
   ·intro o1 o2 p1 p2 b1 SH SI b2 bo2 sz2 h1 h2 h3 h4 hne;obtain ⟨q1,a1,a2⟩:=back h1;obtain ⟨q2,a3,a4⟩:=back h2;exact hR.inj o1 o2 q1 q2 b1 SH SI b2 bo2 sz2 a1 a3 (a2.trans h3) (a4.trans h4) hne
   ·intro o1 p1 b1 SH SI h1 h3;obtain ⟨q1,a1,a2⟩:=back h1;exact hR.qH o1 q1 b1 SH SI a1 (a2.trans h3)
   ·intro o1 p1 b1 SH SI h1 h3;obtain ⟨q1,a1,a2⟩:=back h1;exact hR.lt o1 q1 b1 SH SI a1 (a2.trans h3)
   ·exact hR.Bz
   ·exact hR.size
   ·exact hR.frame
   ·intro o1 p1 b1 SH SI h1 h3;obtain ⟨q1,a1,a2⟩:=back h1;exact hR.new o1 q1 b1 SH SI a1 (a2.trans h3)
   ·exact hR.glob
   ·exact hR.SG
   ·exact hR.U4
   ·intro o' ho';have hm':=hS.m;rw [hO' _ om];exact hR.Yf o' ho'
   ·exact hR.Dm
   ·exact hR.env
  ·show fA w I O' _ (iD s.tmps t) _;by_cases ht:t=t0
   ·subst ht;rw [hT,hxv];exact .dQ hOo (by simp) hcap (λ h=>by cases h) (λ h=>⟨b,bo,sz,hpb,haa,by simp only [Nat.zero_add]; rw [hes]; exact hroom⟩) (by simpa using hcap1)
   ·exact (hS.tmps.rep t rfl).agY hO' (akd hnT t ht)
end
end Go.Ab
namespace Go.Ab
def both {R:Type} [DecidableEq R] (x y:M R):M R:=bnd x λ a=>bnd y λ b=>need (a=b) (ret a)
theorem aeg {R:Type} [DecidableEq R] {x y:M R} {r:R} (h:both x y r):x r∧y r:=by
 obtain ⟨a,h1,b,h2,h3,h4⟩:=h;have h4:r=a:=h4;subst h4;subst h3;exact ⟨h1,h2⟩
def anD {E R:Type} (l:List E) (k:E→M R):M R:=match l with
 | [x]=>k x
 | _=>.bot
theorem aic {E R:Type} {l:List E} {k:E→M R} {r:R} (h:anD l k r):∃x,l=[x]∧k x r:=by
 match l,h with
 | [x],h=>exact ⟨x,rfl,h⟩
 | [],h=>exact h.elim
 | _::_::_,h=>exact h.elim
theorem aoJ {α:Type} {f:α→AV} {d:α} {x:α} {u:AV}:∀i,i<2→Le (cpG (0+1) 1 (appG 1 (bC f d [x]) (λ _=>u)) (rE 0 (appG 1 (bC f d [x]) (λ _=>u))) i) (bC f d [x,x] i)
 | 0,_=>.refl _
 | 1,_=>.refl _
 | _+2,h=>absurd h om
section
variable {P:Program} {cfg:xE} {N:Nat}
theorem akf (hc:iE P cfg) {rr:Option Nat} {m:Nat} {ct:List Nat} {x y:Code} {s:St} {K:Exit→St→Prop} (aj4:iW N x=true) (ah8:iW N y=true) {σ E R:Type} (k:σ→M R) (r:R) (st:σ→St)
  (kA kB:σ→E→M R) (stA stB:σ→E→St) (o t0 es:Nat) (u:AV) (hm:m≤o) (hu:u.cells.length=es) (hu1:∀j,j<es→nth u.cells j=.undef)
  (hk:∀g,k g r→∃e f,kA g e r∧kB g e r∧iD (st g).tmps t0=.dQ o 0 1 false∧hget (st g).heap o=some (.row es 1 f)∧akb o t0 (st g).tmps=true∧akc o (st g).heap=true∧
    P6 m [] [o] ⟨anC t0 o 1 (st g).tmps,(st g).heap,(st g).nx⟩ (stA g e)∧P6 m [] [] ⟨(st g).tmps,agZ o es 1 f u (st g).heap,(st g).nx⟩ (stB g e))
  (h1:kP cfg (Spec P cfg) ct (Loops P cfg N rr m) x s (λ e s'=>match e with | .normal=>∃x' ρ os,k x' r∧P6 m ρ os s' (st x') | e=>K e s'))
  (hA:∀g e,kA g e r→kP cfg (Spec P cfg) ct (Loops P cfg N rr m) y (stA g e) K) (hB:∀g e,kB g e r→kP cfg (Spec P cfg) ct (Loops P cfg N rr m) y (stB g e) K):Loops P cfg N rr m (.seq x y) s K:=by
 refine ⟨sJ ((jl hc x s _ aj4 h1).mono ?_)⟩;intro e s' h;cases e with
 | normal=>
  obtain ⟨x',ρ,os,h3,h4⟩:=h;exact λ n0 cx a w I O hS hrd=>by
   obtain ⟨I',O',h'⟩:=zI hS h4;obtain ⟨e,f,q1,q2,q3,q4,q5,q6,q7,q8⟩:=hk x' h3;rcases afY h' (Nat.zero_lt_one) hm q3 q4 hu hu1 q5 q6 with h5 | ⟨O2,h5⟩
   ·obtain ⟨I3,O3,h6⟩:=zI h5 q7;exact jl hc y (stA x' e) K ah8 (hA x' e q1) n0 cx a w I3 O3 h6 hrd
   ·obtain ⟨I3,O3,h6⟩:=zI h5 q8;exact jl hc y (stB x' e) K ah8 (hB x' e q2) n0 cx a w I3 O3 h6 hrd
 | _=>exact h
end
end Go.Ab

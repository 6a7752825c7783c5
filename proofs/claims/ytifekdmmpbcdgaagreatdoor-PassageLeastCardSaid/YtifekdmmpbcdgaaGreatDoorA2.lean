/- A part of the proof. -/
import Derived.Test.YtifekdmmpbcdgaaGreatDoorA1
import Derived.Test.YtifekdmmpbcdgaaGreatDoorA0
import Derived.MapKept
import Derived.OrdersIn
import Derived.Sort.LoopGhostIn
set_option linter.unusedVariables false
set_option linter.unusedSimpArgs false
namespace Go.Ab
section
variable {P:Program} {cfg:yx} {cx:Ctx} {H:Nat->Option eP} {D:Nat->Prop} {w:World} {I:Nat->Prop} {O:OM}
variable {eY:Nat} {o:Oper} {a:Act} {ρ:Operand->AV} {v:AV} {ups:lD} {r:azt}
theorem afG {f:FuncId} {vals:Array Value} {next:Act->World->Prop} {Q:Exit->Act->World->Prop} (h:(execOp a.eval o).run P w=.ok (.enter f vals) w)
  (hc:Calls P f vals w λ e w'=>∃x,e=.returned x∧next (a.put o.dst x) w'):o.wp P a w next Q:=by
 unfold Oper.wp;rw [h];exact hc.mono λ e w' ⟨x,he,hn⟩=>by subst he; exact hn
variable {u:AV} {x:Value}
theorem Yz {w':World} {I':Nat->Prop} (h:fB w I O D u x) (hm:aam u=true):iP w' I' u x:=by
 cases u<;>first | cases hm | skip
 ·rw [h.mE]; exact .bool _
 ·rw [h.jg]; exact .int _ _
 rw [h.D6]; exact .str _
variable {l:azx}
theorem ahI (h:adJ l=true):∀j,j<l.length->aam (nth l j)=true:=by
 induction l with
 | nil=>intro j hj; cases hj
 | cons u l ih=>
  intro j hj;unfold adJ at h;cases hv:aam u with
  | false=>simp [hv] at h
  | true=>
   simp only [hv] at h;cases j with
   | zero=>exact hv
   | succ j=>exact ih h j (by simpa using hj)
theorem YA {w':World} {I':Nat->Prop} (h:fB w I O D u x) (hm:aan u=true):iP w' I' u x:=by
 cases u with
 | agg cs=>
  obtain ⟨vs,rfl,hl,hr⟩:=h.vY;exact .agg hl λ j hj=>Yz (hr j hj) (ahI hm j hj)
 | _=>exact Yz h hm
theorem ahJ (h:adK l=true):∀j,j<l.length->aan (nth l j)=true:=by
 induction l with
 | nil=>intro j hj; cases hj
 | cons u l ih=>
  intro j hj;unfold adK at h;cases hv:aan u with
  | false=>simp [hv] at h
  | true=>
   simp only [hv] at h;cases j with
   | zero=>exact hv
   | succ j=>exact ih h j (by simpa using hj)
theorem ahK {w':World} {I':Nat->Prop} (h:fB w I O D u x) (hm:aly u=true):iP w' I' u x:=by
 cases u with
 | jX cs=>
  obtain ⟨vs,rfl,hl,hr⟩:=h.KU;exact .jX hl λ j hj=>YA (hr j hj) (ahJ hm j hj)
 | _=>exact YA h hm
theorem al8:∀(l:azE) (j:Nat),j<l.length->∃x,hof l j=some x:=by
 intro l;induction l with
 | nil=>intro j hj; cases hj
 | cons x l ih=>intro j hj; cases j with
  | zero=>exact ⟨x,rfl⟩
  | succ j=>exact ih j (by simpa using hj)
theorem Vf:∀(l:azE) (j:Nat),l.length<=j->hof l j=none:=by
 intro l;induction l with
 | nil=>intro j _; rfl
 | cons x l ih=>intro j hj; cases j with
  | zero=>simp at hj
  | succ j=>exact ih j (by simpa using hj)
theorem Ow {α:Type}:∀(l m:List (Nat×α)) (k:Nat),look (l++m) k=match look l k with | some x=>some x | none=>look m k:=by
 intro l;induction l with
 | nil=>intro m k; rfl
 | cons p l ih=>
  intro m k;obtain ⟨q,x⟩:=p;simp only [apW,look];cases Nat.beq q k<;>simp [ih]
theorem adY:∀(l:azt) (obs:azE) (j:Nat) (x:eP),qb l=true->j<l.length->hof obs j=some x->look (EU l obs) (iB l j)=some (gz x):=by
 intro l;induction l with
 | nil=>intro obs j x _ hj; cases hj
 | cons y l ih=>
  intro obs j x hnd hj hx;cases obs with
  | nil=>cases hx
  | cons ob obs=>
   have hnd':qb l=true∧y ∉ l:=by
    unfold qb at hnd;cases hm:D5 y l with
    | true=>simp [hm] at hnd
    | false=>simp only [hm] at hnd; exact ⟨hnd,AB hm⟩
   cases j with
   | zero=>simp [hof] at hx; subst hx; simp [EU,look,iB]
   | succ j=>
    simp only [EU,look,iB];have hne:Nat.beq y (iB l j)=false:=by
     cases hb:Nat.beq y (iB l j) with
     | false=>rfl
     | true=>exact absurd (adU hb ▸ sS l j (by simpa using hj)) hnd'.2
    rw [hne];exact ih obs j x hnd'.1 (by simpa using hj) hx
theorem ace:∀(l:azt) (obs:azE) (k:Nat),(∀j,j<l.length->j<obs.length->iB l j≠k)->look (EU l obs) k=none:=by
 intro l;induction l with
 | nil=>intro obs k _; cases obs<;>rfl
 | cons y l ih=>
  intro obs k h;cases obs with
  | nil=>rfl
  | cons ob obs=>
   simp only [EU,look];have hne:Nat.beq y k=false:=by
    cases hb:Nat.beq y k with
    | false=>rfl
    | true=>exact absurd (adU hb) (h 0 (by simp) (by simp))
   rw [hne];exact ih obs k (λ j h1 h2=>h (j+1) (by simp; omega) (by simp; omega))
theorem ahL:∀(n i:Nat),(lQ n i).length=n:=by
 intro n;induction n with
 | zero=>intro i; rfl
 | succ n ih=>intro i; simp [lQ,ih]
theorem ahM:∀(n i j:Nat),j<n->iB (lQ n i) j=i+j:=by
 intro n;induction n with
 | zero=>intro i j h; omega
 | succ n ih=>
  intro i j h;cases j with
  | zero=>rfl
  | succ j=>
   show iB (lQ n (i+1)) j=_;rw [ih (i+1) j om];omega
theorem ahN (l m:azt) (j:Nat) (h:j<l.length):iB (l++m) j=iB l j:=by
 induction l generalizing j with
 | nil=>cases h
 | cons x l ih=>cases j with
  | zero=>rfl
  | succ j=>exact ih j (by simpa using h)
theorem ahO (l m:azt) (j:Nat) (h:l.length<=j):iB (l++m) j=iB m (j - l.length):=by
 induction l generalizing j with
 | nil=>rfl
 | cons x l ih=>cases j with
  | zero=>simp at h
  | succ j=>
   show iB (l++m) j=_
   rw [ih j (by simpa using h)]
   simp
theorem acf:∀(l:azt),(∀i j,i<l.length->j<l.length->iB l i=iB l j->i=j)->qb l=true:=by
 intro l;induction l with
 | nil=>intro _; rfl
 | cons x l ih=>
  intro h;unfold qb;have hm:D5 x l=false:=by
   cases hb:D5 x l with
   | false=>rfl
   | true=>
    have key:∀m:azt,D5 x m=true->∃j,j<m.length∧iB m j=x:=by
     intro m;induction m with
     | nil=>intro h; cases h
     | cons y m ihm=>
      intro h;unfold D5 at h;cases hxy:Nat.beq x y with
      | true=>exact ⟨0,by simp,(adU hxy).symm⟩
      | false=>
       rw [hxy] at h;obtain ⟨j,h1,h2⟩:=ihm h;exact ⟨j+1,by simpa using h1,h2⟩
    obtain ⟨j,h1,h2⟩:=key l hb;have:=h 0 (j+1) (by simp) (by simpa using h1) h2.symm;omega
  rw [hm];refine ih λ i j hi hj e=>?_;have:=h (i+1) (j+1) (by simpa using hi) (by simpa using hj) e;omega
theorem Vg (sg:azt) (l:azx):(ajY sg l).length=l.length:=by
 induction l with
 | nil=>rfl
 | cons v l ih=>simp [ajY,ih]
theorem afH (sg:azt):∀(l:azx) (j:Nat),nth (ajY sg l) j=KP sg (nth l j):=by
 intro l;induction l with
 | nil=>intro j; rfl
 | cons v l ih=>intro j; cases j with
  | zero=>rfl
  | succ j=>exact ih j
theorem acZ (sg:azt) (l:azx):(afn sg l).length=l.length:=by
 induction l with
 | nil=>rfl
 | cons v l ih=>simp [afn,ih]
theorem akc (sg:azt):∀(l:azx) (j:Nat),nth (afn sg l) j=KQ sg (nth l j):=by
 intro l;induction l with
 | nil=>intro j; rfl
 | cons v l ih=>intro j; cases j with
  | zero=>rfl
  | succ j=>exact ih j
theorem akd (sg:azt):∀(l:azE) (j:Nat),hof (aaq sg l) j=(hof l j).map (ab4 sg):=by
 intro l;induction l with
 | nil=>intro j; rfl
 | cons v l ih=>intro j; cases j with
  | zero=>rfl
  | succ j=>exact ih j
theorem afI (h:alB l=true):∀j,j<l.length->alA (nth l j)=true:=by
 induction l with
 | nil=>intro j hj; cases hj
 | cons v l ih=>
  intro j hj;unfold alB at h;cases hv:alA v with
  | false=>simp [hv] at h
  | true=>
   simp only [hv] at h;cases j with
   | zero=>exact hv
   | succ j=>exact ih h j (by simpa using hj)
theorem ake (h:aiX l=true):∀j,j<l.length->alC (nth l j)=true:=by
 induction l with
 | nil=>intro j hj; cases hj
 | cons v l ih=>
  intro j hj;unfold aiX at h;cases hv:alC v with
  | false=>simp [hv] at h
  | true=>
   simp only [hv] at h;cases j with
   | zero=>exact hv
   | succ j=>exact ih h j (by simpa using hj)
theorem akf:∀(l:azt) (x k:Nat),wL l x k=none->x ∉ l:=by
 intro l;induction l with
 | nil=>intro x k _ h; cases h
 | cons y l ih=>
  intro x k h hm;unfold wL at h;cases hb:Nat.beq y x with
  | true=>simp [hb] at h
  | false=>
   simp only [hb] at h;rcases alu.1 hm with e | e
   ·subst e; simp at hb
   exact ih x (k+1) h e
theorem ao8:∀(l:azE) (j:Nat) (x:eP),hof l j=some x->Iw l j=gz x:=by
 intro l;induction l with
 | nil=>intro j x h; cases h
 | cons y l ih=>
  intro j x h;cases j with
  | zero=>cases h; rfl
  | succ j=>exact ih j x h
theorem akg {l:azE} (h:aiY l=true):∀j x,hof l j=some x->aoO x=true:=by
 induction l with
 | nil=>intro j x hx; cases hx
 | cons v l ih=>
  intro j x hx;unfold aiY at h;cases hv:aoO v with
  | false=>simp [hv] at h
  | true=>
   simp only [hv] at h;cases j with
   | zero=>cases hx; exact hv
   | succ j=>exact ih h j x hx
theorem afJ (sg:azt):∀(l:azx),(Ab.alz sg l).length=l.length:=by
 intro l;induction l with
 | nil=>rfl
 | cons v l ih=>simp [Ab.alz,ih]
theorem al9 (sg:azt):∀(l:azx) (j:Nat),nth (Ab.alz sg l) j=Ab.afm sg (nth l j):=by
 intro l;induction l with
 | nil=>intro j; rfl
 | cons v l ih=>intro j; cases j with
  | zero=>rfl
  | succ j=>exact ih j
theorem ao9 (h:okA l=true):∀j,j<l.length->aoN (nth l j)=true:=by
 induction l with
 | nil=>intro j hj; cases hj
 | cons v l ih=>
  unfold okA at h;cases hv:aoN v with
  | false=>rw [hv] at h; cases h
  | true=>
   rw [hv] at h;intro j hj;cases j with
   | zero=>exact hv
   | succ j=>exact ih h j (by simpa using hj)
section back
variable {w':World} {I':Nat->Prop} {O' On:OM} {n:Nat} {D2:Nat->Prop} {full:azt}
theorem fB.afm (hlive:∀j,j<n->D2 (iB full j)) (jP:∀j p,O' j=some p->j<n) (hon:∀j,j<n->On (iB full j)=O' j) (hu:aoN u=true) (h:fB w' I' O' (λ k=>k<n) u x):fB w' I' On D2 (Ab.afm full u) x:=by
 cases u with
 | ptr j i off=>
  cases hj:O' j with
  | none=>
   have hlt:j<n:=by
    cases h with
    | pure h=>cases h
    | ptr ho=>rw [hj] at ho; cases ho
    | BU _ hd=>exact hd
   have h1:x.oneCell'=true:=by
    cases h with
    | pure h=>cases h
    | ptr ho=>rw [hj] at ho; cases ho
    | BU _ _ h1=>exact h1
   exact .BU (by rw [hon j hlt]; exact hj) (hlive j hlt) h1
  | some p=>
   obtain ⟨b,bo,sz,q1,q2,rfl⟩:=h.qg hj;exact .ptr (by rw [hon j (jP j p hj)]; exact hj) q1 q2
 | dR j i m f=>
  cases hj:O' j with
  | none=>
   have hlt:j<n:=by
    cases h with
    | pure h=>cases h
    | dR ho=>rw [hj] at ho; cases ho
    | yB _ hd=>exact hd
   have h1:x.oneCell'=true:=by
    cases h with
    | pure h=>cases h
    | dR ho=>rw [hj] at ho; cases ho
    | yB _ _ h1=>exact h1
   exact .yB (by rw [hon j hlt]; exact hj) (hlive j hlt) h1
  | some p=>
   obtain ⟨aa,cap,rfl,q1,q2,q3,q4⟩:=h.qh hj;exact .dR (by rw [hon j (jP j p hj)]; exact hj) q1 q2 q3 q4 (h.GI hj)
 | fn f cs=>cases hu
 | agg cs=>cases hu
 | jX cs=>cases hu
 | mref j=>
  cases hj:O' j with
  | none=>
   have hlt:j<n:=by
    cases h with
    | pure h=>cases h
    | mref ho=>rw [hj] at ho; cases ho
    | BS _ hd=>exact hd
   have h1:x.oneCell'=true:=by
    cases h with
    | pure h=>cases h
    | mref ho=>rw [hj] at ho; cases ho
    | BS _ _ h1=>exact h1
   exact .BS (by rw [hon j hlt]; exact hj) (hlive j hlt) h1
  | some p=>
   obtain ⟨b,bo,sz,q1,rfl⟩:=h.yD hj;exact .mref (by rw [hon j (jP j p hj)]; exact hj) q1
 | _=>exact .pure (h.BZ rfl)
theorem fB.KP (hlive:∀j,j<n->D2 (iB full j)) (jP:∀j p,O' j=some p->j<n) (hon:∀j,j<n->On (iB full j)=O' j) (hu:alA u=true) (h:fB w' I' O' (λ k=>k<n) u x):fB w' I' On D2 (Ab.KP full u) x:=by
 cases u with
 | ptr j i off=>
  cases hj:O' j with
  | none=>
   have hlt:j<n:=by
    cases h with
    | pure h=>cases h
    | ptr ho=>rw [hj] at ho; cases ho
    | BU _ hd=>exact hd
   have h1:x.oneCell'=true:=by
    cases h with
    | pure h=>cases h
    | ptr ho=>rw [hj] at ho; cases ho
    | BU _ _ h1=>exact h1
   exact .BU (by rw [hon j hlt]; exact hj) (hlive j hlt) h1
  | some p=>
   obtain ⟨b,bo,sz,q1,q2,rfl⟩:=h.qg hj;exact .ptr (by rw [hon j (jP j p hj)]; exact hj) q1 q2
 | dR j i m f=>
  cases hj:O' j with
  | none=>
   have hlt:j<n:=by
    cases h with
    | pure h=>cases h
    | dR ho=>rw [hj] at ho; cases ho
    | yB _ hd=>exact hd
   have h1:x.oneCell'=true:=by
    cases h with
    | pure h=>cases h
    | dR ho=>rw [hj] at ho; cases ho
    | yB _ _ h1=>exact h1
   exact .yB (by rw [hon j hlt]; exact hj) (hlive j hlt) h1
  | some p=>
   obtain ⟨aa,cap,rfl,q1,q2,q3,q4⟩:=h.qh hj;exact .dR (by rw [hon j (jP j p hj)]; exact hj) q1 q2 q3 q4 (h.GI hj)
 | fn f cs=>
  obtain ⟨xs,rfl,hl,hr⟩:=h.Oo;refine .fn (by rw [afJ]; exact hl) λ j hj=>?_;rw [afJ] at hj;rw [al9];exact (hr j hj).afm hlive jP hon (ao9 hu j hj)
 | agg cs=>cases hu
 | jX cs=>cases hu
 | mref j=>
  cases hj:O' j with
  | none=>
   have hlt:j<n:=by
    cases h with
    | pure h=>cases h
    | mref ho=>rw [hj] at ho; cases ho
    | BS _ hd=>exact hd
   have h1:x.oneCell'=true:=by
    cases h with
    | pure h=>cases h
    | mref ho=>rw [hj] at ho; cases ho
    | BS _ _ h1=>exact h1
   exact .BS (by rw [hon j hlt]; exact hj) (hlive j hlt) h1
  | some p=>
   obtain ⟨b,bo,sz,q1,rfl⟩:=h.yD hj;exact .mref (by rw [hon j (jP j p hj)]; exact hj) q1
 | _=>exact .pure (h.BZ rfl)
theorem fB.KQ (hlive:∀j,j<n->D2 (iB full j)) (jP:∀j p,O' j=some p->j<n) (hon:∀j,j<n->On (iB full j)=O' j) (hu:alC u=true) (h:fB w' I' O' (λ k=>k<n) u x):fB w' I' On D2 (Ab.KQ full u) x:=by
 cases u with
 | agg cs=>
  obtain ⟨xs,rfl,hl,hr⟩:=h.vY;refine .agg (by rw [Vg]; exact hl) λ j hj=>?_;rw [Vg] at hj;rw [afH];exact (hr j hj).KP hlive jP hon (afI hu j hj)
 | jX cs=>cases hu
 | undef=>exact fB.KP (u:=.undef) hlive jP hon hu h
 | bool b=>exact fB.KP (u:=.bool b) hlive jP hon hu h
 | int k n'=>exact fB.KP (u:=.int k n') hlive jP hon hu h
 | str s=>exact fB.KP (u:=.str s) hlive jP hon hu h
 | sl es m f g=>exact fB.KP (u:=.sl es m f g) hlive jP hon hu h
 | ro cs=>exact fB.KP (u:=.ro cs) hlive jP hon hu h
 | ptr o' i off=>exact fB.KP (u:=.ptr o' i off) hlive jP hon hu h
 | dR o' i m f=>exact fB.KP (u:=.dR o' i m f) hlive jP hon hu h
 | fn f cs=>exact fB.KP (u:=.fn f cs) hlive jP hon hu h
 | Gm=>exact fB.KP (u:=.Gm) hlive jP hon hu h
 | mref o=>exact fB.KP (u:=.mref o) hlive jP hon hu h
 | pm a b c=>exact fB.KP (u:=.pm a b c) hlive jP hon hu h
theorem fB.aoM (hlive:∀j,j<n->D2 (iB full j)) (jP:∀j p,O' j=some p->j<n) (hon:∀j,j<n->On (iB full j)=O' j) (hu:atg u=true) (h:fB w' I' O' (λ k=>k<n) u x):fB w' I' On D2 (Ab.aoM full u) x:=by
 cases u with
 | jX cs=>
  obtain ⟨xs,rfl,hl,hr⟩:=h.KU;refine .jX (by rw [acZ]; exact hl) λ j hj=>?_;rw [acZ] at hj;rw [akc];exact (hr j hj).KQ hlive jP hon (ake hu j hj)
 | agg cs=>exact fB.KQ (u:=.agg cs) hlive jP hon hu h
 | undef=>exact fB.KQ (u:=.undef) hlive jP hon hu h
 | bool b=>exact fB.KQ (u:=.bool b) hlive jP hon hu h
 | int k n'=>exact fB.KQ (u:=.int k n') hlive jP hon hu h
 | str s=>exact fB.KQ (u:=.str s) hlive jP hon hu h
 | sl es m f g=>exact fB.KQ (u:=.sl es m f g) hlive jP hon hu h
 | ro cs=>exact fB.KQ (u:=.ro cs) hlive jP hon hu h
 | ptr o' i off=>exact fB.KQ (u:=.ptr o' i off) hlive jP hon hu h
 | dR o' i m f=>exact fB.KQ (u:=.dR o' i m f) hlive jP hon hu h
 | fn f cs=>exact fB.KQ (u:=.fn f cs) hlive jP hon hu h
 | Gm=>exact fB.KQ (u:=.Gm) hlive jP hon hu h
 | mref o=>exact fB.KQ (u:=.mref o) hlive jP hon hu h
 | pm a b c=>exact fB.KQ (u:=.pm a b c) hlive jP hon hu h
theorem je.ab4 (hlive:∀j,j<n->D2 (iB full j)) (jP:∀j p,O' j=some p->j<n) (hon:∀j,j<n->On (iB full j)=O' j) {ob:eP} {p:Own} (hu:aoO ob=true) (hg:aao ob=false) (h:je w' I' O' (λ k=>k<n) p ob):je w' I' On D2 p (Ab.ab4 full ob):=by
 cases ob with
 | box cs=>
  obtain ⟨q1,b,bo,sz,q2,q3,q4,q5⟩:=h;refine ⟨q1,b,bo,sz,q2,q3,by rw [Vg]; exact q4,λ j hj=>?_⟩;rw [Vg] at hj;rw [afH];exact (q5 j hj).KP hlive jP hon (afI hu j hj)
 | row es m g=>exact h
 | map kd z f=>exact h
theorem apa (full:azt) (x:eP):gz (ab4 full x)=(gz x).map (ab4 full):=by
 cases x with
 | box=>rfl
 | row=>rfl
 | map kd z f=>
  simp only [ab4,gz];cases aao (.map kd z f)<;>rfl
end back
set_option maxHeartbeats 1000000 in
theorem afK (hR:Rel cfg cx H D w I O) (hn:aaz D eY) {f:FuncId} {args:azx} {vals:Array Value} {sg0:azt} (hrun:∀fn,P.funcs[f]? = some fn->fn.body.isNone=false->(fn.name == "runtime.NumGoroutine")=false->(execOp a.eval o).run P w=.ok (.enter f vals) w)
  (hvl:vals.size=args.length) (hva:∀j,j<args.length->fB w I O D (nth args j) (vals.getD j Go.undef)) (h:gq (Spec P cfg) H (ZU eY f args sg0) v ups r):fT P cfg cx H D w I O eY o a v ups:=by
 unfold ZU at h;obtain ⟨sg,r0,h0⟩:=adX _ _ _ _ _ h;obtain ⟨hnd,h1⟩:=h0.dF;obtain ⟨obs,r1,h2,hol,acd⟩:=afD _ _ _ h1;have hlive:∀j,j<sg.length->∃x,H (iB sg j)=some x:=λ j hj=>let ⟨x,_,hx⟩:=acd j hj; ⟨x,hx⟩
 obtain ⟨ajZ,h3,avp,hinv⟩:=afF hR hlive obs _ _ h2;obtain ⟨args',ids,r2,h4,hal,ama⟩:=Ov hR hlive args _ _ h3;obtain ⟨hdj,h5⟩:=h4.dF;cases h5 with
 | @call _ _ _ _ res fQ _ _ _ hspec h6=>
 obtain ⟨avq,h7⟩:=h6.dF;obtain ⟨hlen',h8⟩:=h7.dF;obtain ⟨hpr,h9⟩:=h8.dF;obtain ⟨rfl,rfl⟩:=h9.mJ;have hlen':fQ.length<=sg.length+stride:=ag5 hlen';clear h h0 h1 h2 h3 h4 h6 h7 h8 h9;obtain ⟨⟨fn,hf1,hf2,hf3⟩,hle,hcall⟩:=hspec;have atx:ajZ.length=sg.length:=avp.trans hol;have hRs:=hR.sub (ids:=ids) (obs:=ajZ) hnd hdj atx (λ j hj=>by
  obtain ⟨x,q1,q2⟩:=acd j hj;obtain ⟨y,q3,q4⟩:=hinv j x q1;exact ⟨x,y,q3,q2,q4 _ (λ _ h=>.inl h)⟩)
 have aty:∀j,j<sg.length->D (iB sg j):=λ j hj=>by
  obtain ⟨x,hx⟩:=hlive j hj;obtain ⟨p,hp,_⟩:=hR.live hx;exact hR.used _ p hp
 generalize hnw:fQ.length - sg.length=nw;have avr:sg.length+nw=fQ.length:=by omega
 have azK:nw<=stride:=by omega
 have ari:∀k,eY<=k->k<eY+nw->k ∉ sg:=λ k hk1 hk2 hm=>by
  obtain ⟨j,h1,h2⟩:=aaL sg k hm;exact hn k hk1 om (h2 ▸ aty j h1)
 have azL:∀k,eY<=k->k<eY+nw->O k=none:=λ k hk1 hk2=>by
  cases h:O k with
  | none=>rfl
  | some p=>exact absurd (hR.used k p h) (hn k hk1 om)
 have hfl:(sg++lQ nw eY).length=fQ.length:=by rw [afa,ahL]; exact avr
 have afL:∀j,j<sg.length->iB (sg++lQ nw eY) j=iB sg j:=λ j hj=>ahN _ _ _ hj;have afM:∀j,sg.length<=j->j<fQ.length->iB (sg++lQ nw eY) j=eY+(j - sg.length):=λ j h1 h2=>by
  rw [ahO _ _ _ h1,ahM _ _ _ om]
 have avs:qb (sg++lQ nw eY)=true:=acf _ λ i j hi hj e=>by
  rw [hfl] at hi hj;by_cases h1:i<sg.length
  ·by_cases h2:j<sg.length
   ·rw [afL i h1,afL j h2] at e;exact KX sg hnd i j h1 h2 e
   rw [afL i h1,afM j om hj] at e;exact absurd (sS sg i h1) (by rw [e]; exact ari _ om om)
  by_cases h2:j<sg.length
  ·rw [afM i om hi,afL j h2] at e;exact absurd (sS sg j h2) (by rw [<- e]; exact ari _ om om)
  rw [afM i om hi,afM j om hj] at e;omega
 intro next Q hnx
 refine afG (hrun fn hf1 hf2 hf3) ((hcall w _ _ vals hRs om (λ j hj=>by rw [atx]; exact ama j om _ (hva j om))).mono ?_);rintro e w' ⟨x,I',O',rfl,hR',hres⟩;refine ⟨x,rfl,?_⟩;let On:OM:=λ k=>if eY<=k∧k<eY+nw then O' (sg.length+(k - eY)) else match wL sg k 0 with
  | some j=>O' j
  | none=>if k∈ids then none else O k
 have hMc:∀b,(NI w (λ b=>I b∨Gl O ids b) (qP O sg) ajZ.length).M b->∃j p bo sz,j<sg.length∧O (iB sg j)=some p∧p.pl=some (b,bo,sz):=by
  rintro b ⟨j,p,bo,sz,h1,h2⟩;unfold qP at h1;split at h1
  ·exact ⟨j,p,bo,sz,by assumption,h1,h2⟩
  cases h1
 have arj:∀j,j<sg.length->O' j=O (iB sg j)∨O' j=none:=λ j hj=>by
  rcases hR'.ZY j (show j<ajZ.length by omega) with h | h
  ·left;rw [h];show qP O sg j=_;unfold qP;rw [if_pos hj]
  exact .inr h
 have hidx:∀k,k∈sg->∃j,wL sg k 0=some j∧j<sg.length∧iB sg j=k:=λ k hk=>by
  cases h:wL sg k 0 with
  | none=>exact absurd hk (akf sg k 0 h)
  | some j=>
   obtain ⟨_,h1,h2⟩:=Jr sg k 0 j h;exact ⟨j,rfl,by simpa using h1,by simpa using h2⟩
 have amb:∀k,k ∉ sg->wL sg k 0=none:=λ k hk=>by
  cases h:wL sg k 0 with
  | none=>rfl
  | some j=>
   obtain ⟨_,h1,h2⟩:=Jr sg k 0 j h;exact absurd (h2 ▸ sS sg _ h1) hk
 have afN:∀j,j<sg.length->On (iB sg j)=O' j:=λ j hj=>by
  have h1:¬ (eY<=iB sg j∧iB sg j<eY+nw):=λ h=>ari _ h.1 h.2 (sS sg j hj);obtain ⟨j2,h2,h3,h4⟩:=hidx _ (sS sg j hj);have:j2=j:=KX sg hnd j2 j h3 hj h4;subst this;show (if _ then _ else _)=_;rw [if_neg h1,h2]
 have ark:∀k,D k->On k=O k∨On k=none:=λ k hk=>by
  have h1:¬ (eY<=k∧k<eY+nw):=λ h=>hn k h.1 om hk;by_cases hs:k∈sg
  ·obtain ⟨j,_,h3,h4⟩:=hidx k hs;have:=afN j h3;rw [h4] at this;rw [this];rcases arj j h3 with h | h
   ·rw [h,h4]; exact .inl rfl
   exact .inr h
  show (if _ then _ else _)=_∨(if _ then _ else _)=_;rw [if_neg h1,amb k hs];by_cases h2:k∈ids<;>simp [h2]
 have Ox:∀ {k p},¬ (eY<=k∧k<eY+nw)->On k=some p->O k=some p∧k ∉ ids:=λ {k p} h1 h=>by
  by_cases hs:k∈sg
  ·obtain ⟨j,_,h3,h4⟩:=hidx k hs;have h5:=afN j h3;rw [h4,h] at h5;rcases arj j h3 with h6 | h6
   ·rw [h6,h4] at h5;exact ⟨h5.symm,λ hm=>TW ids sg hdj _ hm hs⟩
   rw [h6] at h5; cases h5
  have h':(if eY<=k∧k<eY+nw then O' (sg.length+(k - eY)) else match wL sg k 0 with
   | some j=>O' j
   | none=>if k∈ids then none else O k)=some p:=h
  rw [if_neg h1,amb k hs] at h';simp only at h';by_cases h2:k∈ids
  ·simp [h2] at h'
  rw [if_neg h2] at h';exact ⟨h',h2⟩
 have TY:∀ {k},(eY<=k∧k<eY+nw)->On k=O' (sg.length+(k - eY)):=λ {k} h=>by
  show (if _ then _ else _)=_;rw [if_pos h]
 have hon:∀j,j<fQ.length->On (iB (sg++lQ nw eY) j)=O' j:=λ j hj=>by
  by_cases h1:j<sg.length
  ·rw [afL j h1,afN j h1]
  rw [afM j om hj,TY ⟨by omega,by omega⟩];congr 1;omega
 have hD2:∀j,j<fQ.length->Gn D eY (iB (sg++lQ nw eY) j):=λ j hj=>by
  by_cases h1:j<sg.length
  ·rw [afL j h1]; exact .inl (aty j h1)
  rw [afM j om hj]; exact .inr ⟨by omega,by omega⟩
 have atz:∀j p,O' j=some p->j<fQ.length:=λ j p h=>hR'.used j p h;have arl:∀b,I b->I' b:=λ b h=>hR'.UY b (.inl h);have hI':∀b,I' b->(I b∨Gl O ids b)∨w.heap.size<=b∨∃j p bo sz,j<sg.length∧O (iB sg j)=some p∧p.pl=some (b,bo,sz):=λ b h=>by
  rcases hR'.W9 b h with h | h | h
  ·exact .inl h
  ·exact .inr (.inl h)
  exact .inr (.inr (hMc b h))
 have hfr:∀b,b<w.heap.size->(∀j p bo sz,j<sg.length->O (iB sg j)=some p->p.pl≠some (b,bo,sz))->w'.heap[b]? = w.heap[b]? := λ b hb hno=>
  hR'.frame b hb (λ hm=>by obtain ⟨j,p,bo,sz,h1,h2,h3⟩:=hMc b hm; exact hno j p bo sz h1 h2 h3)
 have atA:∀b,I b->w'.heap[b]? = w.heap[b]? := λ b hb=>hfr b (hR.CV b hb) (λ j p bo sz h1 h2 h3=>hR.qO _ p b bo sz h2 h3 hb);have arn:∀k p b bo sz,O k=some p->p.pl=some (b,bo,sz)->k ∉ sg->w'.heap[b]? = w.heap[b]? := λ k p b bo sz h1 h2 h3=>
  hfr b (hR.lt k p b bo sz h1 h2) (λ j p' pO sz' q1 q2 q3=>hR.inj k (iB sg j) p p' b bo sz b pO sz' h1 q2 h2 q3 (λ e=>h3 (e ▸ sS sg j q1)) rfl)
 have atB:∀j p b bo sz,sg.length<=j->O' j=some p->p.pl=some (b,bo,sz)->w.heap.size<=b∨∃j' p' pO sz',j'<sg.length∧O' j'=none∧O (iB sg j')=some p'∧p'.pl=some (b,pO,sz'):=λ j p b bo sz h1 h2 h3=>by
  rcases hR'.new _ p b bo sz h2 h3 with h | h
  ·exact .inl h
  obtain ⟨j',p',pO,sz',q1,q2,q3⟩:=hMc b h;rcases arj j' q1 with e | e
  ·exact absurd rfl (hR'.inj _ j' p p' b bo sz b pO sz' h2 (by rw [e]; exact q2) h3 q3 om)
  exact .inr ⟨j',p',pO,sz',q1,e,q2,q3⟩
 have hsep:∀j p b bo sz k p' b' pO sz',sg.length<=j->O' j=some p->p.pl=some (b,bo,sz)->¬ (eY<=k∧k<eY+nw)->On k=some p'->p'.pl=some (b',pO,sz')->b≠b':=λ j p b bo sz k p' b' pO sz' h1 h2 h3 h4 h5 h6 e=>by
  subst e;obtain ⟨q1,q2⟩:=Ox h4 h5;rcases atB j p b bo sz h1 h2 h3 with h | ⟨j',p2,bo2,sz2,e1,e2,e3,e4⟩
  ·have:=hR.lt k p' b pO sz' q1 h6;omega
  by_cases hk:k=iB sg j'
  ·rw [hk,afN j' e1,e2] at h5; cases h5
  exact hR.inj k (iB sg j') p' p2 b pO sz' b bo2 sz2 q1 e3 h6 e4 hk rfl
 have atC:∀j,j<fQ.length->nH H (EU (sg++lQ nw eY) (aaq (sg++lQ nw eY) fQ)++dead ids) (iB (sg++lQ nw eY) j)=(Iw fQ j).map (ab4 (sg++lQ nw eY)):=λ j hj=>by
  obtain ⟨x,hx⟩:=al8 fQ j hj;unfold nH;rw [Ow,adY _ _ j (ab4 (sg++lQ nw eY) x) avs (by rw [hfl]; exact hj) (by rw [akd,hx]; rfl)];simp only;rw [apa,ao8 fQ j x hx]
 have amc:∀k,k ∉ sg->¬ (eY<=k∧k<eY+nw)->nH H (EU (sg++lQ nw eY) (aaq (sg++lQ nw eY) fQ)++dead ids) k=if k∈ids then none else H k:=λ k h1 h2=>by
  have hmiss:look (EU (sg++lQ nw eY) (aaq (sg++lQ nw eY) fQ)) k=none:=ace _ _ _ (λ j q1 q2 e=>by
   rw [hfl] at q1;by_cases hj:j<sg.length
   ·rw [afL j hj] at e;exact h1 (e ▸ sS sg j hj)
   rw [afM j om q1] at e;exact h2 ⟨by omega,by omega⟩)
  unfold nH;rw [Ow,hmiss,acV];by_cases h3:k∈ids<;>simp [h3]
 have amd:∀k,k∈sg∨(eY<=k∧k<eY+nw)->∃j,j<fQ.length∧iB (sg++lQ nw eY) j=k:=λ k h=>by
  rcases h with h | h
  ·obtain ⟨j,h1,h2⟩:=aaL sg k h;exact ⟨j,by omega,by rw [afL j h1]; exact h2⟩
  exact ⟨sg.length+(k - eY),by omega,by rw [afM _ om om]; omega⟩
 have hRn:Rel cfg cx (nH H (EU (sg++lQ nw eY) (aaq (sg++lQ nw eY) fQ)++dead ids)) (Gn D eY) w' I' On:={
  dom:=λ k=>by
   by_cases hk:k∈sg∨(eY<=k∧k<eY+nw)
   ·obtain ⟨j,h1,rfl⟩:=amd k hk
    rw [atC j h1,hon j h1,hR'.dom j]
    cases Iw fQ j<;>simp
   have h1:k ∉ sg:=λ h=>hk (.inl h)
   have h2:¬ (eY<=k∧k<eY+nw):=λ h=>hk (.inr h)
   rw [amc k h1 h2]
   have:On k=if k∈ids then none else O k:=by show (if _ then _ else _)=_; rw [if_neg h2,amb k h1]
   rw [this]
   by_cases h3:k∈ids<;>simp [h3,hR.dom k]
  used:=λ k p h=>by
   by_cases hk:eY<=k∧k<eY+nw
   ·exact .inr ⟨hk.1,by omega⟩
   exact .inl (hR.used k p (Ox hk h).1)
  objs:=λ k ob p h h'=>by
   by_cases hk:k∈sg∨(eY<=k∧k<eY+nw)
   ·obtain ⟨j,h1,rfl⟩:=amd k hk
    rw [atC j h1] at h
    cases hx:Iw fQ j with
    | none=>rw [hx] at h; cases h
    | some x=>
     rw [hx] at h
     cases h
     rw [hon j h1] at h'
     obtain ⟨hx1,hx2⟩:=aj1 hx
     exact (hR'.objs j x p hx h').ab4 hD2 atz hon (akg avq j x hx1) hx2
   have h1:k ∉ sg:=λ h=>hk (.inl h)
   have h2:¬ (eY<=k∧k<eY+nw):=λ h=>hk (.inr h)
   obtain ⟨q1,q2⟩:=Ox h2 h'
   rw [amc k h1 h2,if_neg q2] at h
   exact (hR.objs k ob p h q1).mono arl atA ark (λ _ h=>.inl h) hR.used (λ b bo sz hpl=>arn k p b bo sz q1 hpl h1)
  inj:=λ k k' p p' b bo sz b' pO sz' h1 h2 h3 h4 h5=>by
   by_cases hk:eY<=k∧k<eY+nw
   ·rw [TY hk] at h1
    by_cases hk':eY<=k'∧k'<eY+nw
    ·rw [TY hk'] at h2
     exact hR'.inj _ _ p p' b bo sz b' pO sz' h1 h2 h3 h4 om
    exact hsep _ p b bo sz k' p' b' pO sz' om h1 h3 hk' h2 h4
   by_cases hk':eY<=k'∧k'<eY+nw
   ·rw [TY hk'] at h2
    exact (hsep _ p' b' pO sz' k p b bo sz om h2 h4 hk h1 h3).symm
   exact hR.inj k k' p p' b bo sz b' pO sz' (Ox hk h1).1 (Ox hk' h2).1 h3 h4 h5
  qO:=λ k p b bo sz h1 h2 h3=>by
   by_cases hk:eY<=k∧k<eY+nw
   ·rw [TY hk] at h1
    exact hR'.qO _ p b bo sz h1 h2 h3
   obtain ⟨q1,q2⟩:=Ox hk h1
   by_cases hs:k∈sg
   ·obtain ⟨j,h4,rfl⟩:=aaL sg k hs
    exact hR'.qO j p b bo sz (by rw [<- afN j h4]; exact h1) h2 h3
   rcases hI' b h3 with (h | ⟨k',p',pO,sz',e1,e2,e3⟩) | h | ⟨j,p',pO,sz',e1,e2,e3⟩
   ·exact hR.qO k p b bo sz q1 h2 h
   ·exact hR.inj k k' p p' b bo sz b pO sz' q1 e2 h2 e3 (λ e=>q2 (e ▸ e1)) rfl
   ·have:=hR.lt k p b bo sz q1 h2; omega
   exact hR.inj k _ p p' b bo sz b pO sz' q1 e2 h2 e3 (λ e=>hs (e ▸ sS sg j e1)) rfl
  lt:=λ k p b bo sz h1 h2=>by
   by_cases hk:eY<=k∧k<eY+nw
   ·rw [TY hk] at h1
    exact hR'.lt _ p b bo sz h1 h2
   exact ao6 (hR.lt k p b bo sz (Ox hk h1).1 h2) hR'.size
  CV:=hR'.CV
  size:=afQ hR.size hR'.size
  env:=hR.env.step hR'.env.same
  frame:=λ b h1 h2=>by
   rw [hfr b (ao6 h1 hR.size) (λ j p bo sz q1 q2 q3=>by
    rcases hR.new _ p b bo sz q2 q3 with h | h
    ·omega
    exact h2 h)]
   exact hR.frame b h1 h2
  new:=λ k p b bo sz h1 h2=>by
   by_cases hk:eY<=k∧k<eY+nw
   ·rw [TY hk] at h1
    rcases atB _ p b bo sz om h1 h2 with h | ⟨j',p2,bo2,sz2,e1,e2,e3,e4⟩
    ·exact .inl (afQ hR.size h)
    exact hR.new _ p2 b bo2 sz2 e3 e4
   exact hR.new k p b bo sz (Ox hk h1).1 h2
  glob:=hR'.glob
  UY:=λ b h=>arl b (hR.UY b h)
  W9:=λ b h=>by
   rcases hI' b h with (h | ⟨k',p',pO,sz',e1,e2,e3⟩) | h | ⟨j,p',pO,sz',e1,e2,e3⟩
   ·exact hR.W9 b h
   ·exact .inr (hR.new k' p' b pO sz' e2 e3)
   ·exact .inr (.inl (afQ hR.size h))
   exact .inr (hR.new _ p' b pO sz' e2 e3)
  ZY:=λ k h=>by
   rcases ark k (hR.Dm k h) with h1 | h1
   ·rw [h1]; exact hR.ZY k h
   exact .inr h1
  Dm:=λ k h=>.inl (hR.Dm k h) }
 exact hnx x w' I' On hRn (λ u y hu=>hu.mono arl atA ark (λ _ h=>.inl h) hR.used) (hres.aoM hD2 atz hon hpr)
end
end Go.Ab
namespace Go.Ab
section
variable {w:World} {I:Nat->Prop} {O:OM} {D:Nat->Prop}
theorem EY:∀(l m:azx),WX l m->l.length=m.length∧∀j,j<l.length->Le (nth l j) (nth m j):=by
 intro l;induction l with
 | nil=>intro m h; cases m with
  | nil=>exact ⟨rfl,λ j hj=>by cases hj⟩
  | cons=>exact h.elim
 | cons u l ih=>intro m h; cases m with
  | nil=>exact h.elim
  | cons v m=>
   obtain ⟨h1,h2⟩:=ih m h.2
   refine ⟨by simp [h1],λ j hj=>?_⟩
   cases j with
   | zero=>exact h.1
   | succ j=>exact h2 j (by simpa using hj)
theorem WX.refl:∀(l:azx),WX l l
 | []=>trivial
 | v::l=>⟨.refl v,WX.refl l⟩
theorem Le.Aa {cs cs':azx} (h:WX cs cs'):Le (.agg cs) (.agg cs'):=.agg (EY _ _ h).1 (EY _ _ h).2
theorem Le.roL {cs cs':azx} (h:WX cs cs'):Le (.ro cs) (.ro cs'):=.ro (EY _ _ h).1 (EY _ _ h).2
theorem ahP {u v:AV} (h:Le u v):(∀x,iP w I u x->iP w I v x)∧u.cells.length=v.cells.length∧∀j,j<u.cells.length->∀x,iP w I (nth u.cells j) x->iP w I (nth v.cells j) x:=by
 have one:∀ {u v:AV},u.cells=[u]->v.cells=[v]->(∀x,iP w I u x->iP w I v x)->(∀x,iP w I u x->iP w I v x)∧u.cells.length=v.cells.length∧∀j,j<u.cells.length->∀x,iP w I (nth u.cells j) x->iP w I (nth v.cells j) x:=by
  intro u v h1 h2 h3;rw [h1,h2];refine ⟨h3,rfl,λ j hj x hx=>?_⟩;have:j=0:=by simpa using hj
  subst this;exact h3 x hx
 induction h with
 | refl v=>exact ⟨λ _ h=>h,rfl,λ _ _ _ h=>h⟩
 | @sl es es' n n' f f' g g' hn he hf h ih=>
  subst hn;refine one rfl rfl λ x hx=>?_;cases hx with
  | sl b off vs hcap hfull ha hes hm h1 hr=>
   refine .sl b off vs hcap (λ e=>hfull (hf e)) ha (λ i hi=>?_) (λ i j hi hj=>?_) (λ i j hi hj=>?_) (λ i j hi hj=>?_)
   ·rw [<- (ih i hi).2.1,<- he om]; exact hes i hi
   ·rw [<- he om] at hj ⊢; exact hm i j hi hj
   ·rw [<- he om] at hj; exact h1 i j hi hj
   rw [<- he om] at hj; exact (ih i hi).2.2 j (by rw [hes i hi]; exact hj) _ (hr i j hi hj)
 | @ro cs cs' hl h ih=>
  refine one rfl rfl λ x hx=>?_;cases hx with
  | ro b off vs hI hm hr=>exact .ro b off vs hI (λ j hj=>hm j om) λ j hj=>(ih j om).1 _ (hr j om)
 | @agg cs cs' hl h ih=>
  refine ⟨λ x hx=>?_,hl,λ j hj x hx=>(ih j hj).1 x hx⟩;cases hx with
  | agg h1 hr=>exact .agg om λ j hj=>(ih j om).1 _ (hr j om)
 | @jX cs cs' hl h ih=>
  refine one rfl rfl λ x hx=>?_;cases hx with
  | jX h1 hr=>exact .jX om λ j hj=>(ih j om).1 _ (hr j om)
 | @fn f cs cs' hl h ih=>
  refine one rfl rfl λ x hx=>?_;cases hx with
  | fn h1 hr=>exact .fn om λ j hj=>(ih j om).1 _ (hr j om)
theorem Le.atE {u v:AV} (h:Le u v) {x:Value} (hx:iP w I u x):iP w I v x:=(ahP h).1 x hx
theorem Le.rep {u v:AV} (h:Le u v):∀ {x:Value},fB w I O D u x->fB w I O D v x:=by
 induction h with
 | refl v=>exact λ h=>h
 | sl hn he hf h ih=>intro x hx; exact .pure ((Le.sl hn he hf h).atE hx.Iy)
 | ro hl h ih=>intro x hx; exact .pure ((Le.ro hl h).atE hx.aaA)
 | agg hl h ih=>
  intro x hx;obtain ⟨vs,rfl,h1,h2⟩:=hx.vY;exact .agg om λ j hj=>ih j om (h2 j om)
 | jX hl h ih=>
  intro x hx;obtain ⟨vs,rfl,h1,h2⟩:=hx.KU;exact .jX om λ j hj=>ih j om (h2 j om)
 | fn hl h ih=>
  intro x hx;obtain ⟨vs,rfl,h1,h2⟩:=hx.Oo;exact .fn om λ j hj=>ih j om (h2 j om)
theorem LeO.rep {p:Own} {x y:eP} (h:LeO x y) (hx:je w I O D p x):je w I O D p y:=by
 cases x with
 | map=>cases y with
  | box=>exact h.elim
  | row=>exact h.elim
  | map=>obtain ⟨rfl,rfl,rfl⟩:=h; exact hx
 | box cs=>cases y with
  | row=>exact h.elim
  | map=>exact h.elim
  | box cs'=>
   obtain ⟨h1,b,bo,sz,hp,ha,hl,hr⟩:=hx
   obtain ⟨h2,h3⟩:=EY _ _ h
   exact ⟨h1,b,bo,sz,hp,ha,by omega,λ j hj=>(h3 j om).rep (hr j om)⟩
 | row es n g=>cases y with
  | box=>exact h.elim
  | map=>exact h.elim
  | row es' n' g'=>
   obtain ⟨rfl,rfl,h⟩:=h
   obtain ⟨h1,h2,h3,h4⟩:=hx
   refine ⟨h1,h2,λ i hi=>by rw [<- (ahP (w:=w) (I:=I) (h i hi)).2.1]; exact h3 i hi,?_⟩
   rcases h4 with h4 | ⟨b,bo,sz,hp,ha,hl,hr⟩
   ·exact .inl h4
   exact .inr ⟨b,bo,sz,hp,ha,hl,λ i j hi hj=>⟨(ahP (h i hi)).2.2 j (by rw [h3 i hi]; exact hj) _ (hr i j hi hj).1,(hr i j hi hj).2⟩⟩
theorem akh:∀(l m:azE),aq2 l m->l.length=m.length∧∀j x y,hof l j=some x->hof m j=some y->LeO x y:=by
 intro l;induction l with
 | nil=>intro m h; cases m with
  | nil=>exact ⟨rfl,λ j x y h=>by cases h⟩
  | cons=>exact h.elim
 | cons u l ih=>intro m h; cases m with
  | nil=>exact h.elim
  | cons v m=>
   obtain ⟨h1,h2⟩:=ih m h.2
   refine ⟨by simp [h1],λ j x y hx hy=>?_⟩
   cases j with
   | zero=>cases hx; cases hy; exact h.1
   | succ j=>exact h2 j x y hx hy
theorem ai9:∀(l:azE) (j:Nat),hof l j=none↔l.length<=j:=by
 intro l;induction l with
 | nil=>intro j; simp [hof]
 | cons x l ih=>intro j; cases j with
  | zero=>simp [hof]
  | succ j=>simp [hof,ih]
theorem Spec.le {P:Program} {cfg:yx} {f:FuncId} {args args':azx} {obs fQ:azE} {r:AV} {ob2:azE} (h:Ab.Spec P cfg f args' fQ r ob2) (ha:WX args args') (ho:aq2 obs fQ):Ab.Spec P cfg f args obs r ob2:=by
 obtain ⟨h1,h2,h3⟩:=h;obtain ⟨a1,a2⟩:=EY _ _ ha;obtain ⟨o1,o2⟩:=akh _ _ ho;refine ⟨h1,by omega,λ w I O vals hR hv hrep=>?_⟩;have hR':Rel cfg (NI w I O fQ.length) (hof fQ) (λ o=>o<fQ.length) w I O:=by
  rw [<- o1];exact { hR with
   dom:=λ o=>by rw [hR.dom o,ai9,ai9,o1]
   objs:=λ o y p hy hp=>by
    cases hx:hof obs o with
    | none=>rw [(hR.dom o).2 hx] at hp; cases hp
    | some x=>exact (o2 o x y hx hy).rep (hR.objs o x p hx hp) }
 have:=h3 w I O vals hR' om (λ j hj=>by rw [<- o1]; exact (a2 j om).rep (hrep j om));rw [<- o1] at this;exact this
end
end Go.Ab
namespace Go.Ab
open Go.MapKept
section
variable {P:Program} {cfg:yx} {cx:Ctx} {H:Nat->Option eP} {D:Nat->Prop} {w:World} {I:Nat->Prop} {O:OM} {Sp:pQ}
variable {eY:Nat} {o:Oper} {a:Act} {ρ:Operand->AV} {v:AV} {ups:lD} {r:azt}
theorem apb {z:ZK} {es:Nat} {c:AV} (h:aoP z es c=true):Le c (aqW z es c):=by
 unfold aoP at h;split at h
 ·exact .refl _
 ·rename_i k k' n;have:k=k':=of_decide_eq_true h;subst this;exact .refl _
 ·exact .refl _
 ·rename_i es' n f g;split at h
  ·rename_i hb;have:=adU hb;subst this;exact .sl rfl (λ _=>rfl) nofun λ _ _=>.refl _
  have:=adU h;subst this;exact .sl rfl (λ hn=>absurd rfl hn) nofun λ _ hi=>absurd hi (ahh _)
 cases h
theorem aki {zs:azF} {sz:Nat} {all:azx}:∀(cs:azx) (k:Nat),aoQ zs sz all k cs=true->∀j,j<cs.length->aoP (alG zs ((k+j).mod sz)) (acQ sz ((k+j).mod sz) 0 all) (nth cs j)=true:=by
 intro cs;induction cs with
 | nil=>intro k _ j hj; exact absurd hj (ahh _)
 | cons c cs ih=>
  intro k h j hj;unfold aoQ at h;split at h
  ·rename_i hf;cases j with
   | zero=>exact hf
   | succ j=>
    have:=ih (k+1) h j (by simpa using hj);rw [show k+(j+1)=k+1+j by omega];exact this
  cases h
theorem ame (all:azx) (b sz:Nat):∀(zs:azF) (j0 j:Nat),j<zs.length->nth (afo all b sz j0 zs) j=aqW (alG zs j) (acQ sz (j0+j) 0 all) (nth all (b+(j0+j))):=by
 intro zs;induction zs with
 | nil=>intro j0 j h; exact absurd h (ahh _)
 | cons z zs ih=>
  intro j0 j h;cases j with
  | zero=>rfl
  | succ j=>
   have:=ih (j0+1) j (by simpa using h);simp only [afo,nth,alG];rw [this,show j0+1+j=j0+(j+1) by omega]
theorem YB (all:azx) (b sz:Nat):∀(zs:azF) (j0:Nat),(afo all b sz j0 zs).length=zs.length:=by
 intro zs;induction zs with
 | nil=>intro _; rfl
 | cons z zs ih=>intro j0; simp only [afo,ajO,ih]
variable {t:TypeId}
theorem amf (hc:iL P cfg) (hR:Rel cfg cx H D w I O) {x ix:Operand} (ho:o.op=.index t x ix) (hx:fB w I O D (ρ x) (a.eval x)) (hix:fB w I O D (ρ ix) (a.eval ix))
  (h:gq Sp H (iC cfg eY (.index t x ix) ρ) v ups r):fT P cfg cx H D w I O eY o a v ups:=by
 simp only [iC] at h;obtain ⟨ti,ht,h1⟩:=h.l8;obtain ⟨_,dd,_,_,hud,_,_,_,_,_,_,_,hm⟩:=(hc.ty t ti ht).ex;split at h1
 ·rename_i b k i e1 e2 e3;rw [e1] at hm;have hm:dd=.string:=hm;subst hm;rw [e2] at hx;rw [e3] at hix;have hxv:=hx.D6;have afu:=hix.jg;obtain ⟨⟨hn0,hn1⟩,rfl,rfl⟩:=h1.jl;refine fT.fE (x:=.int .u8 (gI b i.toNat)) hR ?_ (.pure (.int _ _));have hlt:i.toNat<b.size:=by omega
  have hb:b[i.toNat]? = some b[i.toNat]:=by simp [hlt]
  simp [execOp,ho,hxv,afu,Instr.index,asIntOf,dK hud,hn0,gI,hb]
 ·rename_i n et cs k i e1 e2 e3;rw [e1] at hm;have hm:dd=.array n et:=hm;subst hm;rw [e2] at hx;rw [e3] at hix;obtain ⟨vs,hxv,hl,hr⟩:=hx.vY;have afu:=hix.jg;obtain ⟨ei,he,h2⟩:=h1.l8;obtain ⟨ie,de,hie,atv,hde,ao4⟩:=hc.agg he;unfold alH at h2;obtain ⟨c0,h2⟩:=h2.dF;obtain ⟨z0,z1⟩:=Ou c0;obtain ⟨c1,h3⟩:=h2.dF;obtain ⟨c2,h4⟩:=h3.dF;obtain ⟨c3,h5⟩:=h4.dF;have c1:=adU c1;have c2:=adU c2;obtain ⟨⟨hn0,hn1⟩,rfl,rfl⟩:=h5.jl;have hlt:i.toNat<n:=by omega
  have hle:i.toNat*ei.size+ei.size<=cs.length:=by
   rw [c1,<- alo];exact afh _ hlt
  have hcell:∀j,j<ei.size->fB w I O D (nth (afo cs (i.toNat*ei.size) ei.size 0 ei.zero) j) (vs.getD (i.toNat*ei.size+j) Go.undef):=by
   intro j hj;rw [ame _ _ _ _ _ _ om,ahi];have hf:=aki cs 0 c3 (i.toNat*ei.size+j) om;have hmod:(0+(i.toNat*ei.size+j)).mod ei.size=j:=by
    show (0+(i.toNat*ei.size+j)) % ei.size=j;rw [ahi,asR,ayO];exact ayE hj
   rw [hmod] at hf;exact (apb hf).rep (hr _ om)
  have hag:=Xb atv w;rw [hde] at hag;have hrun:∀u,(part et vs (i.toNat*ei.size)).run P w=.ok u w->(execOp a.eval o).run P w=.ok (.value u) w:=by
   intro u hu;rw [<- ao4] at hu;have hi':(0:Int)<=i∧i<n:=⟨hn0,hn1⟩;have hz:gJ (w:=w) hie=gJ (w:=w) hie:=rfl;simp only [execOp,ho,hxv,afu,Instr.index,asIntOf,Sem.run_bind,Sem.run_pure,Result.andThen_ok,dK hud,hi',and_self,if_true,gJ hie,hu]
  cases ha:ei.agg with
  | true=>
   rw [ha] at hag;have e1:(part et vs (i.toNat*ei.size)).run P w=.ok (.agg (vs.extract (i.toNat*ei.size) (i.toNat*ei.size+ei.size))) w:=by simp [part,Sem.run_bind,hag,gJ hie,ao4]
   refine fT.fE hR (hrun _ e1) (.agg ?_ λ j hj=>?_)
   ·rw [YB,c2]; simp; omega
   rw [YB,c2] at hj;have h6:=hcell j hj;have h4:i.toNat*ei.size+j<vs.size:=by omega
   have h5:(vs.extract (i.toNat*ei.size) (i.toNat*ei.size+ei.size))[j]? = vs[i.toNat*ei.size+j]? := by
    rw [Array.getElem?_extract,if_pos om]
   simp only [an7, h5];simpa [h4] using h6
  | false=>
   rw [ha] at hag;have hs1:ei.size=1:=z1 ha;have h4:i.toNat*ei.size<vs.size:=by omega
   have e1:(part et vs (i.toNat*ei.size)).run P w=.ok (vs.getD (i.toNat*ei.size) Go.undef) w:=by simp [part,Sem.run_bind,hag,ali h4]
   exact fT.fE hR (hrun _ e1) (hcell 0 om)
 exact (gq.bM h1).elim
def ahQ (cfg:yx) (kt:TypeId):TD->Prop
 | .struct [(0,a),(1,b)]=>∃ia ib,look cfg.ty a=some ia∧look cfg.ty b=some ib∧ia.desc=.int .i64∧ib.desc=.int .i64∧look cfg.eqs kt=some [.int .i64,.int .i64]
 | _=>True
theorem aaM {k:TS->TS->Pg} (h:gq Sp H (alE cfg t k) v ups r):∃ti kt et ki ei,look cfg.ty t=some ti∧ti.desc=.map kt et∧look cfg.ty kt=some ki∧look cfg.ty et=some ei∧ei.agg=false∧ahQ cfg kt ki.desc∧gq Sp H (k ki ei) v ups r:=by
 unfold alE at h;split at h
 ·rename_i ti ht;split at h
  ·rename_i kt et hd;obtain ⟨ki,hk,h1⟩:=h.l8;obtain ⟨ei,he,h2⟩:=h1.l8;obtain ⟨ha,h3⟩:=h2.dF;refine ⟨ti,kt,et,ki,ei,ht,hd,hk,he,by simpa using ha,?_⟩;unfold aqn at h3;split at h3
   ·rename_i a b e;obtain ⟨ia,hia,h4⟩:=h3.l8;obtain ⟨ib,hib,h5⟩:=h4.l8;obtain ⟨c1,h6⟩:=h5.dF;obtain ⟨c2,h7⟩:=h6.dF;obtain ⟨c3,h8⟩:=h7.dF;rw [e];exact ⟨⟨ia,ib,hia,hib,of_decide_eq_true c1,of_decide_eq_true c2,of_decide_eq_true c3⟩,h8⟩
   rename_i hne;refine ⟨?_,h3⟩;unfold ahQ;split
   ·rename_i a b e;exact absurd e (hne a b)
   trivial
  exact (gq.bM h).elim
 exact (gq.bM h).elim
theorem ahR (hR:Rel cfg cx H D w I O) (hn:¬ D eY) (ho:o.op=.makeMap t none) (h:gq Sp H (iC cfg eY (.makeMap t none) ρ) v ups r):fT P cfg cx H D w I O eY o a v ups:=by
 simp only [iC] at h;obtain ⟨ti,kt,et,ki,ei,ht,hd,hk,he,_,_,h1⟩:=aaM h;obtain ⟨rfl,rfl⟩:=h1.mJ;intro next Q hnx
 have hrun:(execOp a.eval o).run P w=.ok (.value (.map (some w.heap.size))) (w.alloc (.map #[] 0)):=by
  simp [execOp,ho,Instr.makeMap,newObj];rfl
 have hat:(w.alloc (.map #[] 0)).heap[w.heap.size]? = some (.map #[] 0):=by
  show (w.heap.push (.map #[] 0))[w.heap.size]? = _;simp
 refine CY hrun (hnx _ _ I (mK O eY ⟨0,1,some (w.heap.size,0,0)⟩) (hR.aqs hn _ _ _ 0 rfl ?_) (λ u y hu=>hu.push hR _ _ hn) (.mref (p:=⟨0,1,some (w.heap.size,0,0)⟩) (by simp [mK]) rfl));exact ⟨rfl,_,_,_,#[],0,rfl,hat,⟨λ e he=>by simp at he,by simp,λ k n hk=>by cases hk⟩⟩
theorem Xh {u:AV} {k:dV} {x:Value} (h:keyOf u=some k) (hx:fB w I O D u x):x=wM k:=by
 unfold keyOf at h;split at h
 ·cases h; exact hx.D6
 ·cases h; exact hx.jg
 cases h
theorem amg {k k':dV} (h:wM k=wM k'):k=k':=by
 cases k<;>cases k'<;>cases h<;>rfl
theorem adZ (k:dV) (w:World):(Instr.keyThatStays (wM k) (wM k)).run P w=.ok (wM k) w:=by
 have h:Instr.sameBits 10000 (wM k) (wM k)=true:=by
  cases k with
  | s b=>simp [wM,Instr.sameBits,MapKept.bytes_beq]
  | i n=>simp [wM,Instr.sameBits]
  | p a b=>simp [wM,Instr.sameBits]
 simp [Instr.keyThatStays,h]
structure ahS (P:Program) (kt:TypeId) (kd:TD):Prop where
 check:∀k,yA kd k=true->∀(e:Bool) (w:World),(Instr.checkKey e 10000 kt (wM k)).run P w=.ok () w
 find:∀k,yA kd k=true->∀(es:List MapEntry) (w:World),(∀e∈es,∃k',e.key=wM k'∧yA kd k'=true)->((Instr.findKey kt (wM k) es).run P w=.ok none w∧∀e∈es,e.key≠wM k)∨∃(j:Nat) (e:MapEntry),(Instr.findKey kt (wM k) es).run P w=.ok (some (j,e.val)) w∧es[j]? = some e∧e.key=wM k
theorem Vh {kt:TypeId} {d:TypeDesc} {kd:TD} (hu:P.underlying kt=some d) (hk:∀k',yA kd k'=true->IsKey d (wM k')):ahS P kt kd where
 check:=λ k h e w=>run_checkKey hu (hk k h) e 9999
 find:=λ k h es w hes=>by
  rcases findNow_spec (hk k h) es 0 (λ e he=>by obtain ⟨k',q1,q2⟩:=hes e he; rw [q1]; exact hk k' q2) with ⟨g1,g2⟩ | ⟨j,e,g1,g2,g3⟩
  ·exact .inl ⟨run_findKey hu g1,g2⟩
  refine .inr ⟨j,e,?_,g2,g3⟩;rw [ahi] at g1;exact run_findKey hu g1
theorem aja (hc:iL P cfg) {kt:TypeId} {ki:TS} (hk:look cfg.ty kt=some ki) (hp:ahQ cfg kt ki.desc) {k:dV} (h:yA ki.desc k=true):ahS P kt ki.desc:=by
 obtain ⟨_,d,_,_,hu,_,_,_,_,_,_,_,hm⟩:=(hc.ty kt ki hk).ex;cases hdd:ki.desc with
 | str=>
  rw [hdd] at hm;have hm:d=.string:=hm;subst hm;exact Vh hu λ k' h'=>by cases k'<;>first | trivial | cases h'
 | int kk=>
  rw [hdd] at hm;have hm:d=.int kk:=hm;subst hm;exact Vh hu λ k' h'=>by
   cases k' with
   | i n=>cases kk<;>first | (cases h'; done) | rfl
   | _=>cases h'
 | _=>rw [hdd] at h; cases k<;>cases h
theorem afO {z:azF} (hz:WU z=true) (n:Int):iP w I (aqU z n) (WY z n):=by
 match z,hz with
 | [.bool],_=>exact .bool _
 | [.int k],_=>exact .int _ _
end
end Go.Ab
namespace Go.Ab
open Go.MapKept
section
variable {P:Program} {cfg:yx} {cx:Ctx} {H:Nat->Option eP} {D:Nat->Prop} {w:World} {I:Nat->Prop} {O:OM} {Sp:pQ}
variable {eY:Nat} {o:Oper} {a:Act} {ρ:Operand->AV} {v:AV} {ups:lD} {r:azt}
variable {z:azF}
theorem afP {kt:TypeId} {kd:TD} {f:dV->Option Int} {es:Array MapEntry} (hm:WZ kd z f es) {k:dV} (hk:ahS P kt kd) (hkf:yA kd k=true) (w:World):
  ((Instr.findKey kt (wM k) es.toList).run P w=.ok none w∧f k=none∧∀e∈es.toList,e.key≠wM k)∨∃j e n,(Instr.findKey kt (wM k) es.toList).run P w=.ok (some (j,WY z n)) w∧es[j]? = some e∧e.key=wM k∧f k=some n∧e.val=WY z n:=by
 rcases hk.find k hkf es.toList w (λ e he=>by
  obtain ⟨k',n',q1,q2,_⟩:=hm.keys e he;exact ⟨k',q1,q2⟩) with ⟨g1,g2⟩ | ⟨j,e,g1,g2,g3⟩
 ·refine .inl ⟨g1,?_,g2⟩;cases hf:f k with
  | none=>rfl
  | some n=>
   obtain ⟨e,he1,he2⟩:=hm.all k n hf;exact absurd he2 (g2 e he1)
 obtain ⟨k',n',q1,q2,q3,q4⟩:=hm.keys e (List.mem_of_getElem? g2);rw [g3] at q1;have:=amg q1;subst this;exact .inr ⟨j,e,n',by rw [g1,q4],by simpa using g2,g3,q3,q4⟩
theorem afR (hz:WU z=true) {x:Value} (h1:x.cells=#[x]) (hm:Om (z.getD 0 .other) (x.cells.getD 0 Go.undef)):x=WY z 0:=by
 rw [h1] at hm;match z,hz with
 | [.bool],_=>exact hm
 | [.int k],_=>exact hm
theorem akj (hc:iL P cfg) (hR:Rel cfg cx H D w I O) {t:TypeId} {x ix:Operand} {okk:Bool} (ho:o.op=.lookup t x ix okk) (hx:fB w I O D (ρ x) (a.eval x)) (hix:fB w I O D (ρ ix) (a.eval ix))
  (h:gq Sp H (iC cfg eY (.lookup t x ix okk) ρ) v ups r):fT P cfg cx H D w I O eY o a v ups:=by
 simp only [iC] at h;obtain ⟨ti,kt,et,ki,ei,ht,hd,hk,he,hag,amh,h1⟩:=aaM h;have main:∀(b:Nat) (kd:TD) (z:azF) (f:dV->Option Int) (es:Array MapEntry) (clock:Nat) (k:dV),a.eval x=.map (some b)->a.eval ix=wM k->w.heap[b]? = some (.map es clock)->WZ kd z f es->kd=ki.desc->z=ei.zero->WU z=true->yA ki.desc k=true->fT P cfg cx H D w I O eY o a (aiZ z f k okk) []:=by
  intro b kd z f es clock k hxv hkv hw hm c1 c2 c3 hkf;obtain ⟨_,dd,_,_,hud,_,_,_,_,_,_,_,hmt⟩:=(hc.ty t ti ht).ex;rw [hd] at hmt;have hmt:dd=.map kt et:=hmt;subst hmt;have hko:=aja hc hk amh hkf;obtain ⟨ie,_,ze,hie,_,hze,hse,_,_,hzc,hzl,Yw,_⟩:=(hc.ty et ei he).ex;have hz1:=(hc.ty et ei he).one hag ie ze hie hze;rw [<- c1] at hko hkf;have Xi:=λ e=>hko.check k hkf e w;have hrep:∀q,iP w I (aiZ z f k okk) (if okk=true then Value.tuple #[WY z (jJ f k),.bool q] else WY z (jJ f k))∨q≠(f k).isSome:=by
   intro q;by_cases hq:q=(f k).isSome
   ·left;subst hq;cases okk with
    | false=>exact afO c3 _
    | true=>
     refine .jX rfl λ j hj=>?_;match j,hj with
     | 0,_=>exact afO c3 _
     | 1,_=>exact .bool _
   exact .inr hq
  rcases afP hm hko hkf w with ⟨g1,g2,_⟩ | ⟨j,e,n,g1,g2,g3,g4,g5⟩
  ·have e0:jJ f k=0:=by unfold jJ; rw [g2]; rfl
   have hz0:ze=WY z (jJ f k):=by
    rw [e0];refine afR c3 hz1 ?_;have hsz:0<ei.size:=by
     have:ze.cells.size=1:=by rw [hz1]; rfl
     omega
    have:=Yw 0 hsz;rwa [<- c2] at this
   rcases hrep false with hr | hr
   ·refine fT.fE hR ?_ (.pure hr);simp [execOp,ho,hxv,hkv,Instr.lookup,dK hud,MapKept.run_getObj_map hw,Xi,g1,zeroValue,typeInfo,hie,hze,hz0]
   rw [g2] at hr; exact absurd rfl hr
  have e0:jJ f k=n:=by unfold jJ; rw [g4]; rfl
  rcases hrep true with hr | hr
  ·refine fT.fE hR ?_ (.pure hr);simp [execOp,ho,hxv,hkv,Instr.lookup,dK hud,MapKept.run_getObj_map hw,Xi,g1,e0]
  rw [g4] at hr; exact absurd rfl hr
 split at h1
 ·rename_i ob k e1 e2;rw [e1] at hx;have hkv:=Xh e2 hix;obtain ⟨hkf,h2⟩:=h1.dF;obtain ⟨obj,_,rY,h3⟩:=h2.rQ;obtain ⟨p,hp,hO⟩:=hR.live rY;cases obj with
  | box=>exact (gq.bM h3).elim
  | row=>exact (gq.bM h3).elim
  | map kd z f=>
   obtain ⟨c1,h4⟩:=h3.dF;obtain ⟨c2,h5⟩:=h4.dF;obtain ⟨c3,h6⟩:=h5.dF;obtain ⟨rfl,rfl⟩:=h6.fO;obtain ⟨hn,b,bo,sz,es,clock,hpl,hw,hm⟩:=hO;obtain ⟨b',pO,sz',hpl',hxv⟩:=hx.yD hp;rw [hpl] at hpl';cases hpl';exact main b kd z f es clock k hxv hkv hw hm (of_decide_eq_true c1) (of_decide_eq_true c2) c3 hkf
 ·rename_i kd z f k e1 e2;rw [e1] at hx;have hkv:=Xh e2 hix;obtain ⟨hkf,h2⟩:=h1.dF;obtain ⟨c1,h4⟩:=h2.dF;obtain ⟨c2,h5⟩:=h4.dF;obtain ⟨c3,h6⟩:=h5.dF;obtain ⟨rfl,rfl⟩:=h6.fO;obtain ⟨b,es,clock,_,hw,hm,hxv⟩:=hx.aq4;exact main b kd z f es clock k hxv hkv hw hm (of_decide_eq_true c1) (of_decide_eq_true c2) c3 hkf
 exact (gq.bM h1).elim
theorem ami {u:AV} {n:Int} {x:Value} (h:aqV z u=some n) (hx:fB w I O D u x):x=WY z n:=by
 unfold aqV at h;split at h
 ·split at h
  ·rename_i b _;cases h;rw [hx.mE];cases b<;>rfl
  cases h
 ·split at h
  ·split at h
   ·rename_i k m k' _ e;cases h;have:=of_decide_eq_true e;subst this;rw [hx.jg];rfl
   cases h
  cases h
 cases h
theorem ac0 (f:dV->Option Int) (k:dV) (n:Int):CX f k n k=some n:=by simp [CX]
theorem Z5 (f:dV->Option Int) {k k':dV} (n:Int) (h:k'≠k):CX f k n k'=f k':=by simp [CX,h]
theorem Vi (hc:iL P cfg) (hR:Rel cfg cx H D w I O) {t:TypeId} {x ix y:Operand} (ho:o.op=.mapUpdate t x ix y∨o.op=.insert t x ix y) (hx:fB w I O D (ρ x) (a.eval x)) (hix:fB w I O D (ρ ix) (a.eval ix)) (hy:fB w I O D (ρ y) (a.eval y))
  (h:gq Sp H (ai1 cfg t (ρ x) (ρ ix) (ρ y)) v ups r):fT P cfg cx H D w I O eY o a v ups:=by
 unfold ai1 at h;obtain ⟨ti,kt,et,ki,ei,ht,hd,hk,he,hag,amh,h1⟩:=aaM h;split at h1
 ·rename_i ob k n e1 e2 e3;rw [e1] at hx;have hkv:=Xh e2 hix;have hyv:=ami e3 hy;obtain ⟨hkf,h2⟩:=h1.dF;obtain ⟨obj,_,rY,h3⟩:=h2.rQ;obtain ⟨p,hp,hO⟩:=hR.live rY;cases obj with
  | box=>exact (gq.bM h3).elim
  | row=>exact (gq.bM h3).elim
  | map kd z f=>
   obtain ⟨c1,h4⟩:=h3.dF;obtain ⟨c2,h5⟩:=h4.dF;obtain ⟨c3,h6⟩:=h5.dF;obtain ⟨rfl,rfl⟩:=h6.mJ;have c1:=of_decide_eq_true c1;have c2:=of_decide_eq_true c2;rw [<- c2] at hyv;obtain ⟨hn,b,bo,sz,es,clock,hpl,hw,hm⟩:=hO;obtain ⟨b',pO,sz',hpl',hxv⟩:=hx.yD hp;rw [hpl] at hpl';cases hpl';obtain ⟨_,dd,_,_,hud,_,_,_,_,_,_,_,hmt⟩:=(hc.ty t ti ht).ex;rw [hd] at hmt;have hmt:dd=.map kt et:=hmt;subst hmt;have hko:=aja hc hk amh hkf;rw [<- c1] at hko hkf;have Xi:=λ e=>hko.check k hkf e w;obtain ⟨es',clock',hrun,hm'⟩:∃es' clock',(execOp a.eval o).run P w=.ok .skip { w with heap:=w.heap.setIfInBounds b (.map es' clock') }∧WZ kd z (CX f k n) es':=by
    rcases afP hm hko hkf w with ⟨g1,g2,g3⟩ | ⟨j,e,m,g1,g2,g3,g4,g5⟩
    ·refine ⟨es.push { key:=wM k,val:=WY z n,born:=clock },clock+1,?_,?_⟩
     ·rcases ho with ho | ho<;>simp [execOp,ho,hxv,hkv,hyv,Instr.mapUpdate,dK hud,MapKept.run_getObj_map hw,Xi,g1,MapKept.run_setObj_map _ hw]
     refine ⟨λ e he=>?_,?_,λ k' n' h'=>?_⟩
     ·simp only [azg,alf,ahf] at he;rcases he with he | rfl
      ·obtain ⟨k',n',q1,q2,q3,q4⟩:=hm.keys e he;have hne:k'≠k:=λ e'=>g3 e he (by rw [q1,e']);exact ⟨k',n',q1,q2,by rw [Z5 f n hne]; exact q3,q4⟩
      exact ⟨k,n,rfl,hkf,ac0 f k n,rfl⟩
     ·simp only [azg];refine List.pairwise_append.2 ⟨hm.uniq,by simp,λ x hx y hy=>?_⟩;simp only [ahf] at hy;subst hy;exact g3 x hx
     simp only [azg,alf,ahf];by_cases hkk:k'=k
     ·subst hkk;exact ⟨_,.inr rfl,rfl⟩
     rw [Z5 f n hkk] at h';obtain ⟨e,h1,h2⟩:=hm.all k' n' h';exact ⟨e,.inl h1,h2⟩
    have hj:j<es.size:=by
     rcases aoG j es.size with h | h
     ·exact h
     rw [aoF h] at g2; cases g2
    refine ⟨es.modify j λ e=>{ e with key:=wM k,val:=WY z n },clock,?_,?_⟩
    ·rcases ho with ho | ho<;>simp [execOp,ho,hxv,hkv,hyv,Instr.mapUpdate,dK hud,MapKept.run_getObj_map hw,Xi,g1,g2,g3,adZ,MapKept.run_setObj_map _ hw]
    have hkey:(es.modify j λ e=>{ e with key:=wM k,val:=WY z n }).toList.map (·.key)=es.toList.map (·.key):=modify_keys j _ λ e' he'=>by rw [g2] at he'; cases he'; exact g3.symm
    have atF:∀i e',es[i]? = some e'->e'.key=wM k->i=j:=by
     intro i e' hi hk';have hpw:=aqS.1 hm.uniq;obtain ⟨hi1,hi2⟩:=ap7.1 hi;obtain ⟨hj1,hj2⟩:=ap7.1 g2;rcases auI i j with h | h | h
     ·exact absurd (show es.toList[i].key=es.toList[j].key by rw [auL,auL,hi2,hj2,hk',g3]) (hpw i j (by simpa using hi1) (by simpa using hj1) h)
     ·exact h
     exact absurd (show es.toList[j].key=es.toList[i].key by rw [auL,auL,hi2,hj2,hk',g3]) (hpw j i (by simpa using hj1) (by simpa using hi1) h)
    refine ⟨λ e' he'=>?_,?_,λ k' n' h'=>?_⟩
    ·obtain ⟨i,hi,hie⟩:=List.getElem_of_mem he';have hi2:(es.modify j λ e=>{ e with key:=wM k,val:=WY z n })[i]? = some e':=by
      rw [<- Array.getElem?_toList,adH hi,hie]
     rw [au5] at hi2;by_cases hij:j=i
     ·subst hij;rw [if_pos rfl,g2] at hi2;simp only [ap9,azf] at hi2;subst hi2;exact ⟨k,n,rfl,hkf,ac0 f k n,rfl⟩
     rw [if_neg hij] at hi2;obtain ⟨k',n',q1,q2,q3,q4⟩:=hm.keys e' (Array.mem_toList_iff.2 (ayJ hi2));have hne:k'≠k:=λ e''=>hij (atF i e' hi2 (by rw [q1,e''])).symm;exact ⟨k',n',q1,q2,by rw [Z5 f n hne]; exact q3,q4⟩
    ·have h1:(es.toList.map (·.key)).Pairwise (· ≠ ·):=axb.2 hm.uniq;rw [<- hkey] at h1;exact axb.1 h1
    have hmem:wM k'∈es.toList.map (·.key):=by
     by_cases hkk:k'=k
     ·subst hkk;exact aq1.2 ⟨e,Array.mem_toList_iff.2 (ayJ g2),g3⟩
     rw [Z5 f n hkk] at h';obtain ⟨e',h1,h2⟩:=hm.all k' n' h';exact aq1.2 ⟨e',h1,h2⟩
    rw [<- hkey] at hmem;obtain ⟨e',h1,h2⟩:=aq1.1 hmem;exact ⟨e',h1,h2⟩
   obtain ⟨hh1,hh2⟩:=MapKept.heap_set (o':=.map es' clock') hw;have hsz:({ w with heap:=w.heap.setIfInBounds b (.map es' clock') }:World).heap.size=w.heap.size:=by simp
   intro next Q hnx
   have avu:Jm cx { w with heap:=w.heap.setIfInBounds b (.map es' clock') }:=by
    refine ⟨⟨hR.env.same.os,hR.env.same.tape,hR.env.same.output,λ i ob hi ho=>?_⟩,λ i ob hi=>?_⟩
    ·have h1:=hR.env.same.keep i ob hi ho;have hne:i≠b:=λ e=>by
      subst e;rw [hw] at h1;cases h1;cases ho
     show (w.heap.setIfInBounds b _)[i]? = _;rw [hh2 i hne];exact h1
    obtain ⟨h1,h2⟩:=hR.env.kept i ob hi;have hne:i≠b:=λ e=>by
     subst e;rw [hw] at h1;cases h1;cases h2
    refine ⟨?_,h2⟩;show (w.heap.setIfInBounds b _)[i]? = _;rw [hh2 i hne];exact h1
   have hR':=hR.al2 avu (.map kd z (CX f k n)) hp hpl (λ b' hb'=>hh2 b' hb') hsz ⟨hn,b,bo,sz,es',clock',hpl,hh1,hm'⟩;have Z4:∀b',I b'->({ w with heap:=w.heap.setIfInBounds b (.map es' clock') }:World).heap[b']? = w.heap[b']? := λ b' h=>hh2 b' (λ e=>hR.qO ob p b bo sz hp hpl (e ▸ h));have hkeep:∀u y,fB w I O D u y->fB { w with heap:=w.heap.setIfInBounds b (.map es' clock') } I O D u y:=λ u y hu=>hu.mono (λ _ h=>h) Z4 (λ _ _=>.inl rfl) (λ _ h=>h) hR.used;exact Ve hrun (hnx Go.undef _ I O (hR'.Jo eY) (λ u y hu=>(hkeep u y hu).Jo hR' eY) (.pure (.undef _)))
 exact (gq.bM h1).elim
end
end Go.Ab
namespace Go.Ab
section
variable {P:Program} {cfg:yx} {cx:Ctx} {H:Nat->Option eP} {D:Nat->Prop} {w:World} {I:Nat->Prop} {O:OM}
variable {eY:Nat} {o:Oper} {a:Act} {ρ:Operand->AV} {v:AV} {ups:lD} {r:azt}
theorem ahT (hR:Rel cfg cx H D w I O) {f:FuncId} {args:azx} {vals:Array Value} (hrun:∀fn,P.funcs[f]? = some fn->fn.body.isNone=false->(fn.name == "runtime.NumGoroutine")=false->(execOp a.eval o).run P w=.ok (.enter f vals) w)
  (hvl:vals.size=args.length) (hva:∀j,j<args.length->fB w I O D (nth args j) (vals.getD j Go.undef))
  (h:gq (Spec P cfg) H (Jl [] args λ args' _=>.call f args' [] λ r fQ=>match fQ with | []=>gL (aly r) (l6 r) | _::_=>.fail) v ups r):fT P cfg cx H D w I O eY o a v ups:=by
 obtain ⟨args',ids,r2,h4,hal,ama⟩:=Ov hR (sg:=[]) (λ j hj=>by cases hj) args _ _ h;cases h4 with
 | @call _ _ _ _ res fQ _ _ _ hspec h6=>
 cases fQ with
 | cons=>exact (gq.bM h6).elim
 | nil=>
  obtain ⟨hm,h7⟩:=h6.dF;obtain ⟨rfl,rfl⟩:=h7.fO;clear h h6 h7;obtain ⟨⟨fn,hf1,hf2,hf3⟩,hle,hcall⟩:=hspec;have hRs:=hR.sub (sg:=[]) (ids:=ids) (obs:=[]) rfl (by
   have:∀l,Oi l []=true:=by
    intro l
    induction l with
    | nil=>rfl
    | cons x l ih=>unfold Oi; simp [D5,ih]
   exact this ids) rfl (λ j hj=>by cases hj)
  intro next Q hnx
  refine afG (hrun fn hf1 hf2 hf3) ((hcall w _ _ vals hRs om (λ j hj=>ama j om _ (hva j om))).mono ?_);rintro e w' ⟨x,I',O',rfl,hR',hres⟩;refine ⟨x,rfl,?_⟩;have hfr:∀b,b<w.heap.size->w'.heap[b]? = w.heap[b]? := λ b hb=>hR'.frame b hb (by
   rintro ⟨j,p,bo,sz,h1,h2⟩
   simp [qP] at h1)
  have Vb:=hR.Jo eY;refine hnx x w' I O ?_ (λ u y hu=>hu.mono (λ _ h=>h) (λ b hb=>hfr b (hR.CV b hb)) (λ _ _=>.inl rfl) (λ _ h=>.inl h) hR.used) (.pure (ahK hres hm));rw [EW];exact { Vb with
   objs:=λ o ob p h1 h2=>(Vb.objs o ob p h1 h2).mono (λ _ h=>h) (λ b hb=>hfr b (hR.CV b hb)) (λ _ _=>.inl rfl) (λ _ h=>h) Vb.used (λ b bo sz hpl=>hfr b (hR.lt o p b bo sz h2 hpl))
   lt:=λ o p b bo sz h1 h2=>ao6 (hR.lt o p b bo sz h1 h2) hR'.size
   CV:=λ b h=>ao6 (hR.CV b h) hR'.size
   size:=afQ hR.size hR'.size
   env:=hR.env.step hR'.env.same
   frame:=λ b h1 h2=>by rw [hfr b (ao6 h1 hR.size)]; exact hR.frame b h1 h2
   glob:=λ g cs h=>(hR.glob g cs h).mono (λ _ h=>h) (λ b hb=>hfr b (hR.CV b hb)) }
theorem ad1 (l m:azx) (j:Nat) (h:j<l.length):nth (l++m) j=nth l j:=by
 rw [wN,wN]; simp [arG h]
theorem ad2 (l m:azx) (j:Nat) (h:l.length<=j):nth (l++m) j=nth m (j - l.length):=by
 rw [wN,wN]; simp [arF h]
theorem apc (hR:Rel cfg cx H D w I O) (hn:aaz D eY) {c:Call} {f:Operand} (ho:o.op=.call c) (hcl:c.callee=.value f) (hf:fB w I O D (ρ f) (a.eval f)) (hx:∀x∈c.args.toList,fB w I O D (ρ x) (a.eval x))
  (h:gq (Spec P cfg) H (iC cfg eY (.call c) ρ) v ups r):fT P cfg cx H D w I O eY o a v ups:=by
 simp only [iC,hcl] at h;split at h
 ·rename_i g caps e;rw [e] at hf;obtain ⟨cvs,hfv,avv,hcr⟩:=hf.Oo;have hrun:∀fn,P.funcs[g]? = some fn->fn.body.isNone=false->(fn.name == "runtime.NumGoroutine")=false->(execOp a.eval o).run P w=.ok (.enter g (c.args.map a.eval++cvs)) w:=by
   intro fn h1 h2 h3;simp only [execOp,ho,hcl,resolve,hfv,Deferred.ofValue,Sem.run_bind,Sem.run_pure,Result.andThen_ok,invoke,callFunc,program,Sem.run,h1,h2,h3,as9,if_false];simp
  have hvl:(c.args.map a.eval++cvs).size=(c.args.toList.map ρ++caps).length:=by simp [avv]
  have hva:∀j,j<(c.args.toList.map ρ++caps).length->fB w I O D (nth (c.args.toList.map ρ++caps) j) ((c.args.map a.eval++cvs).getD j Go.undef):=by
   intro j hj;by_cases hlt:j<(c.args.toList.map ρ).length
   ·rw [ad1 _ _ _ hlt];have h1:=ai5 (a:=a) hx j hlt;have hlt':j<(c.args.map a.eval).size:=by simpa using hlt
    have e1:(c.args.map a.eval++cvs).getD j Go.undef=(c.args.map a.eval).getD j Go.undef:=by
     simp only [an7, as6 hlt']
    rw [e1];simpa using h1
   have hge:(c.args.toList.map ρ).length<=j:=by omega
   rw [ad2 _ _ _ hge];have hge':(c.args.map a.eval).size<=j:=by simpa using hge
   have e1:(c.args.map a.eval++cvs).getD j Go.undef=cvs.getD (j - (c.args.map a.eval).size) Go.undef:=by
    simp only [an7, avg hge']
   rw [e1];have e2:(c.args.map a.eval).size=(c.args.toList.map ρ).length:=by simp
   rw [e2];exact hcr _ (by simp at hj hge ⊢; omega)
  unfold alD at h;split at h
  ·split at h
   ·exact ahT hR hrun hvl hva h
   exact afK hR hn hrun hvl hva h
  exact afK hR hn hrun hvl hva h
 exact (gq.bM h).elim
def aqt (w:World) (I:Nat->Prop) (O:OM) (D:Nat->Prop) (a:Act) (ρ:Operand->AV) (op:Op):Prop:=
 match op with
 | .pick c x y=>fB w I O D (ρ c) (a.eval c)∧(∀b,ρ c=.bool b->b=true->fB w I O D (ρ x) (a.eval x))∧(∀b,ρ c=.bool b->b=false->fB w I O D (ρ y) (a.eval y))
 | op=>∀x∈op.operands.toList,fB w I O D (ρ x) (a.eval x)
theorem amj (hc:iL P cfg) (hR:Rel cfg cx H D w I O) (hF:aaz D eY) (hρ:∀c,ρ (.const c)=ofConst c) (hx:aqt w I O D a ρ o.op) (h:gq (Spec P cfg) H (iC cfg eY o.op ρ) v ups r):fT P cfg cx H D w I O eY o a v ups:=by
 have hn:=hF.one;generalize ho:o.op=op at hx h;cases op with
 | move x=>obtain ⟨rfl,rfl⟩:=h.fO; exact aoU hR ho (hx x (by simp [Op.operands]))
 | assign x=>obtain ⟨rfl,rfl⟩:=h.fO; exact aj2 hR ho (hx x (by simp [Op.operands]))
 | pick c x y=>
  obtain ⟨h1,h2,h3⟩:=hx;exact aoV hR ho h1 h2 h3 (λ c e=>by subst e; exact ⟨hρ c,rfl⟩) (λ c e=>by subst e; exact ⟨hρ c,rfl⟩) h
 | alloc t=>exact alX hc hR hn ho h
 | box t x=>exact aq9 hR hn ho (hx x (by simp [Op.operands])) h
 | build t parts=>
  refine al0 hc hR ho (λ p hp=>hx p.2 ?_) h;simp only [Op.operands,aq1];exact ⟨p,hp,rfl⟩
 | buildSlice t len parts=>
  refine ab8 hc hR hn ho (λ p hp=>hx p.2 ?_) h;simp only [Op.operands,aq1];exact ⟨p,hp,rfl⟩
 | load t x=>exact ao0 hc hR ho (hx x (by simp [Op.operands])) h
 | store t x y=>exact al3 hc hR ho (hx x (by simp [Op.operands])) (hx y (by simp [Op.operands])) h
 | nilCheck x=>exact afs hR ho (hx x (by simp [Op.operands])) h
 | binOp op t x y t'=>exact alQ hc hR ho (hx x (by simp [Op.operands])) (hx y (by simp [Op.operands])) h
 | unOp op t x=>exact aoZ hR ho (hx x (by simp [Op.operands])) h
 | convert s d x=>exact ahE hc hR ho (hx x (by simp [Op.operands])) h
 | makeFunc fn first cap=>exact aft hR ho (λ x hm=>hx x (by simp only [Op.operands,avO,alf]; exact .inr hm)) h
 | makeSlice t l c=>exact adS hc hR hn ho (hx l (by simp [Op.operands])) (hx c (by simp [Op.operands])) h
 | slice t x lo hi mx=>
  refine alV hc hR ho (hx x (by simp [Op.operands])) (λ y e=>hx y ?_) (λ y e=>hx y ?_) (λ y e=>hx y ?_) h
  ·subst e; simp [Op.operands]
  ·subst e; simp [Op.operands]
  subst e; simp [Op.operands]
 | fieldAddr s x f=>exact adQ hc hR ho (hx x (by simp [Op.operands])) h
 | field s x f=>exact alR hc hR ho (hx x (by simp [Op.operands])) h
 | indexAddr t x ix=>exact adR hc hR ho (hx x (by simp [Op.operands])) (hx ix (by simp [Op.operands])) h
 | extract t i=>exact ahw hR ho (hx t (by simp [Op.operands])) h
 | index t x ix=>exact amf hc hR ho (hx x (by simp [Op.operands])) (hx ix (by simp [Op.operands])) h
 | makeMap t r=>
  cases r with
  | none=>exact ahR hR hn ho h
  | some r=>exact (gq.bM h).elim
 | lookup t x ix ok=>exact akj hc hR ho (hx x (by simp [Op.operands])) (hx ix (by simp [Op.operands])) h
 | insert t x ix y=>exact Vi hc hR (.inr ho) (hx x (by simp [Op.operands])) (hx ix (by simp [Op.operands])) (hx y (by simp [Op.operands])) h
 | mapUpdate t x ix y=>exact Vi hc hR (.inl ho) (hx x (by simp [Op.operands])) (hx ix (by simp [Op.operands])) (hx y (by simp [Op.operands])) h
 | call c=>
  have amk:∀x∈c.args.toList,fB w I O D (ρ x) (a.eval x):=λ x hm=>hx x (by simp only [Op.operands,Call.operands,avO,alf]; exact .inr hm);cases hcl:c.callee with
  | value f=>exact apc hR hF ho hcl (hx f (by simp [Op.operands,Call.operands,hcl])) amk h
  | invoke x m=>simp only [iC,hcl] at h; exact (gq.bM h).elim
  | builtin b=>
   cases b with
   | len=>exact aq5 hc hR ho hcl amk h
   | append=>exact aj9 hc hR hn ho hcl amk h
   | min=>exact aq6 hR ho hcl amk h
   | max=>exact aq7 hR ho hcl amk h
   | _=>simp only [iC,hcl] at h; exact (gq.bM h).elim
 | _=>exact (gq.bM h).elim
end
end Go.Ab
namespace Go.Ab
structure TE where
 ex:Bool
 v:AV
 ups:lD
 BR:azt
def jo {α:Type} (T:Nat->α) (d:Option Nat) (v:α):Nat->α:=match d with
 | some k=>λ t=>if t=k then v else T t
 | none=>T
def isB (b:Bool):AV->Bool
 | .bool c=>c==b
 | _=>false
def lG (all:List Oper) (T:Nat->AV) (V:Nat->Bool) (o:Oper):Bool:=match o.guard with
 | none=>true
 | some (j,b)=>match Yt all j with
  | some d=>V d&&isB b (T d)
  | none=>false
def nM (all:List Oper) (T:Nat->AV) (o:Oper):Prop:=match o.guard with
 | none=>True
 | some (j,_)=>∃d c,Yt all j=some d∧T d=.bool c
def Tr (cfg:yx) (Sp:pQ) (all:List Oper) (nx:Nat):List Oper->Nat->(Nat->AV)->(Nat->Bool)->(Nat->Option eP)->List TE->Prop
 | [],_,_,_,_,[]=>True
 | o::rest,i,T,V,H,e::tr=>nM all T o∧e.ex=lG all T V o∧(e.ex=true->gq Sp H (iC cfg (nx+stride*i) o.op (ZV cfg T)) e.v e.ups e.BR)∧(e.ex=false->e.ups=[])∧
   Tr cfg Sp all nx rest (i+1) (jo T o.dst e.v) (jo V o.dst e.ex) (nH H e.ups) tr
 | _,_,_,_,_,_=>False
section
variable {P:Program} {cfg:yx} {cx:Ctx} {N:Nat} {ds:List Deferred}
structure Ca (N:Nat) (ds:List Deferred) (T:Nat->AV) (V:Nat->Bool) (a:Act) (w:World) (I:Nat->Prop) (O:OM) (D:Nat->Prop):Prop where
 defers:a.defers=ds
 size:a.tmps.size=N
 rep:∀t,V t=true->fB w I O D (T t) (a.tmps.getD t Go.undef)
 gone:∀t,V t=false->a.tmps.getD t Go.undef=Go.undef
theorem gB (tm:Array Value) (d t:Nat) (x:Value) (h:d<tm.size):(tm.setIfInBounds d x).getD t Go.undef=if t=d then x else tm.getD t Go.undef:=by
 by_cases e:t=d
 ·subst e; simp [h]
 rw [if_neg e];have:d≠t:=λ h=>e h.symm;simp [ayM this]
variable {T:Nat->AV} {V:Nat->Bool} {a:Act} {w:World} {I:Nat->Prop} {O:OM} {D:Nat->Prop}
theorem Ca.put {w':World} {I':Nat->Prop} {O':OM} {D':Nat->Prop} (h:Ca N ds T V a w I O D) (keep:∀u y,fB w I O D u y->fB w' I' O' D' u y) (d:Option Nat) (hd:∀k,d=some k->k<N)
  (v:AV) (x:Value) (ex:Bool) (hx:ex=true->fB w' I' O' D' v x) (hx':ex=false->x=Go.undef):Ca N ds (jo T d v) (jo V d ex) (a.put d x) w' I' O' D':=by
 cases d with
 | none=>exact ⟨h.defers,h.size,λ t ht=>keep _ _ (h.rep t ht),h.gone⟩
 | some k=>
  have hk:=hd k rfl;have hs:=h.size;refine ⟨h.defers,by simp [Act.put,hs],λ t ht=>?_,λ t ht=>?_⟩
  ·show fB _ _ _ _ (if t=k then v else T t) ((a.tmps.setIfInBounds k x).getD t Go.undef);rw [gB _ _ _ _ om];simp only [jo] at ht;by_cases e:t=k
   ·rw [if_pos e,if_pos e]; exact hx (by simpa [e] using ht)
   rw [if_neg e,if_neg e]; exact keep _ _ (h.rep t (by simpa [e] using ht))
  show (a.tmps.setIfInBounds k x).getD t Go.undef=_;rw [gB _ _ _ _ om];simp only [jo] at ht;by_cases e:t=k
  ·rw [if_pos e]; exact hx' (by simpa [e] using ht)
  rw [if_neg e]; exact h.gone t (by simpa [e] using ht)
variable {H:Nat->Option eP}
theorem xA (hR:Rel cfg cx H D w I O) (hT:Ca N ds T V a w I O D) (x:Operand) (hv:∀t,x=.tmp t->V t=true):fB w I O D (ZV cfg T x) (a.eval x):=by
 cases x with
 | tmp t=>exact hT.rep t (hv t rfl)
 | const c=>exact ahu c
 | global g=>
  simp only [ZV,Act.eval];cases hg:look cfg.glob g with
  | some cs=>exact .pure (hR.glob g cs hg)
  | none=>exact .pure (.undef _)
 | func f=>exact .pure (.fn (by simp) (λ j hj=>by simp at hj))
def GL (T:Nat->AV) (V:Nat->Bool) (op:Op):Prop:=match op with
 | .pick c x y=>(∀t,c=.tmp t->V t=true)∧(ad3 T c=some true->∀t,x=.tmp t->V t=true)∧(ad3 T c=some false->∀t,y=.tmp t->V t=true)
 | op=>∀t,Operand.tmp t∈op.operands.toList->V t=true
 where ad3 (T:Nat->AV):Operand->Option Bool
 | .tmp t=>match T t with | .bool b=>some b | _=>none
 | .const (.bool b)=>some b
 | _=>none
theorem ad4 {k:Value} {b:Bool} (h:ofConst k=.bool b):k=.bool b:=by
 unfold ofConst at h;split at h<;>first | (cases h; rfl) | cases h
theorem amm (hR:Rel cfg cx H D w I O) (hT:Ca N ds T V a w I O D) {op:Op} (h:GL T V op):aqt w I O D a (ZV cfg T) op:=by
 have hb:∀(c:Operand) (b:Bool),ZV cfg T c=.bool b->GL.ad3 T c=some b:=by
  intro c b e;cases c with
  | tmp t=>simp only [ZV] at e; simp [GL.ad3,e]
  | const k=>simp only [ZV] at e; rw [ad4 e]; rfl
  | global g=>simp only [ZV] at e; split at e<;>cases e
  | func f=>cases e
 cases op with
 | pick c x y=>
  obtain ⟨h1,h2,h3⟩:=h;exact ⟨xA hR hT c h1,λ b e e'=>xA hR hT x (h2 (by rw [hb c b e,e'])),λ b e e'=>xA hR hT y (h3 (by rw [hb c b e,e']))⟩
 | _=>exact λ x hx=>xA hR hT x (λ t e=>h t (e ▸ hx))
theorem akk (hc:iL P cfg) {H:Nat->Option eP} {D:Nat->Prop} {w:World} {I:Nat->Prop} {O:OM} {T:Nat->AV} {V:Nat->Bool} {a:Act} {eY:Nat} {o:Oper} {v:AV} {ups:lD} {BR:azt}
  (hR:Rel cfg cx H D w I O) (hT:Ca N ds T V a w I O D) (hn:aaz D eY) (hval:GL T V o.op) (hd:∀k,o.dst=some k->k<N) (hev:gq (Spec P cfg) H (iC cfg eY o.op (ZV cfg T)) v ups BR)
  {next:Act->World->Prop} {Q:Exit->Act->World->Prop} (hnx:∀a' w' I' O',Rel cfg cx (nH H ups) (Gn D eY) w' I' O'->Ca N ds (jo T o.dst v) (jo V o.dst true) a' w' I' O' (Gn D eY)->next a' w'):o.wp P a w next Q:=by
 refine amj hc hR hn (λ _=>rfl) (amm hR hT hval) hev next Q λ x w' I' O' hR' hk hv=>hnx _ w' I' O' hR' (hT.put hk o.dst hd v x true (λ _=>hv) (λ h=>by cases h))
theorem aaN (l:List Oper) (j:Nat):acR l j=l[j]? := by
 induction l generalizing j with
 | nil=>rfl
 | cons o l ih=>cases j with
  | zero=>rfl
  | succ j=>simpa [acR] using ih j
theorem akl {ops:Array Oper} (hT:Ca N ds T V a w I O D) (o:Oper) (hg:nM ops.toList T o):Region.wanted o (yielded ops a.tmps)=lG ops.toList T V o:=by
 unfold Region.wanted lG;unfold nM at hg;cases hgu:o.guard with
 | none=>rfl
 | some g=>
  obtain ⟨j,b⟩:=g;rw [hgu] at hg;simp only at hg;obtain ⟨d,c,h1,h2⟩:=hg;simp only [h1,h2,isB];have hd:((ops[j]?).bind (·.dst))=some d:=by
   unfold Yt at h1;rw [aaN] at h1;have e:ops.toList[j]? = ops[j]? := by simp
   rw [e] at h1;cases ho:ops[j]? with
   | none=>rw [ho] at h1; cases h1
   | some o'=>rw [ho] at h1; simpa using h1
  have hy:yielded ops a.tmps j=if V d then some c else none:=by
   unfold yielded;rw [hd];simp only [Option.bind_some];cases hv:V d with
   | true=>
    have:=hT.rep d hv;rw [h2] at this;have hx:=this.mE;rcases aoG d a.tmps.size with hlt | hge
    ·simp [hlt] at hx; simp [hlt,hx]
    simp [aoF hge,Go.undef] at hx
   | false=>
    have:=hT.gone d hv;rcases aoG d a.tmps.size with hlt | hge
    ·simp [hlt] at this; simp [hlt,this,Go.undef]
    simp [aoF hge]
  rw [hy];cases V d<;>simp
theorem Xj (t:Nat):∀(l:List Oper) (i k:Nat),k∈xu t l i↔∃o,i<=k∧l[k - i]? = some o∧o.dst=some t:=by
 intro l;induction l with
 | nil=>intro i k; simp [xu]
 | cons o l ih=>
  intro i k;have hd:ai3 o.dst t=true↔o.dst=some t:=by
   unfold ai3;cases o.dst with
   | none=>simp
   | some x=>simp
  unfold xu;cases hb:ai3 o.dst t with
  | true=>
   simp only [alu,ih];constructor
   ·rintro (h | ⟨o',h1,h2,h3⟩)
    ·subst h; exact ⟨o,afg _,by simp,hd.1 hb⟩
    refine ⟨o',by omega,?_,h3⟩;have:k - i=(k - (i+1))+1:=by omega
    rw [this]; simpa using h2
   rintro ⟨o',h1,h2,h3⟩;by_cases hk:k=i
   ·exact .inl hk
   refine .inr ⟨o',by omega,?_,h3⟩;have:k - i=(k - (i+1))+1:=by omega
   rw [this] at h2; simpa using h2
  | false=>
   simp only [ih];constructor
   ·rintro ⟨o',h1,h2,h3⟩;refine ⟨o',by omega,?_,h3⟩;have:k - i=(k - (i+1))+1:=by omega
    rw [this]; simpa using h2
   rintro ⟨o',h1,h2,h3⟩;by_cases hk:k=i
   ·subst hk;simp at h2;subst h2;rw [hd.2 h3] at hb;cases hb
   refine ⟨o',by omega,?_,h3⟩;have:k - i=(k - (i+1))+1:=by omega
   rw [this] at h2; simpa using h2
theorem yJ (all:List Oper) (t k:Nat):k∈writers all t↔∃o,all[k]? = some o∧o.dst=some t:=by
 unfold writers;rw [Xj];simp
structure Known (all:List Oper) (k:Nat) (T:Nat->AV) (V:Nat->Bool) (ex:Nat->Bool) (val:Nat->AV):Prop where
 one:∀i t,i<k->writers all t=[i]->V t=ex i∧T t=val i
 free:∀t,(∀i,i<k->i∈writers all t->aat all i=none)->V t=true
 guard:∀i j b,i<k->aat all i=some (j,b)->j<i∧ex i=(ex j&&isB b (val j))
variable {all:List Oper}
theorem Known.chain {k:Nat} {ex:Nat->Bool} {val:Nat->AV} (hK:Known all k T V ex val):∀(f:Nat) (g:Option (Nat×Bool)),(∀j b,g=some (j,b)->j<k∧ex j=true∧isB b (val j)=true)->
  ∀j b,aoR j b (Ab.chain all f g)=true->j<k∧ex j=true∧isB b (val j)=true:=by
 intro f;induction f with
 | zero=>intro g _ j b h; cases h
 | succ f ih=>
  intro g hg j b h;cases g with
  | none=>cases h
  | some g=>
   obtain ⟨j',b'⟩:=g;obtain ⟨h1,h2,h3⟩:=hg j' b' rfl;simp only [Ab.chain,aoR] at h;split at h
   ·rename_i e1 e2;have e1:=adU e1;subst e1;have:b=b':=by cases b<;>cases b'<;>simp [eqB] at e2<;>rfl
    subst this;exact ⟨h1,h2,h3⟩
   refine ih _ (λ j2 b2 e=>?_) j b h;obtain ⟨q1,q2⟩:=hK.guard j' j2 b2 h1 e;rw [h2] at q2;simp at q2;exact ⟨by omega,q2.1,q2.2⟩
theorem ad5 {l:azt} (h:ZW all l=true):∀i∈l,aat all i=none:=by
 induction l with
 | nil=>intro i hi; cases hi
 | cons x l ih=>
  intro i hi;unfold ZW at h;cases hg:aat all x with
  | some g=>simp [hg] at h
  | none=>
   simp only [hg] at h;rcases alu.1 hi with e | e
   ·subst e; exact hg
   exact ih h i e
theorem Vj {k:Nat} {ex:Nat->Bool} {val:Nat->AV} (hK:Known all k T V ex val) {g:Option (Nat×Bool)} (hg:∀j b,g=some (j,b)->j<k∧ex j=true∧isB b (val j)=true) {t:Nat} (h:adM all k g t=true):V t=true:=by
 unfold adM at h;split at h
 ·rename_i i hw;cases hgi:aat all i with
  | none=>exact hK.free t λ i' _ hi'=>by rw [hw] at hi'; simp at hi'; subst hi'; exact hgi
  | some q=>
   obtain ⟨j,b⟩:=q;simp only [hgi] at h;cases hlt:Nat.blt i k with
   | false=>simp [hlt] at h
   | true=>
    simp only [hlt] at h;have hik:i<k:=by simpa using hlt
    obtain ⟨h1,h2,h3⟩:=hK.chain 20 g hg j b h;rw [(hK.one i t hik hw).1,(hK.guard i j b hik hgi).2,h2,h3];rfl
 exact hK.free t λ i _ hi=>ad5 h i hi
end
end Go.Ab
namespace Go.Ab
section
variable {P:Program} {cfg:yx} {cx:Ctx} {N:Nat}
variable {all:List Oper}
theorem T9 {N:Nat} :∀(l:List Oper) (i:Nat),uw N all l i=true->∀k o,l[k]? = some o->afq all (i+k) o=true∧∀d,o.dst=some d->d<N:=by
 intro l;induction l with
 | nil=>intro i _ k o h; simp at h
 | cons x l ih=>
  intro i h k o hk;unfold uw at h;split at h
  ·rename_i h1 h2;cases k with
   | zero=>
    simp at hk;subst hk;refine ⟨h1,λ d hd=>?_⟩;rw [hd] at h2;simpa using h2
   | succ k=>
    have:=ih (i+1) h k o (by simpa using hk);rwa [auk,azk 1 k] at this
  cases h
variable {T:Nat->AV} {V:Nat->Bool} {ex:Nat->Bool} {val:Nat->AV}
theorem YC {k:Nat} (hK:Known all k T V ex val) {o:Oper} (hok:afq all k o=true):
  (lG all T V o=true->∀j b,o.guard=some (j,b)->j<k∧ex j=true∧isB b (val j)=true)∧(∀j b,o.guard=some (j,b)->j<k∧lG all T V o=(ex j&&isB b (val j))):=by
 have key:∀j b,o.guard=some (j,b)->j<k∧lG all T V o=(ex j&&isB b (val j)):=by
  intro j b hg;unfold afq at hok;rw [hg] at hok;simp only at hok;split at hok
  ·rename_i h1;split at h1
   ·rename_i hlt;split at h1
    ·rename_i d hd;split at h1
     ·rename_i j' hw;have hjk:j<k:=by simpa using hlt
      have e:=adU h1;subst e;refine ⟨hjk,?_⟩;obtain ⟨q1,q2⟩:=hK.one j' d hjk hw;unfold lG;rw [hg];simp only [hd];rw [q1,q2]
     cases h1
    cases h1
   cases h1
  cases hok
 refine ⟨λ h j b hg=>?_,key⟩;obtain ⟨h1,h2⟩:=key j b hg;rw [h] at h2;have:=h2.symm;simp at this;exact ⟨h1,this.1,this.2⟩
theorem ahU {k:Nat} (hK:Known all k T V ex val) {o:Oper} (hok:afq all k o=true) (hg:lG all T V o=true):GL T V o.op:=by
 have hgs:=(YC hK hok).1 hg;have atG:∀x,Q8 all k o.guard x=true->∀t,x=.tmp t->V t=true:=by
  intro x h t e;subst e;exact Vj hK hgs h
 unfold afq at hok;split at hok
 ·split at hok
  ·rename_i c x y hop;rw [hop];split at hok
   ·rename_i hc hx;have hcv:=atG c hc;have arm:∀(pol:Bool) (z:Operand),ai4 all k o.guard c pol z=true->GL.ad3 T c=some pol->∀t,z=.tmp t->V t=true:=by
     intro pol z hz hb t e;subst e;unfold ai4 at hz;simp only at hz;split at hz
     ·rename_i hr;exact Vj hK hgs hr
     split at hz
     ·rename_i ct i hwt;split at hz
      ·rename_i j b jc hgi hwc hlt;split at hz
       ·rename_i e1 e2;have e1:=adU e1;subst e1;have hik:i<k:=by simpa using hlt
        have hjk:j<k:=by simpa using e2
        obtain ⟨q1,q2⟩:=hK.one i t hik hwt;obtain ⟨q3,q4⟩:=hK.one j ct hjk hwc;have q5:=(hK.guard i j b hik hgi).2;have hbp:b=pol:=by cases b<;>cases pol<;>simp [eqB] at hz<;>rfl
        subst hbp;have hT:T ct=.bool b:=by
         simp only [GL.ad3] at hb;split at hb
         ·rename_i b' hb'; cases hb; exact hb'
         cases hb
        rw [q1,q5,<- q3,hcv ct rfl,<- q4,hT];simp [isB]
       cases hz
      cases hz
     cases hz
    exact ⟨hcv,arm true x hx,arm false y hok⟩
   cases hok
  rename_i hnp;have hall:∀(l:List Operand),KS all k o.guard l=true->∀x∈l,Q8 all k o.guard x=true:=by
   intro l;induction l with
   | nil=>intro _ x hx; cases hx
   | cons y l ih=>
    intro h x hx;unfold KS at h;split at h
    ·rename_i hy;rcases alu.1 hx with e | e
     ·subst e; exact hy
     exact ih h x e
    cases h
  have main:∀t,Operand.tmp t∈o.op.operands.toList->V t=true:=λ t ht=>atG _ (hall _ hok _ ht) t rfl;unfold GL;split
  ·rename_i c x y hop;exact absurd hop (hnp c x y)
  exact main
 cases hok
theorem Known.step {k:Nat} (hK:Known all k T V ex val) {o:Oper} (hk:all[k]? = some o) (hok:afq all k o=true) (e:TE) (he:e.ex=lG all T V o):
  Known all (k+1) (jo T o.dst e.v) (jo V o.dst e.ex) (λ i=>if i=k then e.ex else ex i) (λ i=>if i=k then e.v else val i):=by
 have hgl:aat all k=o.guard:=by unfold aat; rw [aaN,hk]
 have upd:∀ {α:Type} (F:Nat->α) (x:α) (t:Nat),jo F o.dst x t=if o.dst=some t then x else F t:=by
  intro α F x t;unfold jo;cases hd:o.dst with
  | none=>simp
  | some d=>
   by_cases h:t=d
   ·subst h; simp
   have:¬ d=t:=λ e=>h e.symm;simp [h,this]
 refine ⟨λ i t hi hw=>?_,λ t ht=>?_,λ i j b hi hg=>?_⟩
 ·rw [upd,upd];by_cases hik:i=k
  ·subst hik;have:i∈writers all t:=by rw [hw]; simp
   obtain ⟨o',h1,h2⟩:=(yJ all t i).1 this;rw [hk] at h1;cases h1;simp [h2]
  have hne:¬ o.dst=some t:=λ h=>by
   have:k∈writers all t:=(yJ all t k).2 ⟨o,hk,h⟩;rw [hw] at this;simp at this;omega
  simp only [if_neg hne,if_neg hik];exact hK.one i t om hw
 ·rw [upd];by_cases hd:o.dst=some t
  ·rw [if_pos hd,he];have:=ht k om ((yJ all t k).2 ⟨o,hk,hd⟩);rw [hgl] at this;unfold lG;rw [this]
  rw [if_neg hd];exact hK.free t λ i hi hw=>ht i om hw
 by_cases hik:i=k
 ·subst hik;rw [hgl] at hg;obtain ⟨h1,h2⟩:=(YC hK hok).2 j b hg;refine ⟨h1,?_⟩;rw [if_pos rfl,if_neg om,if_neg om,he,h2]
 obtain ⟨h1,h2⟩:=hK.guard i j b om hg;refine ⟨h1,?_⟩;rw [if_neg hik,if_neg om,if_neg om,h2]
section sel
variable {α:Type} (wr:Nat->Nat->Bool) (g:Nat->Nat->α)
def sel (p:Nat->Bool):Nat->(Nat->α)->Nat->α
 | 0,F,t=>F t
 | m+1,F,t=>if p m&&wr m t then g m t else sel p m F t
theorem aaO (p:Nat->Bool) (m:Nat) (F:Nat->α) (t:Nat):sel wr g p (m+1) F t=if p m&&wr m t then g m t else sel wr g p m F t:=rfl
theorem Js (p q:Nat->Bool) (F:Nat->α) (t:Nat):∀m,(∀k,k<m->wr k t=true->p k=q k)->sel wr g p m F t=sel wr g q m F t:=by
 intro m;induction m with
 | zero=>intro _; rfl
 | succ m ih=>
  intro h;unfold sel;rw [ih λ k hk=>h k om];cases hw:wr m t with
  | false=>simp
  | true=>rw [h m om hw]
theorem uD (F:Nat->α) (t k:Nat):∀m,k<=m->sel wr g (λ j=>decide (j<k)) m F t=sel wr g (λ _=>true) k F t:=by
 intro m;induction m with
 | zero=>
  intro h; have:k=0:=by omega
  subst this; rfl
 | succ m ih=>
  intro h;by_cases hk:k=m+1
  ·subst hk;exact Js wr g _ _ F t _ λ j hj _=>by simp [hj]
  rw [aaO,ih om];simp [show ¬ m<k by omega]
theorem ad6 (p:Nat->Bool) (F:Nat->α) (t i:Nat) (hi:wr i t=true->∀k,i<k->p k=true->wr k t=false):∀m,i<m->sel wr g (λ j=>p j||decide (j=i)) m F t=if wr i t then g i t else sel wr g p m F t:=by
 intro m;induction m with
 | zero=>intro h; omega
 | succ m ih=>
  intro h;by_cases him:i=m
  ·subst him;unfold sel;have e:sel wr g (λ j=>p j||decide (j=i)) i F t=sel wr g p i F t:=Js wr g _ _ F t _ λ j hj _=>by simp [show ¬ j=i by omega]
   rw [e];cases hw:wr i t with
   | true=>simp
   | false=>simp
  have:=ih om;unfold sel;rw [this];cases hw:wr i t with
  | true=>
   have hne:¬ m=i:=λ e=>him e.symm;simp only [hne,decide_false,ayC,if_true];cases hp:p m with
   | false=>simp
   | true=>simp [hi hw m om hp]
  | false=>
   have hne:¬ m=i:=λ e=>him e.symm;simp [hne]
end sel
end
end Go.Ab
namespace Go.Ab
section
variable {P:Program} {cfg:yx} {cx:Ctx} {N:Nat} {ds:List Deferred}
def wrT (all:List Oper) (k t:Nat):Bool:=match all[k]? with
 | some o=>decide (o.dst=some t)
 | none=>false
def wrH (ent:Nat->TE) (k o:Nat):Bool:=(look (ent k).ups o).isSome
def gH (ent:Nat->TE) (k o:Nat):Option eP:=match look (ent k).ups o with
 | some x=>x
 | none=>none
def Jt (all:List Oper) (ent:Nat->TE) (p:Nat->Bool) (m:Nat) (T0:Nat->AV):Nat->AV:=sel (wrT all) (λ k _=>(ent k).v) p m T0
def RG (all:List Oper) (ent:Nat->TE) (p:Nat->Bool) (m:Nat):Nat->Bool:=sel (wrT all) (λ k _=>(ent k).ex) p m (λ _=>true)
def U3 (ent:Nat->TE) (p:Nat->Bool) (m:Nat) (H0:Nat->Option eP):Nat->Option eP:=sel (wrH ent) (gH ent) p m H0
def yes:Nat->Bool:=λ _=>true
def TrI (cfg:yx) (Sp:pQ) (all:List Oper) (nx:Nat) (T0:Nat->AV) (H0:Nat->Option eP) (ent:Nat->TE):Prop:=
 ∀k o,all[k]? = some o->nM all (Jt all ent yes k T0) o∧(ent k).ex=lG all (Jt all ent yes k T0) (RG all ent yes k) o∧
  ((ent k).ex=true->gq Sp (U3 ent yes k H0) (iC cfg (nx+stride*k) o.op (ZV cfg (Jt all ent yes k T0))) (ent k).v (ent k).ups (ent k).BR)∧((ent k).ex=false->(ent k).ups=[])
variable {all:List Oper}
theorem Rc {α:Type} {o:Oper} {k:Nat} (hk:all[k]? = some o) (g:Nat->Nat->α) (p:Nat->Bool) (hp:p k=true) (F:Nat->α) (v:α) (hg:∀t,g k t=v):jo (sel (wrT all) g p k F) o.dst v=sel (wrT all) g p (k+1) F:=by
 funext t;have hw:wrT all k t=decide (o.dst=some t):=by unfold wrT; rw [hk]
 rw [aaO,hp,hg,hw];cases hd:o.dst with
 | none=>simp [jo]
 | some d=>
  by_cases h:t=d
  ·subst h; simp [jo]
  have:¬ d=t:=λ e=>h e.symm;simp [jo,h,this]
variable {ent:Nat->TE}
theorem afS {k:Nat} (p:Nat->Bool) (hp:p k=true) (H:Nat->Option eP):nH (sel (wrH ent) (gH ent) p k H) (ent k).ups=sel (wrH ent) (gH ent) p (k+1) H:=by
 funext o;have hw:wrH ent k o=(look (ent k).ups o).isSome:=rfl;have hg:gH ent k o=match look (ent k).ups o with | some x=>x | none=>none:=rfl
 rw [aaO,hp,hw,hg];unfold nH;cases look (ent k).ups o<;>simp
theorem TrI.apd {Sp:pQ} {nx:Nat} {T0:Nat->AV} {H0:Nat->Option eP} :∀(rest:List Oper) (i:Nat) (tr:List TE),(∀j,rest[j]? = all[i+j]?)->(∀j e,tr[j]? = some e->ent (i+j)=e)->
  Tr cfg Sp all nx rest i (Jt all ent yes i T0) (RG all ent yes i) (U3 ent yes i H0) tr->∀k o,i<=k->all[k]? = some o->nM all (Jt all ent yes k T0) o∧(ent k).ex=lG all (Jt all ent yes k T0) (RG all ent yes k) o∧
  ((ent k).ex=true->gq Sp (U3 ent yes k H0) (iC cfg (nx+stride*k) o.op (ZV cfg (Jt all ent yes k T0))) (ent k).v (ent k).ups (ent k).BR)∧((ent k).ex=false->(ent k).ups=[]):=by
 intro rest;induction rest with
 | nil=>
  intro i tr hr _ _ k o hik hk;have:=hr (k - i);rw [show i+(k - i)=k by omega,hk] at this;simp at this
 | cons x rest ih=>
  intro i tr hr he h k o hik hk;cases tr with
  | nil=>exact h.elim
  | cons e tr=>
   obtain ⟨h1,h2,h3,h4,h5⟩:=h;have hx:all[i]? = some x:=by simpa using (hr 0).symm
   have he0:ent i=e:=by simpa using he 0 e rfl
   by_cases hki:k=i
   ·subst hki;rw [hx] at hk;cases hk;subst he0;exact ⟨h1,h2,h3,h4⟩
   subst he0;have e1:jo (Jt all ent yes i T0) x.dst (ent i).v=Jt all ent yes (i+1) T0:=Rc hx _ yes rfl T0 _ λ _=>rfl;have e2:jo (RG all ent yes i) x.dst (ent i).ex=RG all ent yes (i+1):=Rc hx _ yes rfl _ _ λ _=>rfl;have e3:nH (U3 ent yes i H0) (ent i).ups=U3 ent yes (i+1) H0:=afS yes rfl H0;rw [e1,e2,e3] at h5;refine ih (i+1) tr (λ j=>?_) (λ j e' hj=>?_) h5 k o om hk
   ·have:=hr (j+1);rw [show i+(j+1)=i+1+j by omega] at this;simpa using this
   have:=he (j+1) e' (by simpa using hj);rwa [show i+(j+1)=i+1+j by omega] at this
theorem TrI.known {Sp:pQ} {nx:Nat} {T0:Nat->AV} {H0:Nat->Option eP} (h:TrI cfg Sp all nx T0 H0 ent) {N:Nat} (hok:uw N all all 0=true):∀k,k<=all.length->Known all k (Jt all ent yes k T0) (RG all ent yes k) (λ i=>(ent i).ex) (λ i=>(ent i).v):=by
 intro k;induction k with
 | zero=>exact λ _=>⟨λ i t hi=>by omega,λ t _=>rfl,λ i j b hi=>by omega⟩
 | succ k ih=>
  intro hk;have hlt:k<all.length:=by omega
  have hx:all[k]? = some all[k]:=adH hlt;obtain ⟨h1,h2,_,_⟩:=h k _ hx;have hop:=(T9 all 0 hok k _ hx).1;rw [ahi] at hop;have:=(ih om).step hx hop (ent k) h2;have e1:jo (Jt all ent yes k T0) (all[k]).dst (ent k).v=Jt all ent yes (k+1) T0:=Rc hx _ yes rfl T0 _ λ _=>rfl;have e2:jo (RG all ent yes k) (all[k]).dst (ent k).ex=RG all ent yes (k+1):=Rc hx _ yes rfl _ _ λ _=>rfl;rw [e1,e2] at this;have e4:(λ i=>if i=k then (ent k).ex else (ent i).ex)=λ i=>(ent i).ex:=by
   funext i;by_cases hi:i=k<;>simp [hi]
  have e5:(λ i=>if i=k then (ent k).v else (ent i).v)=λ i=>(ent i).v:=by
   funext i;by_cases hi:i=k<;>simp [hi]
  rw [e4,e5] at this;exact this
def Dat (nx m:Nat) (p:Nat->Bool):Nat->Prop:=λ o=>o<nx∨∃k,k<m∧p k=true∧nx+stride*k<=o∧o<nx+stride*k+stride
variable {H:Nat->Option eP}
theorem Rel.Ju {D D':Nat->Prop} {w:World} {I:Nat->Prop} {O:OM} (h:∀o,D o->D' o) (hR:Rel cfg cx H D w I O):Rel cfg cx H D' w I O:=
 { hR with
  used:=λ o p hp=>h o (hR.used o p hp)
  objs:=λ o ob p h1 h2=>(hR.objs o ob p h1 h2).mono (λ _ h=>h) (λ _ _=>rfl) (λ _ _=>.inl rfl) h hR.used (λ _ _ _ _=>rfl)
  Dm:=λ o ho=>h o (hR.Dm o ho) }
theorem Ca.Ju {D D':Nat->Prop} {w:World} {I:Nat->Prop} {O:OM} {T:Nat->AV} {V:Nat->Bool} {a:Act} (h:∀o,D o->D' o) (hR:Rel cfg cx H D w I O) (hT:Ca N ds T V a w I O D):Ca N ds T V a w I O D':=
 ⟨hT.defers,hT.size,λ t ht=>(hT.rep t ht).mono (λ _ h=>h) (λ _ _=>rfl) (λ _ _=>.inl rfl) h hR.used,hT.gone⟩
theorem afT {T T':Nat->AV} {V V':Nat->Bool} {op:Op} (h:∀t,Operand.tmp t∈op.operands.toList->T' t=T t∧V' t=V t) (hv:GL T V op):GL T' V' op:=by
 cases op with
 | pick c x y=>
  obtain ⟨h1,h2,h3⟩:=hv;have hc:GL.ad3 T' c=GL.ad3 T c:=by
   cases c with
   | tmp t=>simp only [GL.ad3]; rw [(h t (by simp [Op.operands])).1]
   | const k=>cases k<;>rfl
   | _=>rfl
  refine ⟨λ t e=>?_,λ hb t e=>?_,λ hb t e=>?_⟩
  ·rw [(h t (by subst e; simp [Op.operands])).2]; exact h1 t e
  ·rw [(h t (by subst e; simp [Op.operands])).2]; rw [hc] at hb; exact h2 hb t e
  rw [(h t (by subst e; simp [Op.operands])).2]; rw [hc] at hb; exact h3 hb t e
 | _=>exact λ t ht=>by rw [(h t ht).2]; exact hv t ht
theorem gq.aro {Sp:pQ} {H':Nat->Option eP} {pg:Pg} {v:AV} {ups:lD} {r:azt} (h:gq Sp H pg v ups r):(∀o,o∈r->H' o=H o)->gq Sp H' pg v ups r:=by
 induction h with
 | ret v ups=>exact λ _=>.ret v ups
 | need hp _ ih=>exact λ hr=>.need hp (ih hr)
 | rd ho _ ih=>exact λ hr=>.rd ((hr _ (by simp)).trans ho) (ih λ o ho=>hr o (akb _ ho))
 | call hs _ ih=>exact λ hr=>.call hs (ih hr)
theorem ahV {eY:Nat} {op:Op} {ρ ρ':Operand->AV} (h:∀x∈op.operands.toList,ρ' x=ρ x):iC cfg eY op ρ'=iC cfg eY op ρ:=by
 have pairs:∀ps:List (Nat×Operand),(∀p∈ps,ρ' p.2=ρ p.2)->(ps.map λ p=>(p.1,ρ' p.2))=ps.map λ p=>(p.1,ρ p.2):=λ ps hp=>ayV λ p hm=>by rw [hp p hm]
 cases op with
 | move x=>simp only [iC]; rw [h x (by simp [Op.operands])]
 | assign x=>simp only [iC]; rw [h x (by simp [Op.operands])]
 | pick c x y=>simp only [iC]; rw [h x (by simp [Op.operands]),h y (by simp [Op.operands]),h c (by simp [Op.operands])]
 | box t x=>simp only [iC]; rw [h x (by simp [Op.operands])]
 | build t parts=>simp only [iC]; rw [pairs parts.toList λ p hp=>h p.2 (by simp only [Op.operands,aq1]; exact ⟨p,hp,rfl⟩)]
 | buildSlice t len parts=>simp only [iC]; rw [pairs parts.toList λ p hp=>h p.2 (by simp only [Op.operands,aq1]; exact ⟨p,hp,rfl⟩)]
 | load t x=>simp only [iC]; rw [h x (by simp [Op.operands])]
 | store t x y=>simp only [iC]; rw [h x (by simp [Op.operands]),h y (by simp [Op.operands])]
 | nilCheck x=>simp only [iC]; rw [h x (by simp [Op.operands])]
 | binOp op t x y t'=>simp only [iC]; rw [h x (by simp [Op.operands]),h y (by simp [Op.operands])]
 | unOp op t x=>simp only [iC]; rw [h x (by simp [Op.operands])]
 | convert s d x=>simp only [iC]; rw [h x (by simp [Op.operands])]
 | makeFunc fn first cap=>
  simp only [iC];have:cap.toList.map ρ'=cap.toList.map ρ:=ayV λ x hx=>h x (by simp only [Op.operands,avO,alf]; exact .inr hx);rw [this]
 | makeSlice t l c=>simp only [iC]; rw [h l (by simp [Op.operands]),h c (by simp [Op.operands])]
 | slice t x lo hi mx=>
  have h1:lo.map ρ'=lo.map ρ:=by
   cases lo with
   | none=>rfl
   | some y=>simp only [ap9]; rw [h y (by simp [Op.operands])]
  have h2:hi.map ρ'=hi.map ρ:=by
   cases hi with
   | none=>rfl
   | some y=>simp only [ap9]; rw [h y (by simp [Op.operands])]
  have h3:∀k,ajX ρ' hi mx k=ajX ρ hi mx k:=λ k=>by
   unfold ajX;cases mx with
   | none=>rfl
   | some m=>cases hi with
    | none=>rfl
    | some y=>
     simp only
     rw [h y (by simp [Op.operands]),h m (by simp [Op.operands])]
  have h4:mx.map ρ'=mx.map ρ:=by
   cases mx with
   | none=>rfl
   | some y=>simp only [ap9]; rw [h y (by simp [Op.operands])]
  simp only [iC];rw [h x (by simp [Op.operands]),h1,h2,h4];simp only [h3]
 | fieldAddr s x f=>simp only [iC]; rw [h x (by simp [Op.operands])]
 | field s x f=>simp only [iC]; rw [h x (by simp [Op.operands])]
 | indexAddr t x ix=>simp only [iC]; rw [h x (by simp [Op.operands]),h ix (by simp [Op.operands])]
 | extract t i=>simp only [iC]; rw [h t (by simp [Op.operands])]
 | index t x ix=>simp only [iC]; rw [h x (by simp [Op.operands]),h ix (by simp [Op.operands])]
 | makeMap t r=>cases r<;>rfl
 | lookup t x ix ok=>simp only [iC]; rw [h x (by simp [Op.operands]),h ix (by simp [Op.operands])]
 | insert t x ix y=>simp only [iC]; rw [h x (by simp [Op.operands]),h ix (by simp [Op.operands]),h y (by simp [Op.operands])]
 | mapUpdate t x ix y=>simp only [iC]; rw [h x (by simp [Op.operands]),h ix (by simp [Op.operands]),h y (by simp [Op.operands])]
 | call c=>
  have h1:c.args.toList.map ρ'=c.args.toList.map ρ:=ayV λ x hx=>h x (by simp only [Op.operands,Call.operands,avO,alf]; exact .inr hx);simp only [iC];rw [h1];cases hc:c.callee with
  | value f=>simp only; rw [h f (by simp [Op.operands,Call.operands,hc])]
  | builtin b=>cases b<;>rfl
  | invoke x m=>rfl
 | _=>rfl
end
end Go.Ab
namespace Go.Ab
section
variable {P:Program} {cfg:yx} {cx:Ctx} {N:Nat} {ds:List Deferred}
def FW (r:Option Nat):Fence:={ Fence.wide with round:=r }
variable {r:Option Nat}
theorem Ua {n:Nat} {f:FuncId} {args:Array Value} {w:World} {R:Ending->World->Prop} (h:Calls P f args w R):CallsIn (FW r) n P f args w R:=(callsIn_wide (n:=n)).2 h
theorem akm {n:Nat} {row:String} {args:Array Value} {w:World} {R:Value->World->Prop} (h:Rows P row args w R):RowsIn (FW r) n P row args w R:=by
 intro c cs _;obtain ⟨v,w',h1,h2⟩:=h c cs;exact ⟨v,w',h1,stepsIn_wide.2 h2⟩
theorem ad7 {n:Nat} {o:Oper} {a:Act} {w:World} {K:Act->World->Prop} {Q:Exit->Act->World->Prop} (ho:∀c,o.op≠.defer c) (h:o.wp P a w K Q):o.wpIn (FW r) n P a w K Q:=by
 refine ⟨λ _ _=>trivial,?_⟩;rw [Oper.semAt_eq _ _ _ ho];unfold Oper.wp at h;generalize (execOp a.eval o).run P w=res at h;cases res with
 | ok x w'=>
  cases x with
  | value v=>exact h
  | skip=>exact h
  | defer d=>exact h
  | enter f args=>exact ⟨(λ h=>by cases h),Ua h⟩
  | row s args=>exact ⟨(λ h=>by cases h),akm h⟩
  | _=>exact h.elim
 | halt x w'=>
  cases x with
  | panic v=>exact h
  | _=>exact h.elim
theorem afU (hc:iL P cfg) {r:Option Nat} {n0:Nat} {ops:Array Oper} {nx:Nat} {T0:Nat->AV} {H0:Nat->Option eP} {ent:Nat->TE} (htr:TrI cfg (Spec P cfg) ops.toList nx T0 H0 ent) (hok:uw N ops.toList ops.toList 0=true)
  {p:Nat->Bool} {i:Nat} {o:Oper} (hi:ops[i]? = some o) (hpi:p i=false)
  (hT:∀t,t∈looks ops.toList o->Jt ops.toList ent p ops.size T0 t=Jt ops.toList ent yes i T0 t∧RG ops.toList ent p ops.size t=RG ops.toList ent yes i t)
  (hH:(ent i).ex=true->∀b,b∈(ent i).BR->U3 ent p ops.size H0 b=U3 ent yes i H0 b)
  (hTa:∀t,wrT ops.toList i t=true->∀k,i<k->p k=true->wrT ops.toList k t=false) (hHa:∀b,wrH ent i b=true->∀k,i<k->p k=true->wrH ent k b=false)
  {a:Act} {w:World} {I:Nat->Prop} {O:OM} (hR:Rel cfg cx (U3 ent p ops.size H0) (Dat nx ops.size p) w I O) (hTR:Ca N ds (Jt ops.toList ent p ops.size T0) (RG ops.toList ent p ops.size) a w I O (Dat nx ops.size p))
  {K:Act->World->Prop} {Q:Exit->Act->World->Prop}
  (hK:∀a' w' I' O',Rel cfg cx (U3 ent (λ j=>p j||decide (j=i)) ops.size H0) (Dat nx ops.size (λ j=>p j||decide (j=i))) w' I' O'->
    Ca N ds (Jt ops.toList ent (λ j=>p j||decide (j=i)) ops.size T0) (RG ops.toList ent (λ j=>p j||decide (j=i)) ops.size) a' w' I' O' (Dat nx ops.size (λ j=>p j||decide (j=i)))->K a' w'):
  wpOpIn (FW r) n0 P ops Q i K a w:=by
 have hlt:i<ops.size:=(ap7.1 hi).1;have hil:ops.toList[i]? = some o:=by simpa using hi
 obtain ⟨h1,h2,h3,h4⟩:=htr i o hil;obtain ⟨hop,hdN⟩:=T9 ops.toList 0 hok i o hil;rw [ahi] at hop;have hKn:=htr.known hok i (by simp; omega);have hTT:∀t,wrT ops.toList i t=decide (o.dst=some t):=λ t=>by unfold wrT; rw [hil]
 have e1:Jt ops.toList ent (λ j=>p j||decide (j=i)) ops.size T0=jo (Jt ops.toList ent p ops.size T0) o.dst (ent i).v:=by
  funext t;unfold Jt;rw [ad6 _ _ p T0 t i (hTa t) ops.size hlt,hTT];cases hd:o.dst with
  | none=>simp [jo]
  | some d=>
   by_cases h:t=d
   ·subst h; simp [jo]
   have:¬ d=t:=λ e=>h e.symm;simp [jo,h,this]
 have e2:RG ops.toList ent (λ j=>p j||decide (j=i)) ops.size=jo (RG ops.toList ent p ops.size) o.dst (ent i).ex:=by
  funext t;unfold RG;rw [ad6 _ _ p _ t i (hTa t) ops.size hlt,hTT];cases hd:o.dst with
  | none=>simp [jo]
  | some d=>
   by_cases h:t=d
   ·subst h; simp [jo]
   have:¬ d=t:=λ e=>h e.symm;simp [jo,h,this]
 have e3:U3 ent (λ j=>p j||decide (j=i)) ops.size H0=nH (U3 ent p ops.size H0) (ent i).ups:=by
  funext b;unfold U3;rw [ad6 _ _ p H0 b i (hHa b) ops.size hlt];have hw:wrH ent i b=(look (ent i).ups b).isSome:=rfl;have hg:gH ent i b=match look (ent i).ups b with | some x=>x | none=>none:=rfl
  rw [hw,hg];unfold nH;cases look (ent i).ups b<;>simp
 have hD:∀b,Gn (Dat nx ops.size p) (nx+stride*i) b->Dat nx ops.size (λ j=>p j||decide (j=i)) b:=by
  rintro b ((h | ⟨k,q1,q2,q3⟩) | h)
  ·exact .inl h
  ·exact .inr ⟨k,q1,by simp [q2],q3⟩
  exact .inr ⟨i,hlt,by simp,h⟩
 have hnD:aaz (Dat nx ops.size p) (nx+stride*i):=by
  rintro b hb1 hb2 (h | ⟨k,q1,q2,q3,q4⟩)
  ·omega
  have:k=i:=by
   rcases auI k i with e | e | e
   ·have:=aqT stride (show k+1<=i from e);rw [Nat.mul_add,avC] at this;omega
   ·exact e
   have:=aqT stride (show i+1<=k from e);rw [Nat.mul_add,avC] at this;omega
  subst this;rw [hpi] at q2;cases q2
 have atH:nM ops.toList (Jt ops.toList ent p ops.size T0) o:=by
  unfold nM at h1 ⊢;cases hg:o.guard with
  | none=>trivial
  | some g=>
   obtain ⟨j,b⟩:=g;rw [hg] at h1;obtain ⟨d,c,q1,q2⟩:=h1;refine ⟨d,c,q1,?_⟩;rw [(hT d (by unfold looks; rw [hg]; simp [q1])).1];exact q2
 have avw:lG ops.toList (Jt ops.toList ent p ops.size T0) (RG ops.toList ent p ops.size) o=(ent i).ex:=by
  rw [h2];unfold lG;cases hg:o.guard with
  | none=>rfl
  | some g=>
   obtain ⟨j,b⟩:=g;simp only;cases hd:Yt ops.toList j with
   | none=>rfl
   | some d=>
    simp only;obtain ⟨q1,q2⟩:=hT d (by unfold looks; rw [hg]; simp [hd]);rw [q1,q2]
 unfold wpOpIn;rw [hi];simp only;rw [akl hTR o atH,avw];cases hex:(ent i).ex with
 | true=>
  rw [if_pos rfl];have hnd:∀c,o.op≠.defer c:=λ c hc=>by
   have:=h3 hex;rw [hc] at this;exact (gq.bM this).elim
  refine ad7 hnd ?_;have atI:∀t,Operand.tmp t∈o.op.operands.toList->t∈looks ops.toList o:=λ t ht=>by
   unfold looks;rw [alf];exact .inl (List.mem_filterMap.2 ⟨.tmp t,ht,rfl⟩)
  have hval:GL (Jt ops.toList ent p ops.size T0) (RG ops.toList ent p ops.size) o.op:=
   afT (λ t ht=>hT t (atI t ht)) (ahU hKn hop (by rw [<- h2]; exact hex))
  have hev:gq (Spec P cfg) (U3 ent p ops.size H0) (iC cfg (nx+stride*i) o.op (ZV cfg (Jt ops.toList ent p ops.size T0))) (ent i).v (ent i).ups (ent i).BR:=by
   have atJ:iC cfg (nx+stride*i) o.op (ZV cfg (Jt ops.toList ent p ops.size T0))=iC cfg (nx+stride*i) o.op (ZV cfg (Jt ops.toList ent yes i T0)):=ahV λ x hx=>by
    cases x with
    | tmp t=>exact (hT t (atI t hx)).1
    | _=>rfl
   rw [atJ];exact (h3 hex).aro (hH hex)
  refine akk hc hR hTR hnD hval hdN hev λ a' w' I' O' hR' hT'=>hK a' w' I' O' ?_ ?_
  ·rw [e3]; exact hR'.Ju hD
  rw [e1,e2,hex]; exact hT'.Ju hD hR'
 | false=>
  rw [if_neg (by simp)];have hu:=h4 hex;have hR2:Rel cfg cx (U3 ent (λ j=>p j||decide (j=i)) ops.size H0) (Dat nx ops.size (λ j=>p j||decide (j=i))) w I O:=by
   rw [e3,hu,EW];exact hR.Ju λ b h=>hD b (.inl h)
  refine ⟨λ _ _=>trivial,hK _ w I O hR2 ?_⟩;rw [e1,e2,hex];refine Ca.put (hTR.Ju (λ b h=>hD b (.inl h)) hR) (λ _ _ h=>h) o.dst hdN _ _ false (λ h=>by cases h) (λ _=>rfl)
theorem afV (hc:iL P cfg) {r:Option Nat} {n0:Nat} {ops:Array Oper} {id nx:Nat} {T0:Nat->AV} {H0:Nat->Option eP} {ent:Nat->TE} (htr:TrI cfg (Spec P cfg) ops.toList nx T0 H0 ent) (hok:uw N ops.toList ops.toList 0=true)
  {a:Act} {w:World} {I:Nat->Prop} {O:OM} (hR:Rel cfg cx H0 (λ o=>o<nx) w I O) (hTR:Ca N ds T0 (λ _=>true) a w I O (λ o=>o<nx)) {Q:Exit->Act->World->Prop}
  (hQ:∀a' w' I' O',Rel cfg cx (U3 ent yes ops.size H0) (λ o=>o<nx+stride*ops.size) w' I' O'->Ca N ds (Jt ops.toList ent yes ops.size T0) (RG ops.toList ent yes ops.size) a' w' I' O' (λ o=>o<nx+stride*ops.size)->Q .normal a' w'):
  (Code.region id ops false).wpIn (FW r) n0 P Q a w:=by
 refine wpIn_region ?_;have key:∀(n k:Nat),k+n=ops.size->∀(a:Act) (w:World) (I:Nat->Prop) (O:OM),Rel cfg cx (U3 ent (λ j=>decide (j<k)) ops.size H0) (Dat nx ops.size (λ j=>decide (j<k))) w I O->
   Ca N ds (Jt ops.toList ent (λ j=>decide (j<k)) ops.size T0) (RG ops.toList ent (λ j=>decide (j<k)) ops.size) a w I O (Dat nx ops.size (λ j=>decide (j<k)))->wpOpsIn (FW r) n0 P ops Q (List.range' k n) a w:=by
  intro n
  induction n with
  | zero=>
   intro k hk a w I O hR hT
   have hkn:k=ops.size:=by omega
   subst hkn
   have e1:U3 ent (λ j=>decide (j<ops.size)) ops.size H0=U3 ent yes ops.size H0:=funext λ t=>uD _ _ _ t _ _ (afg _)
   have e2:Jt ops.toList ent (λ j=>decide (j<ops.size)) ops.size T0=Jt ops.toList ent yes ops.size T0:=funext λ t=>uD _ _ _ t _ _ (afg _)
   have e3:RG ops.toList ent (λ j=>decide (j<ops.size)) ops.size=RG ops.toList ent yes ops.size:=funext λ t=>uD _ _ _ t _ _ (afg _)
   rw [e1] at hR
   rw [e2,e3] at hT
   have hD:∀o,Dat nx ops.size (λ j=>decide (j<ops.size)) o->o<nx+stride*ops.size:=by
    rintro o (h | ⟨k,q1,_,q3,q4⟩)
    ·omega
    have:=aqT stride (show k+1<=ops.size from q1)
    rw [Nat.mul_add,avC] at this
    omega
   exact hQ a w I O (hR.Ju hD) (hT.Ju hD hR)
  | succ n ih=>
   intro k hk a w I O hR hT
   have hlt:k<ops.size:=by omega
   rw [List.range'_succ,wpOpsIn_cons]
   have hp:(λ j=>decide (j<k)||decide (j=k))=λ j=>decide (j<k+1):=by
    funext j
    by_cases h1:j<k
    ·simp [h1,show j<k+1 by omega]
    by_cases h2:j=k
    ·simp [h2]
    simp [h1,h2,show ¬ j<k+1 by omega]
   refine afU hc htr hok (ali hlt) (p:=λ j=>decide (j<k)) (by simp) (λ t _=>⟨uD _ _ _ t _ _ om,uD _ _ _ t _ _ om⟩) (λ _ b _=>uD _ _ _ b _ _ om)
    (λ t _ j hj hpj=>by simp at hpj; omega) (λ b _ j hj hpj=>by simp at hpj; omega) hR hT λ a' w' I' O' hR' hT'=>?_
   rw [hp] at hR' hT'
   exact ih (k+1) om a' w' I' O' hR' hT'
 have e0:∀ {α:Type} (wr:Nat->Nat->Bool) (g:Nat->Nat->α) (F:Nat->α),sel wr g (λ j=>decide (j<0)) ops.size F=F:=λ wr g F=>funext λ t=>uD wr g F t 0 ops.size (alh _);rw [List.range_eq_range'];refine key ops.size 0 om a w I O ?_ ?_
 ·unfold U3;rw [e0];exact hR.Ju λ o h=>.inl h
 unfold Jt RG;rw [e0,e0];exact hTR.Ju (λ o h=>.inl h) hR
end
end Go.Ab
namespace Go.Ab
section
variable {P:Program} {cfg:yx} {cx:Ctx} {N:Nat} {ds:List Deferred}
def Closed (ops:Array Oper) (listed:Array Bool):Prop:=∀(j:Nat) (o:Oper),ops[j]? = some o->listed.getD j false=true->∀e∈o.after,Region.binds .any e=true->listed.getD e.on false=true
theorem SG {ops:Array Oper} {listed:Array Bool} (hcl:Closed ops listed):∀(f i j:Nat),before ops.toList f i j=true->(∀o,ops[j]? = some o->∀e∈o.after,Region.binds .any e=true->listed.getD e.on false=true)->listed.getD i false=true:=by
 intro f;induction f with
 | zero=>intro i j h; cases h
 | succ f ih=>
  intro i j h hj;unfold before at h;rw [aaN] at h;cases ho:ops[j]? with
  | none=>rw [show ops.toList[j]? = none by simpa using ho] at h; cases h
  | some o=>
   rw [show ops.toList[j]? = some o by simpa using ho] at h;simp only [aoH,aei,al4] at h;obtain ⟨e,he,⟨hb,_⟩,h2⟩:=h;have hl:=hj o ho e (by simpa using he) hb;rcases h2 with h2 | h2
   ·rw [<- adU h2]; exact hl
   exact ih i e.on h2 λ o' ho'=>hcl e.on o' ho' hl
variable {all:List Oper}
theorem YD:∀(l:List Oper) (i:Nat),WV all l i=true->∀k o,l[k]? = some o->adN o (i+k)=true∧Ol all (i+k) o all 0=true:=by
 intro l;induction l with
 | nil=>intro i _ k o h; simp at h
 | cons x l ih=>
  intro i h k o hk;simp only [WV,aei] at h;cases k with
  | zero=>simp at hk; subst hk; exact h.1
  | succ k=>
   have:=ih (i+1) h.2 k o (by simpa using hk);rwa [auk,azk 1 k] at this
theorem acg {j:Nat} {oj:Oper}:∀(l:List Oper) (i:Nat),Ol all j oj l i=true->∀k o,l[k]? = some o->i+k<j->aau all o oj=true∨before all 40 (i+k) j=true:=by
 intro l;induction l with
 | nil=>intro i _ k o h; simp at h
 | cons x l ih=>
  intro i h k o hk hlt;unfold Ol at h;have hij:Nat.blt i j=true:=by simp; omega
  simp only [hij,aei,al4] at h;cases k with
  | zero=>simp at hk; subst hk; exact h.1
  | succ k=>
   have:=ih (i+1) h.2 k o (by simpa using hk) om;rwa [auk,azk 1 k] at this
theorem ac1 {x:Nat} {l:azt} (h:x∈l):D5 x l=true:=by
 induction l with
 | nil=>cases h
 | cons b l ih=>
  unfold D5;cases hb:Nat.beq x b with
  | true=>rfl
  | false=>
   rcases alu.1 h with e | e
   ·subst e; simp at hb
   exact ih e
theorem Oy {x y:Oper} (h:aau all x y=true):(∀d,x.dst=some d->d ∉ looks all y)∧(∀d,y.dst=some d->d ∉ looks all x)∧(∀d,x.dst=some d->y.dst≠some d):=by
 unfold aau at h;simp only [aei,ahk] at h;obtain ⟨⟨h1,h2⟩,h3⟩:=h;refine ⟨λ d hd hm=>?_,λ d hd hm=>?_,λ d hd hm=>?_⟩
 ·rw [hd] at h1; simp only [isIn] at h1; rw [ac1 hm] at h1; cases h1
 ·rw [hd] at h2; simp only [isIn] at h2; rw [ac1 hm] at h2; cases h2
 rw [hd,hm] at h3; simp [isIn,D5] at h3
theorem afW {l:azt} {p:Nat->Bool} {i:Nat} (hi:i∈l) (hp:p i=true):(l.filter λ k=>p k&&!decide (k=i)).length<(l.filter p).length:=by
 have le:∀l:azt,(l.filter λ k=>p k&&!decide (k=i)).length<=(l.filter p).length:=by
  intro l;induction l with
  | nil=>exact afg _
  | cons x l ih=>
   rw [avn,avn];cases hx:p x with
   | true=>
    rw [if_pos rfl];split
    ·simp only [ajO]; omega
    simp only [ajO]; omega
   | false=>simpa using ih
 induction l with
 | nil=>cases hi
 | cons x l ih=>
  rw [avn,avn];by_cases hxi:x=i
  ·subst hxi;rw [hp,if_pos rfl,if_neg (by simp)];have:=le l;simp only [ajO];omega
  have hil:i∈l:=by rcases alu.1 hi with e | e; exact absurd e.symm hxi; exact e
  have:=ih hil;cases hx:p x with
  | true=>
   rw [if_pos rfl,if_pos (by simp [hxi])];simp only [ajO];omega
  | false=>simpa using this
def aqv (ops:Array Oper) (ent:Nat->TE):Prop:=∀i j,i<j->j<ops.size->before ops.toList 40 i j=true∨
 ((∀b,wrH ent i b=true->(ent j).ex=true->b ∉ (ent j).BR)∧(∀b,wrH ent j b=true->(ent i).ex=true->b ∉ (ent i).BR)∧(∀b,wrH ent i b=true->wrH ent j b=false))
theorem afX (hc:iL P cfg) {r:Option Nat} {n0:Nat} {ops:Array Oper} {id nx:Nat} {T0:Nat->AV} {H0:Nat->Option eP} {ent:Nat->TE} (htr:TrI cfg (Spec P cfg) ops.toList nx T0 H0 ent) (hok:uw N ops.toList ops.toList 0=true)
  (hdr:WV ops.toList ops.toList 0=true) (hdyn:aqv ops ent)
  {a:Act} {w:World} {I:Nat->Prop} {O:OM} (hR:Rel cfg cx H0 (λ o=>o<nx) w I O) (hTR:Ca N ds T0 (λ _=>true) a w I O (λ o=>o<nx)) {Q:Exit->Act->World->Prop}
  (hQ:∀a' w' I' O',Rel cfg cx (U3 ent yes ops.size H0) (λ o=>o<nx+stride*ops.size) w' I' O'->Ca N ds (Jt ops.toList ent yes ops.size T0) (RG ops.toList ent yes ops.size) a' w' I' O' (λ o=>o<nx+stride*ops.size)->Q .normal a' w'):
  (Code.region id ops true).wpIn (FW r) n0 P Q a w:=by
 refine wpIn_region_any hc.mixed ?_;have edges:∀k o,ops[k]? = some o->∀e∈o.after,Region.binds .any e=true->e.on<k:=by
  intro k o ho e he hb;obtain ⟨h1,_⟩:=YD ops.toList 0 hdr k o (by simpa using ho);unfold adN at h1;rw [ahi,aoI] at h1;have:=h1 e (by simpa using he);simpa [hb] using this
 have tmps:∀i j oi oj,i<j->ops[i]? = some oi->ops[j]? = some oj->aau ops.toList oi oj=true∨before ops.toList 40 i j=true:=by
  intro i j oi oj hij hi hj;obtain ⟨_,h2⟩:=YD ops.toList 0 hdr j oj (by simpa using hj);rw [ahi] at h2;have:=acg ops.toList 0 h2 i oi (by simpa using hi) om;rwa [ahi] at this
 have arp:∀k t,wrT ops.toList k t=true->∃o,ops[k]? = some o∧o.dst=some t:=by
  intro k t h;unfold wrT at h;split at h
  ·rename_i o ho;exact ⟨o,by simpa using ho,by simpa using h⟩
  cases h
 have key:∀(fuel:Nat) (listed:Array Bool) (a:Act) (w:World) (I:Nat->Prop) (O:OM),listed.size=ops.size->Closed ops listed->((List.range ops.size).filter λ k=>!listed.getD k false).length<=fuel->
   Rel cfg cx (U3 ent (λ k=>listed.getD k false) ops.size H0) (Dat nx ops.size (λ k=>listed.getD k false)) w I O->
   Ca N ds (Jt ops.toList ent (λ k=>listed.getD k false) ops.size T0) (RG ops.toList ent (λ k=>listed.getD k false) ops.size) a w I O (Dat nx ops.size (λ k=>listed.getD k false))->wpAnyIn (FW r) n0 P .any ops Q fuel listed a w:=by
  intro fuel
  have done:∀(listed:Array Bool) (a:Act) (w:World) (I:Nat->Prop) (O:OM),(∀k,k<ops.size->listed.getD k false=true)->
    Rel cfg cx (U3 ent (λ k=>listed.getD k false) ops.size H0) (Dat nx ops.size (λ k=>listed.getD k false)) w I O->
    Ca N ds (Jt ops.toList ent (λ k=>listed.getD k false) ops.size T0) (RG ops.toList ent (λ k=>listed.getD k false) ops.size) a w I O (Dat nx ops.size (λ k=>listed.getD k false))->Q .normal a w:=by
   intro listed a w I O hall hR hT
   have e:∀ {α:Type} (wr:Nat->Nat->Bool) (g:Nat->Nat->α) (F:Nat->α),sel wr g (λ k=>listed.getD k false) ops.size F=sel wr g yes ops.size F:=λ wr g F=>funext λ t=>Js wr g _ _ F t _ λ k hk _=>hall k hk
   unfold U3 at hR
   unfold Jt RG at hT
   rw [e] at hR
   rw [e,e] at hT
   have hD:∀o,Dat nx ops.size (λ k=>listed.getD k false) o->o<nx+stride*ops.size:=by
    rintro o (h | ⟨k,q1,_,q3,q4⟩)
    ·omega
    have:=aqT stride (show k+1<=ops.size from q1)
    rw [Nat.mul_add,avC] at this
    omega
   exact hQ a w I O (hR.Ju hD) (hT.Ju hD hR)
  have full:∀(listed:Array Bool),listed.size=ops.size->Region.ready .any ops listed=[]->∀k,k<ops.size->listed.getD k false=true:=by
   intro listed hls hr k
   induction k using Nat.strongRecOn with
   | _ k ih=>
    intro hk
    cases hl:listed.getD k false with
    | true=>rfl
    | false=>
     have:k∈Region.ready .any ops listed:=mem_ready.2 ⟨by
      have hlt:k<listed.size:=by omega
      simp [hlt] at hl ⊢; exact hl,ops[k],ali hk,λ e he hb=>ih e.on (edges k _ (ali hk) e he hb) (Nat.lt_trans (edges k _ (ali hk) e he hb) hk)⟩
     rw [hr] at this
     cases this
  induction fuel with
  | zero=>
   intro listed a w I O hls hcl hcnt hR hT
   have hall:∀k,k<ops.size->listed.getD k false=true:=by
    intro k hk
    cases hl:listed.getD k false with
    | true=>rfl
    | false=>
     have:k∈(List.range ops.size).filter λ k=>!listed.getD k false:=ayQ.2 ⟨ara.2 hk,by rw [hl]; rfl⟩
     have:=List.length_pos_of_mem this
     omega
   refine ⟨?_,done listed a w I O hall hR hT⟩
   rw [List.eq_nil_iff_forall_not_mem]
   intro k hk
   obtain ⟨h1,o,h2,_⟩:=mem_ready.1 hk
   have hlt:k<ops.size:=(ap7.1 h2).1
   have:=hall k hlt
   have hlt':k<listed.size:=by omega
   simp [hlt'] at this h1
   rw [this] at h1
   cases h1
  | succ fuel ih=>
   intro listed a w I O hls hcl hcnt hR hT
   refine ⟨λ hr=>done listed a w I O (full listed hls hr) hR hT,λ i hi=>?_⟩
   obtain ⟨h1,o,ho,hed⟩:=mem_ready.1 hi
   have hlt:i<ops.size:=(ap7.1 ho).1
   have hpi:listed.getD i false=false:=by
    have hlt':i<listed.size:=by omega
    simp [hlt'] at h1 ⊢; exact h1
   have avx:∀o',ops[i]? = some o'->∀e∈o'.after,Region.binds .any e=true->listed.getD e.on false=true:=λ o' ho'=>by rw [ho] at ho'; cases ho'; exact hed
   have amn:∀k,before ops.toList 40 k i=true->listed.getD k false=true:=λ k h=>SG hcl 40 k i h avx
   have ad8:∀k,before ops.toList 40 i k=true->listed.getD k false=false:=λ k h=>by
    cases hk:listed.getD k false with
    | false=>rfl
    | true=>
     have:=SG hcl 40 i k h λ o' ho'=>hcl k o' ho' hk
     rw [hpi] at this
     cases this
   have hp:(λ j=>listed.getD j false||decide (j=i))=λ j=>(listed.setIfInBounds i true).getD j false:=by
    funext j
    by_cases hj:j=i
    ·subst hj
     have:j<listed.size:=by omega
     simp [this]
    rw [getD_set_ne false (λ e=>hj e.symm)]
    simp [hj]
   have arq:∀ {α:Type} (wr:Nat->Nat->Bool) (g:Nat->Nat->α) (F:Nat->α) (t:Nat),(∀k,k<ops.size->wr k t=true->k≠i->before ops.toList 40 (min k i) (max k i)=true)->
     sel wr g (λ j=>listed.getD j false) ops.size F t=sel wr g yes i F t:=by
    intro α wr g F t h
    refine (Js wr g _ (λ j=>decide (j<i)) F t _ λ k hk hw=>?_).trans (uD wr g F t i ops.size om)
    by_cases hki:k=i
    ·subst hki; simpa using hpi
    have hb:=h k hk hw hki
    rcases auY hki with hlt' | hgt
    ·rw [auW om,azl om] at hb
     rw [amn k hb]; simp [hlt']
    rw [azm om,Nat.max_eq_left om] at hb
    rw [ad8 k hb]; simp; omega
   refine afU hc htr hok ho (p:=λ j=>listed.getD j false) hpi (λ t ht=>?_) (λ hex b hb=>?_) (λ t ht k hik hpk=>?_) (λ b hb k hik hpk=>?_) hR hT λ a' w' I' O' hR' hT'=>?_
   ·have cond:∀k,k<ops.size->wrT ops.toList k t=true->k≠i->before ops.toList 40 (min k i) (max k i)=true:=by
     intro k hk hw hki
     obtain ⟨ok,hok',hdk⟩:=arp k t hw
     rcases auY hki with hlt' | hgt
     ·rw [auW om,azl om]
      rcases tmps k i ok o hlt' hok' ho with h | h
      ·exact absurd ht ((Oy h).1 t hdk)
      exact h
     rw [azm om,Nat.max_eq_left om]
     rcases tmps i k o ok hgt ho hok' with h | h
     ·exact absurd ht ((Oy h).2.1 t hdk)
     exact h
    exact ⟨arq _ _ _ t cond,arq _ _ _ t cond⟩
   ·refine arq _ _ _ b λ k hk hw hki=>?_
    rcases auY hki with hlt' | hgt
    ·rw [auW om,azl om]
     rcases hdyn k i hlt' hlt with h | h
     ·exact h
     exact absurd hb (h.1 b hw hex)
    rw [azm om,Nat.max_eq_left om]
    rcases hdyn i k hgt hk with h | h
    ·exact h
    exact absurd hb (h.2.1 b hw hex)
   ·cases hw:wrT ops.toList k t with
    | false=>rfl
    | true=>
     obtain ⟨oi,hoi,hdi⟩:=arp i t ht
     obtain ⟨ok,hok',hdk⟩:=arp k t hw
     rcases tmps i k oi ok hik hoi hok' with h | h
     ·exact absurd hdk ((Oy h).2.2 t hdi)
     rw [ad8 k h] at hpk; cases hpk
   ·by_cases hk:k<ops.size
    ·rcases hdyn i k hik hk with h | h
     ·rw [ad8 k h] at hpk; cases hpk
     exact h.2.2 b hb
    have:listed.getD k false=false:=by simp [aoF (show listed.size<=k by omega)]
    rw [this] at hpk; cases hpk
   rw [hp] at hR' hT'
   refine ih (listed.setIfInBounds i true) a' w' I' O' (by simp [hls]) ?_ ?_ hR' hT'
   ·intro j oj hj hl e he hb
    by_cases hji:j=i
    ·subst hji
     rw [ho] at hj
     cases hj
     exact getD_set_true (hed e he hb)
    rw [getD_set_ne false (λ e=>hji e.symm)] at hl
    exact getD_set_true (hcl j oj hj hl e he hb)
   have hlt':i<listed.size:=by omega
   have:=afW (l:=List.range ops.size) (p:=λ k=>!listed.getD k false) (i:=i) (ara.2 hlt) (by rw [hpi]; rfl)
   have e2:((List.range ops.size).filter λ k=>!(listed.setIfInBounds i true).getD k false)=(List.range ops.size).filter λ k=>!listed.getD k false&&!decide (k=i):=by
    congr 1
    funext k
    rw [<- congrFun hp k]
    simp
   rw [e2]
   omega
 have e0:(λ k=>(Array.replicate ops.size false).getD k false)=λ _=>false:=by
  funext k;rcases aoG k ops.size with h | h
  ·simp [h]
  simp [h]
 have e1:∀ {α:Type} (wr:Nat->Nat->Bool) (g:Nat->Nat->α) (F:Nat->α),sel wr g (λ _=>false) ops.size F=F:=λ wr g F=>funext λ t=>by
  have:=uD wr g F t 0 ops.size (alh _);refine (Js wr g _ (λ j=>decide (j<0)) F t _ λ k _ _=>?_).trans this;simp
 refine key ops.size (Array.replicate ops.size false) a { w with drawn:=w.drawn+1 } I O (by simp) ?_ ?_ ?_ ?_
 ·intro j o _ h;rw [congrFun e0 j] at h;cases h
 ·exact afQ (arz _ _) (by simp)
 ·rw [e0];unfold U3;rw [e1];exact (Rel.KW (w:=w) (w':={ w with drawn:=w.drawn+1 }) rfl (iQ.heap rfl rfl rfl rfl) hR).Ju λ o h=>.inl h
 rw [e0];unfold Jt RG;rw [e1,e1];have Vb:=Rel.KW (w:=w) (w':={ w with drawn:=w.drawn+1 }) rfl (iQ.heap rfl rfl rfl rfl) hR;have:Ca N ds T0 (λ _=>true) a { w with drawn:=w.drawn+1 } I O (λ o=>o<nx):=⟨hTR.defers,hTR.size,λ t ht=>fB.KW (w:=w) (w':={ w with drawn:=w.drawn+1 }) rfl hR (hTR.rep t ht),hTR.gone⟩;exact this.Ju (λ o h=>.inl h) Vb
end
end Go.Ab
namespace Go.Ab
section
variable {P:Program} {cfg:yx} {cx:Ctx} {N:Nat} {Sp:pQ}
theorem ac2:∀(l:azx) (K:azx->Prop),Oh l K↔K l:=by
 intro l;induction l with
 | nil=>intro K; exact ayK
 | cons v l ih=>
  intro K;unfold Oh;rw [ih];cases v<;>exact ayK
theorem force_eq (v:AV) (K:AV->Prop):force v K↔K v:=by
 cases v<;>first | exact ayK | exact ac2 _ _
theorem afY:∀(l:lD) (K:lD->Prop),ES l K↔K l:=by
 intro l;induction l with
 | nil=>intro K; exact ayK
 | cons u l ih=>
  intro K;obtain ⟨o,x⟩:=u;cases x with
  | none=>exact ih _
  | some x=>cases x with
   | box cs=>simp only [ES]; rw [ac2]; exact ih _
   | row es n g=>exact ih _
   | map kd z f=>exact ih _
theorem ajc (H:lD):∀(ups:lD) (K:lD->Prop),alJ ups H K↔K (ups++H):=by
 intro ups;induction ups with
 | nil=>intro K; exact ayK
 | cons u l ih=>intro K; unfold alJ; exact ih _
theorem Rf (p:PC):∀(l:List PC) (K:List PC->Prop),TT l p K↔K (l++[p]):=by
 intro l;induction l with
 | nil=>intro K; exact ayK
 | cons q l ih=>intro K; unfold TT; exact ih _
theorem akn:∀(l:List PC) (j:Nat) (K:PC->Prop),ahr l j K↔K (Oj l j):=by
 intro l;induction l with
 | nil=>intro j K; exact ayK
 | cons p l ih=>intro j K; cases j with
  | zero=>exact ayK
  | succ j=>exact ih j K
def holds (pc:PC):Prop:=∀q∈pc,q.1=q.2
theorem Rh:∀(pc:PC) (p:Prop) (K:Prop->Prop),aj0 pc p K->∃q:Prop,K q∧(q->holds pc->p):=by
 intro pc;induction pc with
 | nil=>intro p K h; exact ⟨p,h,λ h _=>h⟩
 | cons x l ih=>
  intro p K h;obtain ⟨c,b⟩:=x;obtain ⟨q,h1,h2⟩:=ih _ _ h;exact ⟨q,h1,λ hq hh=>h2 hq (λ y hy=>hh y (akb _ hy)) (hh (c,b) (by simp))⟩
theorem Z6 (pc:PC) (H:Nat->Option eP):∀(pg:Pg) (BR:azt) (K:AV->lD->azt->Prop),ev Sp pc H pg BR K->∃v ups Y7,K v ups Y7∧(∀x∈BR,x∈Y7)∧(holds pc->∃r,gq Sp H pg v ups r∧∀x∈r,x∈Y7):=by
 intro pg;induction pg with
 | ret v ups=>
  intro BR K h;unfold ev at h;rw [force_eq,afY] at h;exact ⟨v,ups,BR,h,λ _ h=>h,λ _=>⟨[],.ret v ups,λ x hx=>by cases hx⟩⟩
 | need p k ih=>
  intro BR K h;unfold ev at h;obtain ⟨q,⟨h1,h2⟩,h3⟩:=Rh pc p _ h;obtain ⟨v,ups,Y7,h4,h5,h6⟩:=ih BR K h2;refine ⟨v,ups,Y7,h4,h5,λ hh=>?_⟩;obtain ⟨r,h7,h8⟩:=h6 hh;exact ⟨r,.need (h3 h1 hh) h7,h8⟩
 | rd o k ih=>
  intro BR K h;unfold ev at h;split at h
  ·rename_i x hx;obtain ⟨v,ups,Y7,h4,h5,h6⟩:=ih x (o::BR) K h;refine ⟨v,ups,Y7,h4,λ y hy=>h5 y (akb _ hy),λ hh=>?_⟩;obtain ⟨r,h7,h8⟩:=h6 hh;refine ⟨o::r,.rd hx h7,λ y hy=>?_⟩;rcases alu.1 hy with e | e
   ·subst e; exact h5 y (by simp)
   exact h8 y e
  obtain ⟨q,⟨h1,h2⟩,h3⟩:=Rh pc False _ h;exact ⟨_,_,BR,h2,λ _ h=>h,λ hh=>(h3 h1 hh).elim⟩
 | call f args obs k ih=>
  intro BR K h;unfold ev at h;obtain ⟨r,fQ,h⟩:=h;obtain ⟨q,⟨h1,h2⟩,h3⟩:=Rh pc _ _ h;obtain ⟨v,ups,Y7,h4,h5,h6⟩:=ih r fQ BR K h2;refine ⟨v,ups,Y7,h4,h5,λ hh=>?_⟩;obtain ⟨r',h7,h8⟩:=h6 hh;exact ⟨r',.call (h3 h1 hh) h7,h8⟩
 | fail=>
  intro BR K h;unfold ev at h;obtain ⟨q,⟨h1,h2⟩,h3⟩:=Rh pc False _ h;exact ⟨_,_,BR,h2,λ _ h=>h,λ hh=>(h3 h1 hh).elim⟩
def ako:List Oper->List TE->(Nat->AV)->Nat->AV
 | o::rest,e::tr,T=>ako rest tr (jo T o.dst e.v)
 | _,_,T=>T
def akp:List Oper->List TE->(Nat->Bool)->Nat->Bool
 | o::rest,e::tr,V=>akp rest tr (jo V o.dst e.ex)
 | _,_,V=>V
def akq:List TE->(Nat->Option eP)->Nat->Option eP
 | e::tr,H=>akq tr (nH H e.ups)
 | [],H=>H
theorem oO (T:List (Nat×AV)) (d:Nat) (v:AV):iK ((d,v)::T)=jo (iK T) (some d) v:=by
 funext t;unfold iK jo;simp only [look];cases hb:Nat.beq d t with
 | true=>have:=adU hb; subst this; simp
 | false=>
  have:t≠d:=λ e=>by subst e; simp at hb
  simp [this]
theorem YE (ups H:lD):hget (ups++H)=nH (hget H) ups:=by
 funext o;unfold hget nH;rw [Ow];cases look ups o with
 | none=>rfl
 | some x=>cases x<;>rfl
theorem Z7 (dst:Option Nat) (v u:AV) (T U:List (Nat×AV)) (K:List (Nat×AV)->List (Nat×AV)->Prop) (h:alK dst v u T U K):∃T' U',K T' U'∧iK T'=jo (iK T) dst v∧iK U'=jo (iK U) dst u:=by
 cases dst with
 | none=>exact ⟨T,U,h,rfl,rfl⟩
 | some d=>exact ⟨_,_,h,oO T d v,oO U d u⟩
def ajd:List TE->List Log->List Log->Prop
 | [],l,l0=>l=l0
 | e::tr,l,l0=>∃g:Log,(e.ex=true->(∀x∈e.BR,x∈g.BR))∧(∀x,(look e.ups x).isSome=true->x∈g.wrs)∧ajd tr l (g::l0)
theorem afZ (ups:lD) (x:Nat) (h:(look ups x).isSome=true):x∈ids ups:=by
 induction ups with
 | nil=>cases h
 | cons u l ih=>
  obtain ⟨o,y⟩:=u;simp only [look] at h;simp only [ids,alu];cases hb:Nat.beq o x with
  | true=>exact .inl (adU hb).symm
  | false=>simp only [hb] at h; exact .inr (ih h)
theorem ahW (l:List PC) (p:PC) (j:Nat):Oj (l++[p]) j=if j<l.length then Oj l j else if j=l.length then p else []:=by
 induction l generalizing j with
 | nil=>cases j<;>simp [Oj]
 | cons q l ih=>
  cases j with
  | zero=>simp [Oj]
  | succ j=>
   simp only [apW,Oj,ih,ajO];by_cases h1:j<l.length
   ·simp [h1]
   by_cases h2:j=l.length
   ·simp [h2]
   simp [h1,h2]
theorem upd_ne {α:Type} (F:Nat->α) (d:Option Nat) (x:α) (t:Nat) (h:d≠some t):jo F d x t=F t:=by
 cases d with
 | none=>rfl
 | some k=>
  have:t≠k:=λ e=>h (by rw [e]);simp [jo,this]
theorem Oz {α:Type} (F:Nat->α) (t:Nat) (x:α):jo F (some t) x t=x:=by simp [jo]
theorem ahX {all:List Oper} {nx:Nat} (hok:uw N all all 0=true):∀(rest:List Oper) (i:Nat) (T U:List (Nat×AV)) (H:lD) (pcs:List PC) (log:List Log) (K:St->List Log->Prop) (V:Nat->Bool),
  (∀j,rest[j]? = all[i+j]?)->pcs.length=i->(∀j d,j<i->writers all d=[j]->(V d=true↔holds (Oj pcs j)))->(∀t,iK U t=.undef∨(V t=true∧iK U t=iK T t))->
  afp cfg Sp all nx rest i T U H pcs log K->∃tr s ad9,Tr cfg Sp all nx rest i (iK T) V (hget H) tr∧tr.length=rest.length∧K s ad9∧s.nx=nx+stride*(i+rest.length)∧hget s.heap=akq tr (hget H)∧
   (∀t,iK s.tmps t=.undef∨(akp rest tr V t=true∧iK s.tmps t=ako rest tr (iK T) t))∧ajd tr ad9 log:=by
 intro rest;induction rest with
 | nil=>
  intro i T U H pcs log K V _ _ _ hU h;exact ⟨[],_,log,trivial,rfl,h,rfl,rfl,hU,rfl⟩
 | cons o rest ih=>
  intro i T U H pcs log K V hr hpl hpc hU h;have hi:all[i]? = some o:=by simpa using (hr 0).symm
  have hop:=(T9 all 0 hok i o hi).1;rw [ahi] at hop;have hr':∀j,rest[j]? = all[i+1+j]? := λ j=>by
   have:=hr (j+1);rw [show i+(j+1)=i+1+j by omega] at this;simpa using this
  have go:∀(v u:AV) (ups:lD) (ex:Bool) (r:azt) (g:Log) (pc:PC) (T' U':List (Nat×AV)) (H':lD),nM all (iK T) o->ex=lG all (iK T) V o->(ex=true->gq Sp (hget H) (iC cfg (nx+stride*i) o.op (ZV cfg (iK T))) v ups r)->(ex=false->ups=[])->
    iK T'=jo (iK T) o.dst v->iK U'=jo (iK U) o.dst u->hget H'=nH (hget H) ups->(u=.undef∨(ex=true∧u=v))->(ex=true↔holds pc)->(ex=true->(∀x∈r,x∈g.BR))->(∀x,(look ups x).isSome=true->x∈g.wrs)->
    afp cfg Sp all nx rest (i+1) T' U' H' (pcs++[pc]) (g::log) K->∃tr s ad9,Tr cfg Sp all nx (o::rest) i (iK T) V (hget H) tr∧tr.length=(o::rest).length∧K s ad9∧s.nx=nx+stride*(i+(o::rest).length)∧hget s.heap=akq tr (hget H)∧
     (∀t,iK s.tmps t=.undef∨(akp (o::rest) tr V t=true∧iK s.tmps t=ako (o::rest) tr (iK T) t))∧ajd tr ad9 log:=by
   intro v u ups ex r g pc T' U' H' g1 g2 g3 g4 g5 g6 g7 g8 g9 g10 g11 g12
   have avy:∀j d,j<i+1->writers all d=[j]->(jo V o.dst ex d=true↔holds (Oj (pcs++[pc]) j)):=by
    intro j d hj hw
    rw [ahW,hpl]
    by_cases hji:j=i
    ·subst hji
     have:j∈writers all d:=by rw [hw]; simp
     obtain ⟨o',h1,h2⟩:=(yJ all d j).1 this
     rw [hi] at h1
     cases h1
     rw [h2,Oz]
     simpa using g9
    have hne:o.dst≠some d:=λ e=>by
     have:i∈writers all d:=(yJ all d i).2 ⟨o,hi,e⟩
     rw [hw] at this
     simp at this
     omega
    rw [upd_ne _ _ _ _ hne,if_pos om]
    exact hpc j d om hw
   have hU':∀t,iK U' t=.undef∨(jo V o.dst ex t=true∧iK U' t=iK T' t):=by
    intro t
    rw [g5,g6]
    by_cases hd:o.dst=some t
    ·rw [hd,Oz,Oz,Oz]
     rcases g8 with e | ⟨e1,e2⟩
     ·exact .inl e
     exact .inr ⟨e1,e2⟩
    rw [upd_ne _ _ _ _ hd,upd_ne _ _ _ _ hd,upd_ne _ _ _ _ hd]
    exact hU t
   obtain ⟨tr,s,ad9,q1,q2,q3,q4,q5,q6,q7⟩:=ih (i+1) T' U' H' (pcs++[pc]) (g::log) K (jo V o.dst ex) hr' (by simp [hpl]) avy hU' g12
   rw [g5,g7] at q1
   rw [g7] at q5
   rw [g5] at q6
   exact ⟨⟨ex,v,ups,r⟩::tr,s,ad9,⟨g1,g2,g3,g4,q1⟩,by simp [q2],q3,by rw [q4,show i+1+rest.length=i+(o::rest).length by simp; omega],q5,q6,g,g10,g11,q7⟩
  unfold afp at h;cases hg:o.guard with
  | none=>
   rw [hg] at h;simp only at h;obtain ⟨v,ups,Y7,h1,_,h2⟩:=Z6 _ _ _ _ _ h;obtain ⟨r,h3,h4⟩:=h2 (λ q hq=>by cases hq);obtain ⟨T',U',h5,h6,h7⟩:=Z7 _ _ _ _ _ _ h1;rw [ajc,Rf] at h5;have hs:nM all (iK T) o:=by unfold nM; rw [hg]; trivial
   have hon:lG all (iK T) V o=true:=by unfold lG; rw [hg]
   exact go v v ups true r _ [] T' U' _ hs hon.symm (λ _=>h3) (λ e=>by cases e) h6 h7 (YE ups H) (.inr ⟨rfl,rfl⟩) ⟨λ _ q hq=>by (cases hq),λ _=>rfl⟩ (λ _=>h4) (λ x hx=>afZ ups x hx) h5
  | some gu=>
   obtain ⟨j,b⟩:=gu;rw [hg] at h;simp only at h;cases hd:Yt all j with
   | none=>rw [hd] at h; exact h.elim
   | some d=>
    rw [hd] at h;simp only at h;cases hT:iK T d with
    | bool c=>
     rw [hT] at h;simp only at h;have hjd:j<i∧writers all d=[j]:=by
      unfold afq at hop;rw [hg] at hop;simp only at hop;split at hop
      ·rename_i h1;split at h1
       ·rename_i hlt;rw [hd] at h1;simp only at h1;split at h1
        ·rename_i j' hw;have e:=adU h1;subst e;exact ⟨by simpa using hlt,hw⟩
        cases h1
       cases h1
      cases hop
     have hVd:=hpc j d hjd.1 hjd.2;have hs:nM all (iK T) o:=by unfold nM; rw [hg]; exact ⟨d,c,hd,hT⟩
     have hon:lG all (iK T) V o=(V d&&(c==b)):=by unfold lG; rw [hg]; simp only [hd,hT,isB]
     cases hq:ai2 cfg o.op with
     | true=>
      rw [hq] at h;simp only at h;rw [akn] at h;obtain ⟨v,ups,Y7,h1,_,h2⟩:=Z6 _ _ _ _ _ h;cases ups with
      | cons u l=>exact h1.elim
      | nil=>
       simp only at h1;obtain ⟨T',U',h5,h6,h7⟩:=Z7 _ _ _ _ _ _ h1;rw [Rf] at h5;have hiff:lG all (iK T) V o=true↔holds ((c,b)::Oj pcs j):=by
        rw [hon];simp only [aei,beq_iff_eq,hVd];constructor
        ·rintro ⟨q1,q2⟩ q hq;rcases alu.1 hq with e | e
         ·subst e; exact q2
         exact q1 q e
        intro q;exact ⟨λ y hy=>q y (akb _ hy),q (c,b) (by simp)⟩
       cases hex:lG all (iK T) V o with
       | true=>
        obtain ⟨r,h3,h4⟩:=h2 (hiff.1 hex);exact go v .undef [] true r _ _ T' U' H hs hex.symm (λ _=>h3) (λ e=>by cases e) h6 h7 (by rw [EW]) (.inl rfl) ⟨λ _=>hiff.1 hex,λ _=>rfl⟩ (λ _=>h4) (λ x hx=>by cases hx) h5
       | false=>
        exact go v .undef [] false [] _ _ T' U' H hs hex.symm (λ e=>by cases e) (λ _=>rfl) h6 h7 (by rw [EW]) (.inl rfl) (by rw [<- hex]; exact hiff) (λ e=>by cases e) (λ x hx=>by cases hx) h5
     | false=>
      rw [hq] at h;simp only at h;split at h
      ·rename_i hnil;have hV:V d=true:=hVd.2 (by rw [hnil]; exact λ q hq=>by cases hq);rw [hV,aq0] at hon;cases hcb:(c==b) with
       | true=>
        rw [hcb] at h;simp only [aas] at h;obtain ⟨v,ups,Y7,h1,_,h2⟩:=Z6 _ _ _ _ _ h;obtain ⟨r,h3,h4⟩:=h2 (λ q hq=>by cases hq);obtain ⟨T',U',h5,h6,h7⟩:=Z7 _ _ _ _ _ _ h1;rw [ajc,Rf] at h5;exact go v v ups true r _ [] T' U' _ hs (by rw [hon,hcb]) (λ _=>h3) (λ e=>by cases e) h6 h7 (YE ups H) (.inr ⟨rfl,rfl⟩) ⟨λ _ q hq=>by (cases hq),λ _=>rfl⟩ (λ _=>h4) (λ x hx=>afZ ups x hx) h5
       | false=>
        rw [hcb] at h;simp only [aas] at h;obtain ⟨T',U',h5,h6,h7⟩:=Z7 _ _ _ _ _ _ h;rw [Rf] at h5;refine go .undef .undef [] false [] _ _ T' U' H hs (by rw [hon,hcb]) (λ e=>by cases e) (λ _=>rfl) h6 h7 (by rw [EW]) (.inl rfl) ⟨λ e=>by (cases e),λ q=>?_⟩ (λ e=>by cases e) (λ x hx=>by cases hx) h5;have:=q (c,b) (by simp);simp at hcb;exact absurd this hcb
      exact h.elim
    | _=>rw [hT] at h; exact h.elim
end
end Go.Ab
namespace Go.Ab
section
variable {P:Program} {cfg:yx} {cx:Ctx} {N:Nat}
def aaP (D:Nat):Deferred:={ target:=.collected D,args:=#[] }
def Marks (cx:Ctx) (w:World) (ds:List Deferred):Prop:=∃ms:azt,ms.Nodup∧(cx.rd=true->ms=[])∧ds=ms.map aaP∧∀D∈ms,cx.w0.heap.size<=D∧w.heap[D]? = some (.deferred (some []))
def Ctx.also (cx:Ctx) (ms:azt):Ctx:={ cx with K:=λ k o=>cx.K k o∨(k∈ms∧o=.deferred (some [])) }
theorem Rel.also {H:Nat->Option eP} {D:Nat->Prop} {w:World} {I:Nat->Prop} {O:OM} (hR:Rel cfg cx H D w I O) {ms:azt} (h:∀D∈ms,w.heap[D]? = some (.deferred (some []))):Rel cfg (cx.also ms) H D w I O:=
 { hR with
  env:=⟨hR.env.same,λ k o hk=>hk.elim (hR.env.kept k o) λ ⟨h1,h2⟩=>by subst h2; exact ⟨h k h1,rfl⟩⟩ }
theorem Rel.amo {H:Nat->Option eP} {D:Nat->Prop} {w:World} {I:Nat->Prop} {O:OM} {ms:azt} (hR:Rel cfg (cx.also ms) H D w I O):Rel cfg cx H D w I O∧∀D∈ms,w.heap[D]? = some (.deferred (some [])):=
 ⟨{ hR with
  env:=⟨hR.env.same,λ k o hk=>hR.env.kept k o (.inl hk)⟩ },λ D hD=>(hR.env.kept D _ (.inr ⟨hD,rfl⟩)).1⟩
structure jK (cfg:yx) (N m:Nat) (cx:Ctx) (s:St) (a:Act) (w:World) (I:Nat->Prop) (O:OM):Prop where
 m:cx.m=m
 rel:Rel cfg cx (hget s.heap) (λ o=>o<s.nx) w I O
 tmps:Ca N a.defers (iK s.tmps) (λ _=>true) a w I O (λ o=>o<s.nx)
 marks:Marks cx w a.defers
def Good (P:Program) (cfg:yx) (N:Nat) (r:Option Nat) (m:Nat) (c:Code) (s:St) (K:Exit->St->Prop):Prop:=
 ∀(n:Nat) (cx:Ctx) (a:Act) (w:World) (I:Nat->Prop) (O:OM),jK cfg N m cx s a w I O->cx.rd=r.isSome->c.wpIn (FW r) n P (λ e a' w'=>∃s' I' O',K e s'∧jK cfg N m cx s' a' w' I' O') a w
structure Loops (P:Program) (cfg:yx) (N:Nat) (r:Option Nat) (m:Nat) (c:Code) (s:St) (K:Exit->St->Prop):Prop where
 ok:Good P cfg N r m c s K
theorem ahY:∀(tr:List TE) (l l0:List Log),ajd tr l l0->∃gs:List Log,gs.length=tr.length∧l=gs.reverse++l0∧∀(k:Nat) (e:TE) (g:Log),tr[k]? = some e->gs[k]? = some g->(e.ex=true->∀x∈e.BR,x∈g.BR)∧∀x,(look e.ups x).isSome=true->x∈g.wrs:=by
 intro tr;induction tr with
 | nil=>intro l l0 h; exact ⟨[],rfl,h,λ k e g h=>by simp at h⟩
 | cons e tr ih=>
  intro l l0 h;obtain ⟨g,h1,h2,h3⟩:=h;obtain ⟨gs,q1,q2,q3⟩:=ih l (g::l0) h3;refine ⟨g::gs,by simp [q1],by simp [q2],λ k e' g' hk hg=>?_⟩;cases k with
  | zero=>simp at hk hg; subst hk; subst hg; exact ⟨h1,h2⟩
  | succ k=>exact q3 k e' g' (by simpa using hk) (by simpa using hg)
theorem OA {l m:azt} (h:meets l m=false):∀x∈l,x ∉ m:=by
 induction l with
 | nil=>intro x hx; cases hx
 | cons y l ih=>
  intro x hx;unfold meets at h;cases hm:D5 y m with
  | true=>simp [hm] at h
  | false=>
   simp only [hm] at h;rcases alu.1 hx with e | e
   ·subst e; exact AB hm
   exact ih h x e
theorem KY {α:Type} {motive:List α->Prop} (nil:motive []) (append_singleton:∀l x,motive l->motive (l++[x])):∀l,motive l:=by
 intro l;have:∀m:List α,motive m.reverse:=by
  intro m;induction m with
  | nil=>exact nil
  | cons x m ih=>rw [axd]; exact append_singleton _ x ih
 have:=this l.reverse;rwa [List.reverse_reverse] at this
variable {all:List Oper}
theorem af0 {j:Nat} {x:Log}:∀(gs:List Log),WW all j x gs.reverse gs.length=true->∀i g,gs[i]? = some g->(meets x.wrs g.BR=false∧meets g.wrs x.BR=false∧meets g.wrs x.wrs=false)∨before all 40 i j=true:=by
 intro gs;induction gs using KY with
 | nil=>intro _ i g h; simp at h
 | append_singleton gs y ih=>
  intro h i g hg;rw [List.reverse_append,afa] at h;simp only [axd,List.reverse_nil,ayR,apW,ajO,apv,ahi] at h;unfold WW at h;have rest:WW all j x gs.reverse gs.length=true:=by
   split at h
   ·exact h
   split at h
   ·exact h
   cases h
  by_cases hi:i<gs.length
  ·exact ih rest i g (by rwa [arG hi] at hg)
  have hil:i=gs.length:=by
   have:=(List.getElem?_eq_some_iff.1 hg).1;simp at this;omega
  subst hil;simp at hg;subst hg;split at h
  ·rename_i e1 e2 e3;exact .inl ⟨e1,e2,e3⟩
  split at h
  ·rename_i hb; exact .inr hb
  cases h
theorem amq:∀(gs:List Log),KJ all gs.reverse gs.length=true->∀j x,gs[j]? = some x->∀i g,i<j->gs[i]? = some g->(meets x.wrs g.BR=false∧meets g.wrs x.BR=false∧meets g.wrs x.wrs=false)∨before all 40 i j=true:=by
 intro gs;induction gs using KY with
 | nil=>intro _ j x h; simp at h
 | append_singleton gs y ih=>
  intro h j x hx i g hij hg;rw [List.reverse_append,afa] at h;simp only [axd,List.reverse_nil,ayR,apW,ajO,apv,ahi] at h;unfold KJ at h;split at h
  ·rename_i hone;have hjl:j<(gs++[y]).length:=(List.getElem?_eq_some_iff.1 hx).1;simp at hjl;have hi:i<gs.length:=by omega
   have hg':gs[i]? = some g:=by rwa [arG hi] at hg
   by_cases hj:j<gs.length
   ·exact ih h j x (by rwa [arG hj] at hx) i g hij hg'
   have:j=gs.length:=by omega
   subst this;simp at hx;subst hx;exact af0 gs hone i g hg'
  cases h
theorem ape {T0:Nat->AV} {H0:Nat->Option eP} {ent:Nat->TE}:∀(rest:List Oper) (i:Nat) (tr:List TE),(∀j,rest[j]? = all[i+j]?)->(∀j e,tr[j]? = some e->ent (i+j)=e)->tr.length=rest.length->
  ako rest tr (Jt all ent yes i T0)=Jt all ent yes (i+rest.length) T0∧akp rest tr (RG all ent yes i)=RG all ent yes (i+rest.length)∧akq tr (U3 ent yes i H0)=U3 ent yes (i+rest.length) H0:=by
 intro rest;induction rest with
 | nil=>
  intro i tr _ _ hl;have:tr=[]:=ayT (by simpa using hl);subst this;exact ⟨rfl,rfl,rfl⟩
 | cons x rest ih=>
  intro i tr hr he hl;cases tr with
  | nil=>simp at hl
  | cons e tr=>
   have hx:all[i]? = some x:=by simpa using (hr 0).symm
   have he0:ent i=e:=by simpa using he 0 e rfl
   subst he0;have e1:jo (Jt all ent yes i T0) x.dst (ent i).v=Jt all ent yes (i+1) T0:=Rc hx _ yes rfl T0 _ λ _=>rfl;have e2:jo (RG all ent yes i) x.dst (ent i).ex=RG all ent yes (i+1):=Rc hx _ yes rfl _ _ λ _=>rfl;have e3:nH (U3 ent yes i H0) (ent i).ups=U3 ent yes (i+1) H0:=afS yes rfl H0;simp only [ako,akp,akq];rw [e1,e2,e3];have:=ih (i+1) tr (λ j=>by
    have:=hr (j+1);rw [show i+(j+1)=i+1+j by omega] at this;simpa using this) (λ j e' hj=>by
    have:=he (j+1) e' (by simpa using hj);rwa [show i+(j+1)=i+1+j by omega] at this) (by simpa using hl)
   rw [show i+1+rest.length=i+(x::rest).length by simp; omega] at this;exact this
theorem af2 (hc:iL P cfg) {N:Nat} {r:Option Nat} {m id:Nat} {ct:azt} {ops:Array Oper} {draw:Bool} {T:List (Nat×AV)} {H:lD} {nx:Nat} {K:Exit->St->Prop}
  (h:lF cfg (Spec P cfg) ct (Loops P cfg N r m) (.region id ops draw) ⟨T,H,nx⟩ K) (hok:alL N ops.toList draw=true):
  Good P cfg N r m (.region id ops draw) ⟨T,H,nx⟩ K:=by
 intro n0 cx a w I O hS hrd;obtain ⟨ms,hnd,hrm,hds,hms⟩:=hS.marks;have hS1:=hS.rel.also (λ D hD=>(hms D hD).2);simp only [lF] at h;unfold alL at hok;simp only [aei,al4,ahk] at hok;obtain ⟨hok1,hok2⟩:=hok;obtain ⟨tr,s,ad9,q1,q2,q3,q4,q5,q6,q7⟩:=ahX hok1 ops.toList 0 T T H [] [] _ (λ _=>true) (λ j=>by simp) rfl (λ j d hj=>by omega) (λ t=>.inr ⟨rfl,rfl⟩) h;let ent:Nat->TE:=λ k=>tr.getD k ⟨true,.undef,[],[]⟩
 have hent:∀j e,tr[j]? = some e->ent (0+j)=e:=λ j e he=>by show tr.getD (0+j) _=e; simp [he]
 have htr:TrI cfg (Spec P cfg) ops.toList nx (iK T) (hget H) ent:=λ k o hk=>TrI.apd ops.toList 0 tr (λ j=>by simp) hent q1 k o (alh _) hk;obtain ⟨e1,e2,e3⟩:=ape (all:=ops.toList) (T0:=iK T) (H0:=hget H) ops.toList 0 tr (λ j=>by simp) hent q2;simp only [ahi,avM] at e1 e2 e3 q4;have hfin:∀a' w' I' O',K .normal s->Rel cfg (cx.also ms) (U3 ent yes ops.size (hget H)) (λ o=>o<nx+stride*ops.size) w' I' O'->Ca N a.defers (Jt ops.toList ent yes ops.size (iK T)) (RG ops.toList ent yes ops.size) a' w' I' O' (λ o=>o<nx+stride*ops.size)->
   ∃s' I' O',K .normal s'∧jK cfg N m cx s' a' w' I' O':=by
  intro a' w' I' O' hK avz hT'
  obtain ⟨hR',avA⟩:=avz.amo
  have hda:a'.defers=a.defers:=hT'.defers
  refine ⟨s,I',O',hK,hS.m,?_,?_,⟨ms,hnd,hrm,hda.trans hds,λ D hD=>⟨(hms D hD).1,avA D hD⟩⟩⟩
  ·rw [q5,q4]
   show Rel cfg cx (akq tr (U3 ent yes 0 (hget H))) _ w' I' O'
   rw [e3]
   exact hR'
  rw [q4]
  refine ⟨rfl,hT'.size,λ t _=>?_,λ t h=>by cases h⟩
  rcases q6 t with e | ⟨e4,e5⟩
  ·rw [e]; exact .pure (.undef _)
  have e4':akp ops.toList tr (RG ops.toList ent yes 0) t=true:=e4
  have e5':iK s.tmps t=ako ops.toList tr (Jt ops.toList ent yes 0 (iK T)) t:=e5
  rw [e2] at e4'
  rw [e1] at e5'
  rw [e5']
  exact hT'.rep t e4'
 cases draw with
 | false=>
  simp only at q3;exact afV hc htr hok1 hS1 hS.tmps λ a' w' I' O' hR' hT'=>hfin a' w' I' O' q3 hR' hT'
 | true=>
  simp only at q3;split at q3
  ·rename_i Xi;have hdr:WV ops.toList ops.toList 0=true:=by simpa using hok2
   obtain ⟨gs,g1,g2,g3⟩:=ahY tr ad9 [] q7;rw [amL] at g2;have hlen:gs.length=ops.toList.length:=by rw [g1,q2]
   rw [g2,<- hlen] at Xi;have hspec:=amq gs Xi;have hdyn:aqv ops ent:=by
    intro i j hij hj;have hjg:j<gs.length:=by rw [hlen]; simpa using hj
    have hig:i<gs.length:=by omega
    have htj:tr[j]? = some (ent j):=by
     have hlt:j<tr.length:=by omega
     show tr[j]? = some (tr.getD j _);simp [hlt]
    have hti:tr[i]? = some (ent i):=by
     have hlt:i<tr.length:=by omega
     show tr[i]? = some (tr.getD i _);simp [hlt]
    obtain ⟨a1,a2⟩:=g3 j _ _ htj (adH hjg);obtain ⟨b1,b2⟩:=g3 i _ _ hti (adH hig);rcases hspec j _ (adH hjg) i _ hij (adH hig) with ⟨c1,c2,c3⟩ | hb
    ·refine .inr ⟨λ b hw hex hm=>OA c2 b (b2 b hw) (a1 hex b hm),λ b hw hex hm=>OA c1 b (a2 b hw) (b1 hex b hm),λ b hw=>?_⟩;cases hwj:wrH ent j b with
     | false=>rfl
     | true=>exact absurd (a2 b hwj) (OA c3 b (b2 b hw))
    exact .inl hb
   exact afX hc htr hok1 hdr hdyn hS1 hS.tmps λ a' w' I' O' hR' hT'=>hfin a' w' I' O' q3 hR' hT'
  exact q3.elim
variable {r:Option Nat} {m:Nat} {K:Exit->St->Prop}
theorem Good.mono {N:Nat} {c:Code} {s:St} {K':Exit->St->Prop} (h:Good P cfg N r m c s K) (hk:∀e s,K e s->K' e s):Good P cfg N r m c s K':=λ n0 cx a w I O hS hrd=>
 wpIn_mono (h n0 cx a w I O hS hrd) λ e _ _ ⟨s',I',O',h1,h2⟩=>⟨s',I',O',hk e s' h1,h2⟩
theorem sU {N:Nat} {x y:Code} {s:St} (h:Good P cfg N r m x s λ e s'=>match e with | .normal=>Good P cfg N r m y s' K | e=>K e s'):Good P cfg N r m (.seq x y) s K:=by
 intro n0 cx a w I O hS hrd;refine wpIn_seq (wpIn_mono (h n0 cx a w I O hS hrd) ?_);intro e a' w' ⟨s',I',O',h1,h2⟩;cases e with
 | normal=>exact h1 n0 cx a' w' I' O' h2 hrd
 | exit id=>exact ⟨s',I',O',h1,h2⟩
 | goto l=>exact ⟨s',I',O',h1,h2⟩
 | ret=>exact ⟨s',I',O',h1,h2⟩
 | panic ch=>exact ⟨s',I',O',h1,h2⟩
 | outgrown=>exact ⟨s',I',O',h1,h2⟩
theorem ahZ {N:Nat} {id:Nat} {x:Code} {s:St} (h:Good P cfg N r m x s λ e s'=>match e with | .exit i=>(match Nat.beq i id with | true=>K .normal s' | false=>K (.exit i) s') | e=>K e s'):Good P cfg N r m (.block id x) s K:=by
 intro n0 cx a w I O hS hrd;refine wpIn_block (wpIn_mono (h n0 cx a w I O hS hrd) ?_);intro e a' w' ⟨s',I',O',h1,h2⟩;cases e with
 | exit i=>
  simp only [Exit.inBlock];simp only at h1;by_cases hi:i=id
  ·subst hi;have hb:Nat.beq i i=true:=by simp
   rw [hb] at h1;rw [if_pos rfl];exact ⟨s',I',O',h1,h2⟩
  have hb:Nat.beq i id=false:=by
   cases hb:Nat.beq i id with
   | false=>rfl
   | true=>exact absurd (adU hb) hi
  rw [hb] at h1;rw [if_neg hi];exact ⟨s',I',O',h1,h2⟩
 | normal=>exact ⟨s',I',O',h1,h2⟩
 | goto l=>exact ⟨s',I',O',h1,h2⟩
 | ret=>exact ⟨s',I',O',h1,h2⟩
 | panic ch=>exact ⟨s',I',O',h1,h2⟩
 | outgrown=>exact ⟨s',I',O',h1,h2⟩
theorem Xk {N:Nat} {c:Operand} {x y:Code} {s:St} {b:Bool} (hb:ZV cfg (iK s.tmps) c=.bool b) (h1:b=true->Good P cfg N r m x s K) (h2:b=false->Good P cfg N r m y s K):Good P cfg N r m (.cond c x y) s K:=by
 intro n0 cx a w I O hS hrd;have hr:=xA hS.rel hS.tmps c (λ t _=>rfl);rw [hb] at hr;refine wpIn_cond_split hr.mE (λ h=>h1 h n0 cx a w I O hS hrd) (λ h=>h2 h n0 cx a w I O hS hrd)
theorem jA (hc:iL P cfg) {N:Nat} {ct:azt}:∀(c:Code) (s:St) (K:Exit->St->Prop),jk N c=true->lF cfg (Spec P cfg) ct (Loops P cfg N r m) c s K->Good P cfg N r m c s K:=by
 intro c;induction c with
 | skip=>intro s K _ h n0 cx a w I O hS _; exact wpIn_skip ⟨s,I,O,h,hS⟩
 | region id ops draw=>
  intro s K hok h;obtain ⟨T,H,nx⟩:=s;exact af2 hc h hok
 | seq x y ihx ihy=>
  intro s K hok h;simp only [jk,aei] at hok;unfold lF at h;split at h
  ·exact h.ok
  refine sU ((ihx s _ hok.1 h).mono λ e s' h'=>?_);cases e with
  | normal=>exact ihy s' K hok.2 h'
  | _=>exact h'
 | cond c x y ihx ihy=>
  intro s K hok h;simp only [jk,aei] at hok;simp only [lF] at h;split at h
  ·rename_i b hb;refine Xk hb (λ e=>?_) (λ e=>?_)
   ·subst e; exact ihx s K hok.1 h
   subst e; exact ihy s K hok.2 h
  exact h.elim
 | block id x ih=>
  intro s K hok h;exact ahZ (ih s _ hok h)
 | loop x ih=>intro s K hok h; exact h.ok
 | rangeFunc g ps x y ihx ihy=>intro s K hok h; exact h.ok
 | exit id=>intro s K _ h n0 cx a w I O hS _; exact wpIn_exit ⟨s,I,O,h,hS⟩
 | ret=>intro s K _ h n0 cx a w I O hS _; exact wpIn_ret ⟨s,I,O,h,hS⟩
 | _=>intro s K hok h; cases hok
end
end Go.Ab

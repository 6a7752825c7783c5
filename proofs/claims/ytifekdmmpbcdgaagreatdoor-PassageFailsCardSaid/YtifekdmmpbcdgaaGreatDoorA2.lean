/- An abstract machine over the model's code, that it is sound; models of the functions and their proofs. -/
import Derived.Test.YtifekdmmpbcdgaaGreatDoorA1
import Derived.Test.YtifekdmmpbcdgaaGreatDoorA0
import Derived.MapKept
import Derived.OrdersIn
import Derived.Sort.LoopGhostIn
set_option linter.unusedVariables false
set_option linter.unusedSimpArgs false
namespace Go.Ab
section
variable {P:Program} {cfg:uT} {cx:Ctx} {H:Nat→Option dP} {D:Nat→Prop} {w:World} {I:Nat→Prop} {O:OM}
variable {dN:Nat} {o:Oper} {a:Act} {ρ:Operand→AV} {v:AV} {ups:jW} {r:List Nat}
theorem abZ {f:FuncId} {vals:Array Value} {next:Act→World→Prop} {Q:Exit→Act→World→Prop} (h:(execOp a.eval o).run P w=.ok (.enter f vals) w)
  (hc:Calls P f vals w λ e w'=>∃x,e=.returned x∧next (a.put o.dst x) w'):o.wp P a w next Q:=by
 unfold Oper.wp;rw [h];exact hc.mono λ e w' ⟨x,he,hn⟩=>by subst he; exact hn
variable {u:AV} {x:Value}
theorem Tt {w':World} {I':Nat→Prop} (h:dZ w I O D u x) (hm:VI u=true):ig w' I' u x:=by
 cases u<;>first | cases hm | skip
 ·rw [h.kL]; exact .bool _
 ·rw [h.iD]; exact .int _ _
 ·rw [h.zT]; exact .str _
variable {l:List AV}
theorem ad8 (h:ZV l=true):∀j,j<l.length→VI (nth l j)=true:=by
 induction l with
 | nil=>intro j hj; cases hj
 | cons u l ih=>
  intro j hj;unfold ZV at h;cases hv:VI u with
  | false=>simp [hv] at h
  | true=>
   simp only [hv] at h;cases j with
   | zero=>exact hv
   | succ j=>exact ih h j (by simpa using hj)
theorem Tv {w':World} {I':Nat→Prop} (h:dZ w I O D u x) (hm:VJ u=true):ig w' I' u x:=by
 cases u with
 | agg cs=>
  obtain ⟨vs,rfl,hl,hr⟩:=h.qB;exact .agg hl λ j hj=>Tt (hr j hj) (ad8 hm j hj)
 | _=>exact Tt h hm
theorem ad9 (h:ZW l=true):∀j,j<l.length→VJ (nth l j)=true:=by
 induction l with
 | nil=>intro j hj; cases hj
 | cons u l ih=>
  intro j hj;unfold ZW at h;cases hv:VJ u with
  | false=>simp [hv] at h
  | true=>
   simp only [hv] at h;cases j with
   | zero=>exact hv
   | succ j=>exact ih h j (by simpa using hj)
theorem aea {w':World} {I':Nat→Prop} (h:dZ w I O D u x) (hm:ahL u=true):ig w' I' u x:=by
 cases u with
 | jM cs=>
  obtain ⟨vs,rfl,hl,hr⟩:=h.Gt;exact .jM hl λ j hj=>Tv (hr j hj) (ad9 hm j hj)
 | _=>exact Tv h hm
theorem aip:∀(l:List dP) (j:Nat),j<l.length→∃x,hof l j=some x:=by
 intro l;induction l with
 | nil=>intro j hj; cases hj
 | cons x l ih=>intro j hj; cases j with
  | zero=>exact ⟨x,rfl⟩
  | succ j=>exact ih j (by simpa using hj)
theorem Px:∀(l:List dP) (j:Nat),l.length≤j→hof l j=none:=by
 intro l;induction l with
 | nil=>intro j _; rfl
 | cons x l ih=>intro j hj; cases j with
  | zero=>simp at hj
  | succ j=>exact ih j (by simpa using hj)
theorem J6 {α:Type}:∀(l m:List (Nat×α)) (k:Nat),look (l++m) k=match look l k with | some x=>some x | none=>look m k:=by
 intro l;induction l with
 | nil=>intro m k; rfl
 | cons p l ih=>
  intro m k;obtain ⟨q,x⟩:=p;simp only [List.cons_append,look];cases Nat.beq q k<;>simp [ih]
theorem aad:∀(l:List Nat) (obs:List dP) (j:Nat) (x:dP),nJ l=true→j<l.length→hof obs j=some x→look (AX l obs) (gT l j)=some (gz x):=by
 intro l;induction l with
 | nil=>intro obs j x _ hj; cases hj
 | cons y l ih=>
  intro obs j x hnd hj hx;cases obs with
  | nil=>cases hx
  | cons ob obs=>
   have hnd':nJ l=true∧y ∉ l:=by
    unfold nJ at hnd;cases hm:zS y l with
    | true=>simp [hm] at hnd
    | false=>simp only [hm] at hnd; exact ⟨hnd,wQ hm⟩
   cases j with
   | zero=>simp [hof] at hx; subst hx; simp [AX,look,gT]
   | succ j=>
    simp only [AX,look,gT];have hne:Nat.beq y (gT l j)=false:=by
     cases hb:Nat.beq y (gT l j) with
     | false=>rfl
     | true=>exact absurd (Nat.eq_of_beq_eq_true hb ▸ pU l j (by simpa using hj)) hnd'.2
    rw [hne];exact ih obs j x hnd'.1 (by simpa using hj) hx
theorem Yl:∀(l:List Nat) (obs:List dP) (k:Nat),(∀j,j<l.length→j<obs.length→gT l j≠k)→look (AX l obs) k=none:=by
 intro l;induction l with
 | nil=>intro obs k _; cases obs<;>rfl
 | cons y l ih=>
  intro obs k h;cases obs with
  | nil=>rfl
  | cons ob obs=>
   simp only [AX,look];have hne:Nat.beq y k=false:=by
    cases hb:Nat.beq y k with
    | false=>rfl
    | true=>exact absurd (Nat.eq_of_beq_eq_true hb) (h 0 (by simp) (by simp))
   rw [hne];exact ih obs k (λ j h1 h2=>h (j+1) (by simp; omega) (by simp; omega))
theorem aeb:∀(n i:Nat),(j5 n i).length=n:=by
 intro n;induction n with
 | zero=>intro i; rfl
 | succ n ih=>intro i; simp [j5,ih]
theorem aec:∀(n i j:Nat),j<n→gT (j5 n i) j=i+j:=by
 intro n;induction n with
 | zero=>intro i j h; omega
 | succ n ih=>
  intro i j h;cases j with
  | zero=>rfl
  | succ j=>
   show gT (j5 n (i+1)) j=_;rw [ih (i+1) j om];omega
theorem aed (l m:List Nat) (j:Nat) (h:j<l.length):gT (l++m) j=gT l j:=by
 induction l generalizing j with
 | nil=>cases h
 | cons x l ih=>cases j with
  | zero=>rfl
  | succ j=>exact ih j (by simpa using h)
theorem aee (l m:List Nat) (j:Nat) (h:l.length≤j):gT (l++m) j=gT m (j - l.length):=by
 induction l generalizing j with
 | nil=>rfl
 | cons x l ih=>cases j with
  | zero=>simp at h
  | succ j=>
   show gT (l++m) j=_
   rw [ih j (by simpa using h)]
   simp
theorem Ym:∀(l:List Nat),(∀i j,i<l.length→j<l.length→gT l i=gT l j→i=j)→nJ l=true:=by
 intro l;induction l with
 | nil=>intro _; rfl
 | cons x l ih=>
  intro h;unfold nJ;have hm:zS x l=false:=by
   cases hb:zS x l with
   | false=>rfl
   | true=>
    have key:∀m:List Nat,zS x m=true→∃j,j<m.length∧gT m j=x:=by
     intro m;induction m with
     | nil=>intro h; cases h
     | cons y m ihm=>
      intro h;unfold zS at h;cases hxy:Nat.beq x y with
      | true=>exact ⟨0,by simp,(Nat.eq_of_beq_eq_true hxy).symm⟩
      | false=>
       rw [hxy] at h;obtain ⟨j,h1,h2⟩:=ihm h;exact ⟨j+1,by simpa using h1,h2⟩
    obtain ⟨j,h1,h2⟩:=key l hb;have:=h 0 (j+1) (by simp) (by simpa using h1) h2.symm;omega
  rw [hm];refine ih λ i j hi hj e=>?_;have:=h (i+1) (j+1) (by simpa using hi) (by simpa using hj) e;omega
theorem Py (sg:List Nat) (l:List AV):(agk sg l).length=l.length:=by
 induction l with
 | nil=>rfl
 | cons v l ih=>simp [agk,ih]
theorem ab0 (sg:List Nat):∀(l:List AV) (j:Nat),nth (agk sg l) j=Gn sg (nth l j):=by
 intro l;induction l with
 | nil=>intro j; rfl
 | cons v l ih=>intro j; cases j with
  | zero=>rfl
  | succ j=>exact ih j
theorem Y8 (sg:List Nat) (l:List AV):(abG sg l).length=l.length:=by
 induction l with
 | nil=>rfl
 | cons v l ih=>simp [abG,ih]
theorem agx (sg:List Nat):∀(l:List AV) (j:Nat),nth (abG sg l) j=Gp sg (nth l j):=by
 intro l;induction l with
 | nil=>intro j; rfl
 | cons v l ih=>intro j; cases j with
  | zero=>rfl
  | succ j=>exact ih j
theorem agy (sg:List Nat):∀(l:List dP) (j:Nat),hof (VN sg l) j=(hof l j).map (Ye sg):=by
 intro l;induction l with
 | nil=>intro j; rfl
 | cons v l ih=>intro j; cases j with
  | zero=>rfl
  | succ j=>exact ih j
theorem ab1 (h:ahO l=true):∀j,j<l.length→ahN (nth l j)=true:=by
 induction l with
 | nil=>intro j hj; cases hj
 | cons v l ih=>
  intro j hj;unfold ahO at h;cases hv:ahN v with
  | false=>simp [hv] at h
  | true=>
   simp only [hv] at h;cases j with
   | zero=>exact hv
   | succ j=>exact ih h j (by simpa using hj)
theorem agz (h:afd l=true):∀j,j<l.length→ahP (nth l j)=true:=by
 induction l with
 | nil=>intro j hj; cases hj
 | cons v l ih=>
  intro j hj;unfold afd at h;cases hv:ahP v with
  | false=>simp [hv] at h
  | true=>
   simp only [hv] at h;cases j with
   | zero=>exact hv
   | succ j=>exact ih h j (by simpa using hj)
theorem agA:∀(l:List Nat) (x k:Nat),tq l x k=none→x ∉ l:=by
 intro l;induction l with
 | nil=>intro x k _ h; cases h
 | cons y l ih=>
  intro x k h hm;unfold tq at h;cases hb:Nat.beq y x with
  | true=>simp [hb] at h
  | false=>
   simp only [hb] at h;rcases List.mem_cons.1 hm with e | e
   ·subst e; simp at hb
   ·exact ih x (k+1) h e
theorem alb:∀(l:List dP) (j:Nat) (x:dP),hof l j=some x→D5 l j=gz x:=by
 intro l;induction l with
 | nil=>intro j x h; cases h
 | cons y l ih=>
  intro j x h;cases j with
  | zero=>cases h; rfl
  | succ j=>exact ih j x h
theorem agB {l:List dP} (h:afe l=true):∀j x,hof l j=some x→akQ x=true:=by
 induction l with
 | nil=>intro j x hx; cases hx
 | cons v l ih=>
  intro j x hx;unfold afe at h;cases hv:akQ v with
  | false=>simp [hv] at h
  | true=>
   simp only [hv] at h;cases j with
   | zero=>cases hx; exact hv
   | succ j=>exact ih h j x hx
theorem ab2 (sg:List Nat):∀(l:List AV),(Ab.ahM sg l).length=l.length:=by
 intro l;induction l with
 | nil=>rfl
 | cons v l ih=>simp [Ab.ahM,ih]
theorem aiq (sg:List Nat):∀(l:List AV) (j:Nat),nth (Ab.ahM sg l) j=Ab.abF sg (nth l j):=by
 intro l;induction l with
 | nil=>intro j; rfl
 | cons v l ih=>intro j; cases j with
  | zero=>rfl
  | succ j=>exact ih j
theorem alc (h:okA l=true):∀j,j<l.length→akP (nth l j)=true:=by
 induction l with
 | nil=>intro j hj; cases hj
 | cons v l ih=>
  unfold okA at h;cases hv:akP v with
  | false=>rw [hv] at h; cases h
  | true=>
   rw [hv] at h;intro j hj;cases j with
   | zero=>exact hv
   | succ j=>exact ih h j (by simpa using hj)
section back
variable {w':World} {I':Nat→Prop} {O' On:OM} {n:Nat} {D2:Nat→Prop} {full:List Nat}
theorem dZ.abF (hlive:∀j,j<n→D2 (gT full j)) (jv:∀j p,O' j=some p→j<n) (hon:∀j,j<n→On (gT full j)=O' j) (hu:akP u=true) (h:dZ w' I' O' (λ k=>k<n) u x):dZ w' I' On D2 (Ab.abF full u) x:=by
 cases u with
 | ptr j i off=>
  cases hj:O' j with
  | none=>
   have hlt:j<n:=by
    cases h with
    | pure h=>cases h
    | ptr ho=>rw [hj] at ho; cases ho
    | xZ _ hd=>exact hd
   have h1:x.oneCell'=true:=by
    cases h with
    | pure h=>cases h
    | ptr ho=>rw [hj] at ho; cases ho
    | xZ _ _ h1=>exact h1
   exact .xZ (by rw [hon j hlt]; exact hj) (hlive j hlt) h1
  | some p=>
   obtain ⟨b,bo,sz,q1,q2,rfl⟩:=h.nM hj;exact .ptr (by rw [hon j (jv j p hj)]; exact hj) q1 q2
 | dF j i m f=>
  cases hj:O' j with
  | none=>
   have hlt:j<n:=by
    cases h with
    | pure h=>cases h
    | dF ho=>rw [hj] at ho; cases ho
    | uU _ hd=>exact hd
   have h1:x.oneCell'=true:=by
    cases h with
    | pure h=>cases h
    | dF ho=>rw [hj] at ho; cases ho
    | uU _ _ h1=>exact h1
   exact .uU (by rw [hon j hlt]; exact hj) (hlive j hlt) h1
  | some p=>
   obtain ⟨aa,cap,rfl,q1,q2,q3,q4⟩:=h.lD hj;exact .dF (by rw [hon j (jv j p hj)]; exact hj) q1 q2 q3 q4 (h.CV hj)
 | fn f cs=>cases hu
 | agg cs=>cases hu
 | jM cs=>cases hu
 | mref j=>
  cases hj:O' j with
  | none=>
   have hlt:j<n:=by
    cases h with
    | pure h=>cases h
    | mref ho=>rw [hj] at ho; cases ho
    | xY _ hd=>exact hd
   have h1:x.oneCell'=true:=by
    cases h with
    | pure h=>cases h
    | mref ho=>rw [hj] at ho; cases ho
    | xY _ _ h1=>exact h1
   exact .xY (by rw [hon j hlt]; exact hj) (hlive j hlt) h1
  | some p=>
   obtain ⟨b,bo,sz,q1,rfl⟩:=h.uW hj;exact .mref (by rw [hon j (jv j p hj)]; exact hj) q1
 | _=>exact .pure (h.yg rfl)
theorem dZ.Gn (hlive:∀j,j<n→D2 (gT full j)) (jv:∀j p,O' j=some p→j<n) (hon:∀j,j<n→On (gT full j)=O' j) (hu:ahN u=true) (h:dZ w' I' O' (λ k=>k<n) u x):dZ w' I' On D2 (Ab.Gn full u) x:=by
 cases u with
 | ptr j i off=>
  cases hj:O' j with
  | none=>
   have hlt:j<n:=by
    cases h with
    | pure h=>cases h
    | ptr ho=>rw [hj] at ho; cases ho
    | xZ _ hd=>exact hd
   have h1:x.oneCell'=true:=by
    cases h with
    | pure h=>cases h
    | ptr ho=>rw [hj] at ho; cases ho
    | xZ _ _ h1=>exact h1
   exact .xZ (by rw [hon j hlt]; exact hj) (hlive j hlt) h1
  | some p=>
   obtain ⟨b,bo,sz,q1,q2,rfl⟩:=h.nM hj;exact .ptr (by rw [hon j (jv j p hj)]; exact hj) q1 q2
 | dF j i m f=>
  cases hj:O' j with
  | none=>
   have hlt:j<n:=by
    cases h with
    | pure h=>cases h
    | dF ho=>rw [hj] at ho; cases ho
    | uU _ hd=>exact hd
   have h1:x.oneCell'=true:=by
    cases h with
    | pure h=>cases h
    | dF ho=>rw [hj] at ho; cases ho
    | uU _ _ h1=>exact h1
   exact .uU (by rw [hon j hlt]; exact hj) (hlive j hlt) h1
  | some p=>
   obtain ⟨aa,cap,rfl,q1,q2,q3,q4⟩:=h.lD hj;exact .dF (by rw [hon j (jv j p hj)]; exact hj) q1 q2 q3 q4 (h.CV hj)
 | fn f cs=>
  obtain ⟨xs,rfl,hl,hr⟩:=h.JX;refine .fn (by rw [ab2]; exact hl) λ j hj=>?_;rw [ab2] at hj;rw [aiq];exact (hr j hj).abF hlive jv hon (alc hu j hj)
 | agg cs=>cases hu
 | jM cs=>cases hu
 | mref j=>
  cases hj:O' j with
  | none=>
   have hlt:j<n:=by
    cases h with
    | pure h=>cases h
    | mref ho=>rw [hj] at ho; cases ho
    | xY _ hd=>exact hd
   have h1:x.oneCell'=true:=by
    cases h with
    | pure h=>cases h
    | mref ho=>rw [hj] at ho; cases ho
    | xY _ _ h1=>exact h1
   exact .xY (by rw [hon j hlt]; exact hj) (hlive j hlt) h1
  | some p=>
   obtain ⟨b,bo,sz,q1,rfl⟩:=h.uW hj;exact .mref (by rw [hon j (jv j p hj)]; exact hj) q1
 | _=>exact .pure (h.yg rfl)
theorem dZ.Gp (hlive:∀j,j<n→D2 (gT full j)) (jv:∀j p,O' j=some p→j<n) (hon:∀j,j<n→On (gT full j)=O' j) (hu:ahP u=true) (h:dZ w' I' O' (λ k=>k<n) u x):dZ w' I' On D2 (Ab.Gp full u) x:=by
 cases u with
 | agg cs=>
  obtain ⟨xs,rfl,hl,hr⟩:=h.qB;refine .agg (by rw [Py]; exact hl) λ j hj=>?_;rw [Py] at hj;rw [ab0];exact (hr j hj).Gn hlive jv hon (ab1 hu j hj)
 | jM cs=>cases hu
 | undef=>exact dZ.Gn (u:=.undef) hlive jv hon hu h
 | bool b=>exact dZ.Gn (u:=.bool b) hlive jv hon hu h
 | int k n'=>exact dZ.Gn (u:=.int k n') hlive jv hon hu h
 | str s=>exact dZ.Gn (u:=.str s) hlive jv hon hu h
 | sl es m f g=>exact dZ.Gn (u:=.sl es m f g) hlive jv hon hu h
 | ro cs=>exact dZ.Gn (u:=.ro cs) hlive jv hon hu h
 | ptr o' i off=>exact dZ.Gn (u:=.ptr o' i off) hlive jv hon hu h
 | dF o' i m f=>exact dZ.Gn (u:=.dF o' i m f) hlive jv hon hu h
 | fn f cs=>exact dZ.Gn (u:=.fn f cs) hlive jv hon hu h
 | Ct=>exact dZ.Gn (u:=.Ct) hlive jv hon hu h
 | mref o=>exact dZ.Gn (u:=.mref o) hlive jv hon hu h
 | pm a b c=>exact dZ.Gn (u:=.pm a b c) hlive jv hon hu h
theorem dZ.akO (hlive:∀j,j<n→D2 (gT full j)) (jv:∀j p,O' j=some p→j<n) (hon:∀j,j<n→On (gT full j)=O' j) (hu:apq u=true) (h:dZ w' I' O' (λ k=>k<n) u x):dZ w' I' On D2 (Ab.akO full u) x:=by
 cases u with
 | jM cs=>
  obtain ⟨xs,rfl,hl,hr⟩:=h.Gt;refine .jM (by rw [Y8]; exact hl) λ j hj=>?_;rw [Y8] at hj;rw [agx];exact (hr j hj).Gp hlive jv hon (agz hu j hj)
 | agg cs=>exact dZ.Gp (u:=.agg cs) hlive jv hon hu h
 | undef=>exact dZ.Gp (u:=.undef) hlive jv hon hu h
 | bool b=>exact dZ.Gp (u:=.bool b) hlive jv hon hu h
 | int k n'=>exact dZ.Gp (u:=.int k n') hlive jv hon hu h
 | str s=>exact dZ.Gp (u:=.str s) hlive jv hon hu h
 | sl es m f g=>exact dZ.Gp (u:=.sl es m f g) hlive jv hon hu h
 | ro cs=>exact dZ.Gp (u:=.ro cs) hlive jv hon hu h
 | ptr o' i off=>exact dZ.Gp (u:=.ptr o' i off) hlive jv hon hu h
 | dF o' i m f=>exact dZ.Gp (u:=.dF o' i m f) hlive jv hon hu h
 | fn f cs=>exact dZ.Gp (u:=.fn f cs) hlive jv hon hu h
 | Ct=>exact dZ.Gp (u:=.Ct) hlive jv hon hu h
 | mref o=>exact dZ.Gp (u:=.mref o) hlive jv hon hu h
 | pm a b c=>exact dZ.Gp (u:=.pm a b c) hlive jv hon hu h
theorem iK.Ye (hlive:∀j,j<n→D2 (gT full j)) (jv:∀j p,O' j=some p→j<n) (hon:∀j,j<n→On (gT full j)=O' j) {ob:dP} {p:Own} (hu:akQ ob=true) (hg:VK ob=false) (h:iK w' I' O' (λ k=>k<n) p ob):iK w' I' On D2 p (Ab.Ye full ob):=by
 cases ob with
 | box cs=>
  obtain ⟨q1,b,bo,sz,q2,q3,q4,q5⟩:=h;refine ⟨q1,b,bo,sz,q2,q3,by rw [Py]; exact q4,λ j hj=>?_⟩;rw [Py] at hj;rw [ab0];exact (q5 j hj).Gn hlive jv hon (ab1 hu j hj)
 | row es m g=>exact h
 | map kd z f=>exact h
theorem ald (full:List Nat) (x:dP):gz (Ye full x)=(gz x).map (Ye full):=by
 cases x with
 | box=>rfl
 | row=>rfl
 | map kd z f=>
  simp only [Ye,gz];cases VK (.map kd z f)<;>rfl
end back
set_option maxHeartbeats 1000000 in
theorem ab3 (hR:Rel cfg cx H D w I O) (hn:VY D dN) {f:FuncId} {args:List AV} {vals:Array Value} {sg0:List Nat} (hrun:∀fn,P.funcs[f]? = some fn→fn.body.isNone=false→(fn.name == "runtime.NumGoroutine")=false→(execOp a.eval o).run P w=.ok (.enter f vals) w)
  (hvl:vals.size=args.length) (hva:∀j,j<args.length→dZ w I O D (nth args j) (vals.getD j Go.undef)) (h:fD (Spec P cfg) H (Vp dN f args sg0) v ups r):fC P cfg cx H D w I O dN o a v ups:=by
 unfold Vp at h;obtain ⟨sg,r0,h0⟩:=aac _ _ _ _ _ h;obtain ⟨hnd,h1⟩:=h0.bP;obtain ⟨obs,r1,h2,hol,Yk⟩:=abW _ _ _ h1;have hlive:∀j,j<sg.length→∃x,H (gT sg j)=some x:=λ j hj=>let ⟨x,_,hx⟩:=Yk j hj; ⟨x,hx⟩
 obtain ⟨agl,h3,arF,hinv⟩:=abY hR hlive obs _ _ h2;obtain ⟨args',ids,r2,h4,hal,air⟩:=J5 hR hlive args _ _ h3;obtain ⟨hdj,h5⟩:=h4.bP;cases h5 with
 | @call _ _ _ _ res fE _ _ _ hspec h6=>
 obtain ⟨arG,h7⟩:=h6.bP;obtain ⟨hlen',h8⟩:=h7.bP;obtain ⟨hpr,h9⟩:=h8.bP;obtain ⟨rfl,rfl⟩:=h9.jY;have hlen':fE.length≤sg.length+stride:=Nat.le_of_ble_eq_true hlen';clear h h0 h1 h2 h3 h4 h6 h7 h8 h9;obtain ⟨⟨fn,hf1,hf2,hf3⟩,hle,hcall⟩:=hspec;have apI:agl.length=sg.length:=arF.trans hol;have hRs:=hR.sub (ids:=ids) (obs:=agl) hnd hdj apI (λ j hj=>by
  obtain ⟨x,q1,q2⟩:=Yk j hj;obtain ⟨y,q3,q4⟩:=hinv j x q1;exact ⟨x,y,q3,q2,q4 _ (λ _ h=>.inl h)⟩)
 have apJ:∀j,j<sg.length→D (gT sg j):=λ j hj=>by
  obtain ⟨x,hx⟩:=hlive j hj;obtain ⟨p,hp,_⟩:=hR.live hx;exact hR.used _ p hp
 generalize hnw:fE.length - sg.length=nw;have arH:sg.length+nw=fE.length:=by omega
 have awd:nw≤stride:=by omega
 have anr:∀k,dN≤k→k<dN+nw→k ∉ sg:=λ k hk1 hk2 hm=>by
  obtain ⟨j,h1,h2⟩:=Wm sg k hm;exact hn k hk1 om (h2 ▸ apJ j h1)
 have awe:∀k,dN≤k→k<dN+nw→O k=none:=λ k hk1 hk2=>by
  cases h:O k with
  | none=>rfl
  | some p=>exact absurd (hR.used k p h) (hn k hk1 om)
 have hfl:(sg++j5 nw dN).length=fE.length:=by rw [List.length_append,aeb]; exact arH
 have ab4:∀j,j<sg.length→gT (sg++j5 nw dN) j=gT sg j:=λ j hj=>aed _ _ _ hj;have ab5:∀j,sg.length≤j→j<fE.length→gT (sg++j5 nw dN) j=dN+(j - sg.length):=λ j h1 h2=>by
  rw [aee _ _ _ h1,aec _ _ _ om]
 have arI:nJ (sg++j5 nw dN)=true:=Ym _ λ i j hi hj e=>by
  rw [hfl] at hi hj;by_cases h1:i<sg.length
  ·by_cases h2:j<sg.length
   ·rw [ab4 i h1,ab4 j h2] at e;exact Gw sg hnd i j h1 h2 e
   ·rw [ab4 i h1,ab5 j om hj] at e;exact absurd (pU sg i h1) (by rw [e]; exact anr _ om om)
  ·by_cases h2:j<sg.length
   ·rw [ab5 i om hi,ab4 j h2] at e;exact absurd (pU sg j h2) (by rw [← e]; exact anr _ om om)
   ·rw [ab5 i om hi,ab5 j om hj] at e;omega
 intro next Q hnx
 refine abZ (hrun fn hf1 hf2 hf3) ((hcall w _ _ vals hRs om (λ j hj=>by rw [apI]; exact air j om _ (hva j om))).mono ?_);rintro e w' ⟨x,I',O',rfl,hR',hres⟩;refine ⟨x,rfl,?_⟩;let On:OM:=λ k=>if dN≤k∧k<dN+nw then O' (sg.length+(k - dN)) else match tq sg k 0 with
  | some j=>O' j
  | none=>if k∈ids then none else O k
 have hMc:∀b,(Jz w (λ b=>I b∨Cr O ids b) (og O sg) agl.length).M b→∃j p bo sz,j<sg.length∧O (gT sg j)=some p∧p.pl=some (b,bo,sz):=by
  rintro b ⟨j,p,bo,sz,h1,h2⟩;unfold og at h1;split at h1
  ·exact ⟨j,p,bo,sz,by assumption,h1,h2⟩
  ·cases h1
 have ant:∀j,j<sg.length→O' j=O (gT sg j)∨O' j=none:=λ j hj=>by
  rcases hR'.Vt j (show j<agl.length by omega) with h | h
  ·left;rw [h];show og O sg j=_;unfold og;rw [if_pos hj]
  ·exact .inr h
 have hidx:∀k,k∈sg→∃j,tq sg k 0=some j∧j<sg.length∧gT sg j=k:=λ k hk=>by
  cases h:tq sg k 0 with
  | none=>exact absurd hk (agA sg k 0 h)
  | some j=>
   obtain ⟨_,h1,h2⟩:=EL sg k 0 j h;exact ⟨j,rfl,by simpa using h1,by simpa using h2⟩
 have ais:∀k,k ∉ sg→tq sg k 0=none:=λ k hk=>by
  cases h:tq sg k 0 with
  | none=>rfl
  | some j=>
   obtain ⟨_,h1,h2⟩:=EL sg k 0 j h;exact absurd (h2 ▸ pU sg _ h1) hk
 have ab6:∀j,j<sg.length→On (gT sg j)=O' j:=λ j hj=>by
  have h1:¬ (dN≤gT sg j∧gT sg j<dN+nw):=λ h=>anr _ h.1 h.2 (pU sg j hj);obtain ⟨j2,h2,h3,h4⟩:=hidx _ (pU sg j hj);have:j2=j:=Gw sg hnd j2 j h3 hj h4;subst this;show (if _ then _ else _)=_;rw [if_neg h1,h2]
 have anu:∀k,D k→On k=O k∨On k=none:=λ k hk=>by
  have h1:¬ (dN≤k∧k<dN+nw):=λ h=>hn k h.1 om hk;by_cases hs:k∈sg
  ·obtain ⟨j,_,h3,h4⟩:=hidx k hs;have:=ab6 j h3;rw [h4] at this;rw [this];rcases ant j h3 with h | h
   ·rw [h,h4]; exact .inl rfl
   ·exact .inr h
  ·show (if _ then _ else _)=_∨(if _ then _ else _)=_;rw [if_neg h1,ais k hs];by_cases h2:k∈ids<;>simp [h2]
 have J7:∀ {k p},¬ (dN≤k∧k<dN+nw)→On k=some p→O k=some p∧k ∉ ids:=λ {k p} h1 h=>by
  by_cases hs:k∈sg
  ·obtain ⟨j,_,h3,h4⟩:=hidx k hs;have h5:=ab6 j h3;rw [h4,h] at h5;rcases ant j h3 with h6 | h6
   ·rw [h6,h4] at h5;exact ⟨h5.symm,λ hm=>Ov ids sg hdj _ hm hs⟩
   ·rw [h6] at h5; cases h5
  ·have h':(if dN≤k∧k<dN+nw then O' (sg.length+(k - dN)) else match tq sg k 0 with
    | some j=>O' j
    | none=>if k∈ids then none else O k)=some p:=h
   rw [if_neg h1,ais k hs] at h';simp only at h';by_cases h2:k∈ids
   ·simp [h2] at h'
   ·rw [if_neg h2] at h';exact ⟨h',h2⟩
 have Ow:∀ {k},(dN≤k∧k<dN+nw)→On k=O' (sg.length+(k - dN)):=λ {k} h=>by
  show (if _ then _ else _)=_;rw [if_pos h]
 have hon:∀j,j<fE.length→On (gT (sg++j5 nw dN) j)=O' j:=λ j hj=>by
  by_cases h1:j<sg.length
  ·rw [ab4 j h1,ab6 j h1]
  ·rw [ab5 j om hj,Ow ⟨by omega,by omega⟩];congr 1;omega
 have hD2:∀j,j<fE.length→AY D dN (gT (sg++j5 nw dN) j):=λ j hj=>by
  by_cases h1:j<sg.length
  ·rw [ab4 j h1]; exact .inl (apJ j h1)
  ·rw [ab5 j om hj]; exact .inr ⟨by omega,by omega⟩
 have apK:∀j p,O' j=some p→j<fE.length:=λ j p h=>hR'.used j p h;have anv:∀b,I b→I' b:=λ b h=>hR'.O9 b (.inl h);have hI':∀b,I' b→(I b∨Cr O ids b)∨w.heap.size≤b∨∃j p bo sz,j<sg.length∧O (gT sg j)=some p∧p.pl=some (b,bo,sz):=λ b h=>by
  rcases hR'.Rw b h with h | h | h
  ·exact .inl h
  ·exact .inr (.inl h)
  ·exact .inr (.inr (hMc b h))
 have hfr:∀b,b<w.heap.size→(∀j p bo sz,j<sg.length→O (gT sg j)=some p→p.pl≠some (b,bo,sz))→w'.heap[b]? = w.heap[b]? := λ b hb hno=>
  hR'.frame b hb (λ hm=>by obtain ⟨j,p,bo,sz,h1,h2,h3⟩:=hMc b hm; exact hno j p bo sz h1 h2 h3)
 have apM:∀b,I b→w'.heap[b]? = w.heap[b]? := λ b hb=>hfr b (hR.yT b hb) (λ j p bo sz h1 h2 h3=>hR.nL _ p b bo sz h2 h3 hb);have anw:∀k p b bo sz,O k=some p→p.pl=some (b,bo,sz)→k ∉ sg→w'.heap[b]? = w.heap[b]? := λ k p b bo sz h1 h2 h3=>
  hfr b (hR.lt k p b bo sz h1 h2) (λ j p' ni sz' q1 q2 q3=>hR.inj k (gT sg j) p p' b bo sz b ni sz' h1 q2 h2 q3 (λ e=>h3 (e ▸ pU sg j q1)) rfl)
 have apN:∀j p b bo sz,sg.length≤j→O' j=some p→p.pl=some (b,bo,sz)→w.heap.size≤b∨∃j' p' ni sz',j'<sg.length∧O' j'=none∧O (gT sg j')=some p'∧p'.pl=some (b,ni,sz'):=λ j p b bo sz h1 h2 h3=>by
  rcases hR'.new _ p b bo sz h2 h3 with h | h
  ·exact .inl h
  ·obtain ⟨j',p',ni,sz',q1,q2,q3⟩:=hMc b h;rcases ant j' q1 with e | e
   ·exact absurd rfl (hR'.inj _ j' p p' b bo sz b ni sz' h2 (by rw [e]; exact q2) h3 q3 om)
   ·exact .inr ⟨j',p',ni,sz',q1,e,q2,q3⟩
 have hsep:∀j p b bo sz k p' b' ni sz',sg.length≤j→O' j=some p→p.pl=some (b,bo,sz)→¬ (dN≤k∧k<dN+nw)→On k=some p'→p'.pl=some (b',ni,sz')→b≠b':=λ j p b bo sz k p' b' ni sz' h1 h2 h3 h4 h5 h6 e=>by
  subst e;obtain ⟨q1,q2⟩:=J7 h4 h5;rcases apN j p b bo sz h1 h2 h3 with h | ⟨j',p2,bo2,sz2,e1,e2,e3,e4⟩
  ·have:=hR.lt k p' b ni sz' q1 h6;omega
  ·by_cases hk:k=gT sg j'
   ·rw [hk,ab6 j' e1,e2] at h5; cases h5
   ·exact hR.inj k (gT sg j') p' p2 b ni sz' b bo2 sz2 q1 e3 h6 e4 hk rfl
 have apO:∀j,j<fE.length→lI H (AX (sg++j5 nw dN) (VN (sg++j5 nw dN) fE)++dead ids) (gT (sg++j5 nw dN) j)=(D5 fE j).map (Ye (sg++j5 nw dN)):=λ j hj=>by
  obtain ⟨x,hx⟩:=aip fE j hj;unfold lI;rw [J6,aad _ _ j (Ye (sg++j5 nw dN) x) arI (by rw [hfl]; exact hj) (by rw [agy,hx]; rfl)];simp only;rw [ald,alb fE j x hx]
 have ait:∀k,k ∉ sg→¬ (dN≤k∧k<dN+nw)→lI H (AX (sg++j5 nw dN) (VN (sg++j5 nw dN) fE)++dead ids) k=if k∈ids then none else H k:=λ k h1 h2=>by
  have hmiss:look (AX (sg++j5 nw dN) (VN (sg++j5 nw dN) fE)) k=none:=Yl _ _ _ (λ j q1 q2 e=>by
   rw [hfl] at q1;by_cases hj:j<sg.length
   ·rw [ab4 j hj] at e;exact h1 (e ▸ pU sg j hj)
   ·rw [ab5 j om q1] at e;exact h2 ⟨by omega,by omega⟩)
  unfold lI;rw [J6,hmiss,Y5];by_cases h3:k∈ids<;>simp [h3]
 have aiu:∀k,k∈sg∨(dN≤k∧k<dN+nw)→∃j,j<fE.length∧gT (sg++j5 nw dN) j=k:=λ k h=>by
  rcases h with h | h
  ·obtain ⟨j,h1,h2⟩:=Wm sg k h;exact ⟨j,by omega,by rw [ab4 j h1]; exact h2⟩
  ·exact ⟨sg.length+(k - dN),by omega,by rw [ab5 _ om om]; omega⟩
 have hRn:Rel cfg cx (lI H (AX (sg++j5 nw dN) (VN (sg++j5 nw dN) fE)++dead ids)) (AY D dN) w' I' On:={
  dom:=λ k=>by
   by_cases hk:k∈sg∨(dN≤k∧k<dN+nw)
   ·obtain ⟨j,h1,rfl⟩:=aiu k hk
    rw [apO j h1,hon j h1,hR'.dom j]
    cases D5 fE j<;>simp
   ·have h1:k ∉ sg:=λ h=>hk (.inl h)
    have h2:¬ (dN≤k∧k<dN+nw):=λ h=>hk (.inr h)
    rw [ait k h1 h2]
    have:On k=if k∈ids then none else O k:=by show (if _ then _ else _)=_; rw [if_neg h2,ais k h1]
    rw [this]
    by_cases h3:k∈ids<;>simp [h3,hR.dom k]
  used:=λ k p h=>by
   by_cases hk:dN≤k∧k<dN+nw
   ·exact .inr ⟨hk.1,by omega⟩
   ·exact .inl (hR.used k p (J7 hk h).1)
  objs:=λ k ob p h h'=>by
   by_cases hk:k∈sg∨(dN≤k∧k<dN+nw)
   ·obtain ⟨j,h1,rfl⟩:=aiu k hk
    rw [apO j h1] at h
    cases hx:D5 fE j with
    | none=>rw [hx] at h; cases h
    | some x=>
     rw [hx] at h
     cases h
     rw [hon j h1] at h'
     obtain ⟨hx1,hx2⟩:=agn hx
     exact (hR'.objs j x p hx h').Ye hD2 apK hon (agB arG j x hx1) hx2
   ·have h1:k ∉ sg:=λ h=>hk (.inl h)
    have h2:¬ (dN≤k∧k<dN+nw):=λ h=>hk (.inr h)
    obtain ⟨q1,q2⟩:=J7 h2 h'
    rw [ait k h1 h2,if_neg q2] at h
    exact (hR.objs k ob p h q1).mono anv apM anu (λ _ h=>.inl h) hR.used (λ b bo sz hpl=>anw k p b bo sz q1 hpl h1)
  inj:=λ k k' p p' b bo sz b' ni sz' h1 h2 h3 h4 h5=>by
   by_cases hk:dN≤k∧k<dN+nw
   ·rw [Ow hk] at h1
    by_cases hk':dN≤k'∧k'<dN+nw
    ·rw [Ow hk'] at h2
     exact hR'.inj _ _ p p' b bo sz b' ni sz' h1 h2 h3 h4 om
    ·exact hsep _ p b bo sz k' p' b' ni sz' om h1 h3 hk' h2 h4
   ·by_cases hk':dN≤k'∧k'<dN+nw
    ·rw [Ow hk'] at h2
     exact (hsep _ p' b' ni sz' k p b bo sz om h2 h4 hk h1 h3).symm
    ·exact hR.inj k k' p p' b bo sz b' ni sz' (J7 hk h1).1 (J7 hk' h2).1 h3 h4 h5
  nL:=λ k p b bo sz h1 h2 h3=>by
   by_cases hk:dN≤k∧k<dN+nw
   ·rw [Ow hk] at h1
    exact hR'.nL _ p b bo sz h1 h2 h3
   ·obtain ⟨q1,q2⟩:=J7 hk h1
    by_cases hs:k∈sg
    ·obtain ⟨j,h4,rfl⟩:=Wm sg k hs
     exact hR'.nL j p b bo sz (by rw [← ab6 j h4]; exact h1) h2 h3
    ·rcases hI' b h3 with (h | ⟨k',p',ni,sz',e1,e2,e3⟩) | h | ⟨j,p',ni,sz',e1,e2,e3⟩
     ·exact hR.nL k p b bo sz q1 h2 h
     ·exact hR.inj k k' p p' b bo sz b ni sz' q1 e2 h2 e3 (λ e=>q2 (e ▸ e1)) rfl
     ·have:=hR.lt k p b bo sz q1 h2; omega
     ·exact hR.inj k _ p p' b bo sz b ni sz' q1 e2 h2 e3 (λ e=>hs (e ▸ pU sg j e1)) rfl
  lt:=λ k p b bo sz h1 h2=>by
   by_cases hk:dN≤k∧k<dN+nw
   ·rw [Ow hk] at h1
    exact hR'.lt _ p b bo sz h1 h2
   ·exact Nat.lt_of_lt_of_le (hR.lt k p b bo sz (J7 hk h1).1 h2) hR'.size
  yT:=hR'.yT
  size:=Nat.le_trans hR.size hR'.size
  env:=hR.env.step hR'.env.same
  frame:=λ b h1 h2=>by
   rw [hfr b (Nat.lt_of_lt_of_le h1 hR.size) (λ j p bo sz q1 q2 q3=>by
    rcases hR.new _ p b bo sz q2 q3 with h | h
    ·omega
    ·exact h2 h)]
   exact hR.frame b h1 h2
  new:=λ k p b bo sz h1 h2=>by
   by_cases hk:dN≤k∧k<dN+nw
   ·rw [Ow hk] at h1
    rcases apN _ p b bo sz om h1 h2 with h | ⟨j',p2,bo2,sz2,e1,e2,e3,e4⟩
    ·exact .inl (Nat.le_trans hR.size h)
    ·exact hR.new _ p2 b bo2 sz2 e3 e4
   ·exact hR.new k p b bo sz (J7 hk h1).1 h2
  glob:=hR'.glob
  O9:=λ b h=>anv b (hR.O9 b h)
  Rw:=λ b h=>by
   rcases hI' b h with (h | ⟨k',p',ni,sz',e1,e2,e3⟩) | h | ⟨j,p',ni,sz',e1,e2,e3⟩
   ·exact hR.Rw b h
   ·exact .inr (hR.new k' p' b ni sz' e2 e3)
   ·exact .inr (.inl (Nat.le_trans hR.size h))
   ·exact .inr (hR.new _ p' b ni sz' e2 e3)
  Vt:=λ k h=>by
   rcases anu k (hR.Dm k h) with h1 | h1
   ·rw [h1]; exact hR.Vt k h
   ·exact .inr h1
  Dm:=λ k h=>.inl (hR.Dm k h) }
 exact hnx x w' I' On hRn (λ u y hu=>hu.mono anv apM anu (λ _ h=>.inl h) hR.used) (hres.akO hD2 apK hon hpr)
end
end Go.Ab
namespace Go.Ab
section
variable {w:World} {I:Nat→Prop} {O:OM} {D:Nat→Prop}
theorem A8:∀(l m:List AV),Pk l m→l.length=m.length∧∀j,j<l.length→Le (nth l j) (nth m j):=by
 intro l;induction l with
 | nil=>intro m h; cases m with
  | nil=>exact ⟨rfl,λ j hj=>by cases hj⟩
  | cons=>exact h.elim
 | cons u l ih=>intro m h; cases m with
  | nil=>exact h.elim
  | cons v m=>
   obtain ⟨h1,h2⟩:=ih m h.2
   refine ⟨by simp [h1],λ j hj=>?_⟩
   cases j with
   | zero=>exact h.1
   | succ j=>exact h2 j (by simpa using hj)
theorem Pk.refl:∀(l:List AV),Pk l l
 | []=>trivial
 | v::l=>⟨.refl v,Pk.refl l⟩
theorem Le.u6 {cs cs':List AV} (h:Pk cs cs'):Le (.agg cs) (.agg cs'):=.agg (A8 _ _ h).1 (A8 _ _ h).2
theorem Le.roL {cs cs':List AV} (h:Pk cs cs'):Le (.ro cs) (.ro cs'):=.ro (A8 _ _ h).1 (A8 _ _ h).2
theorem aef {u v:AV} (h:Le u v):(∀x,ig w I u x→ig w I v x)∧u.cells.length=v.cells.length∧∀j,j<u.cells.length→∀x,ig w I (nth u.cells j) x→ig w I (nth v.cells j) x:=by
 have one:∀ {u v:AV},u.cells=[u]→v.cells=[v]→(∀x,ig w I u x→ig w I v x)→(∀x,ig w I u x→ig w I v x)∧u.cells.length=v.cells.length∧∀j,j<u.cells.length→∀x,ig w I (nth u.cells j) x→ig w I (nth v.cells j) x:=by
  intro u v h1 h2 h3;rw [h1,h2];refine ⟨h3,rfl,λ j hj x hx=>?_⟩;have:j=0:=by simpa using hj
  subst this;exact h3 x hx
 induction h with
 | refl v=>exact ⟨λ _ h=>h,rfl,λ _ _ _ h=>h⟩
 | @sl es es' n n' f f' g g' hn he hf h ih=>
  subst hn;refine one rfl rfl λ x hx=>?_;cases hx with
  | sl b off vs hcap hfull ha hes hm h1 hr=>
   refine .sl b off vs hcap (λ e=>hfull (hf e)) ha (λ i hi=>?_) (λ i j hi hj=>?_) (λ i j hi hj=>?_) (λ i j hi hj=>?_)
   ·rw [← (ih i hi).2.1,← he om]; exact hes i hi
   ·rw [← he om] at hj ⊢; exact hm i j hi hj
   ·rw [← he om] at hj; exact h1 i j hi hj
   ·rw [← he om] at hj; exact (ih i hi).2.2 j (by rw [hes i hi]; exact hj) _ (hr i j hi hj)
 | @ro cs cs' hl h ih=>
  refine one rfl rfl λ x hx=>?_;cases hx with
  | ro b off vs hI hm hr=>exact .ro b off vs hI (λ j hj=>hm j om) λ j hj=>(ih j om).1 _ (hr j om)
 | @agg cs cs' hl h ih=>
  refine ⟨λ x hx=>?_,hl,λ j hj x hx=>(ih j hj).1 x hx⟩;cases hx with
  | agg h1 hr=>exact .agg om λ j hj=>(ih j om).1 _ (hr j om)
 | @jM cs cs' hl h ih=>
  refine one rfl rfl λ x hx=>?_;cases hx with
  | jM h1 hr=>exact .jM om λ j hj=>(ih j om).1 _ (hr j om)
 | @fn f cs cs' hl h ih=>
  refine one rfl rfl λ x hx=>?_;cases hx with
  | fn h1 hr=>exact .fn om λ j hj=>(ih j om).1 _ (hr j om)
theorem Le.apP {u v:AV} (h:Le u v) {x:Value} (hx:ig w I u x):ig w I v x:=(aef h).1 x hx
theorem Le.rep {u v:AV} (h:Le u v):∀ {x:Value},dZ w I O D u x→dZ w I O D v x:=by
 induction h with
 | refl v=>exact λ h=>h
 | sl hn he hf h ih=>intro x hx; exact .pure ((Le.sl hn he hf h).apP hx.yV)
 | ro hl h ih=>intro x hx; exact .pure ((Le.ro hl h).apP hx.VZ)
 | agg hl h ih=>
  intro x hx;obtain ⟨vs,rfl,h1,h2⟩:=hx.qB;exact .agg om λ j hj=>ih j om (h2 j om)
 | jM hl h ih=>
  intro x hx;obtain ⟨vs,rfl,h1,h2⟩:=hx.Gt;exact .jM om λ j hj=>ih j om (h2 j om)
 | fn hl h ih=>
  intro x hx;obtain ⟨vs,rfl,h1,h2⟩:=hx.JX;exact .fn om λ j hj=>ih j om (h2 j om)
theorem LeO.rep {p:Own} {x y:dP} (h:LeO x y) (hx:iK w I O D p x):iK w I O D p y:=by
 cases x with
 | map=>cases y with
  | box=>exact h.elim
  | row=>exact h.elim
  | map=>obtain ⟨rfl,rfl,rfl⟩:=h; exact hx
 | box cs=>cases y with
  | row=>exact h.elim
  | map=>exact h.elim
  | box cs'=>
   obtain ⟨h1,b,bo,sz,hp,ha,hl,hr⟩:=hx
   obtain ⟨h2,h3⟩:=A8 _ _ h
   exact ⟨h1,b,bo,sz,hp,ha,by omega,λ j hj=>(h3 j om).rep (hr j om)⟩
 | row es n g=>cases y with
  | box=>exact h.elim
  | map=>exact h.elim
  | row es' n' g'=>
   obtain ⟨rfl,rfl,h⟩:=h
   obtain ⟨h1,h2,h3,h4⟩:=hx
   refine ⟨h1,h2,λ i hi=>by rw [← (aef (w:=w) (I:=I) (h i hi)).2.1]; exact h3 i hi,?_⟩
   rcases h4 with h4 | ⟨b,bo,sz,hp,ha,hl,hr⟩
   ·exact .inl h4
   ·exact .inr ⟨b,bo,sz,hp,ha,hl,λ i j hi hj=>⟨(aef (h i hi)).2.2 j (by rw [h3 i hi]; exact hj) _ (hr i j hi hj).1,(hr i j hi hj).2⟩⟩
theorem agC:∀(l m:List dP),anc l m→l.length=m.length∧∀j x y,hof l j=some x→hof m j=some y→LeO x y:=by
 intro l;induction l with
 | nil=>intro m h; cases m with
  | nil=>exact ⟨rfl,λ j x y h=>by cases h⟩
  | cons=>exact h.elim
 | cons u l ih=>intro m h; cases m with
  | nil=>exact h.elim
  | cons v m=>
   obtain ⟨h1,h2⟩:=ih m h.2
   refine ⟨by simp [h1],λ j x y hx hy=>?_⟩
   cases j with
   | zero=>cases hx; cases hy; exact h.1
   | succ j=>exact h2 j x y hx hy
theorem afq:∀(l:List dP) (j:Nat),hof l j=none↔l.length≤j:=by
 intro l;induction l with
 | nil=>intro j; simp [hof]
 | cons x l ih=>intro j; cases j with
  | zero=>simp [hof]
  | succ j=>simp [hof,ih]
theorem Spec.le {P:Program} {cfg:uT} {f:FuncId} {args args':List AV} {obs fE:List dP} {r:AV} {ob2:List dP} (h:Ab.Spec P cfg f args' fE r ob2) (ha:Pk args args') (ho:anc obs fE):Ab.Spec P cfg f args obs r ob2:=by
 obtain ⟨h1,h2,h3⟩:=h;obtain ⟨a1,a2⟩:=A8 _ _ ha;obtain ⟨o1,o2⟩:=agC _ _ ho;refine ⟨h1,by omega,λ w I O vals hR hv hrep=>?_⟩;have hR':Rel cfg (Jz w I O fE.length) (hof fE) (λ o=>o<fE.length) w I O:=by
  rw [← o1];exact { hR with
   dom:=λ o=>by rw [hR.dom o,afq,afq,o1]
   objs:=λ o y p hy hp=>by
    cases hx:hof obs o with
    | none=>rw [(hR.dom o).2 hx] at hp; cases hp
    | some x=>exact (o2 o x y hx hy).rep (hR.objs o x p hx hp) }
 have:=h3 w I O vals hR' om (λ j hj=>by rw [← o1]; exact (a2 j om).rep (hrep j om));rw [← o1] at this;exact this
end
end Go.Ab
namespace Go.Ab
open Go.MapKept
section
variable {P:Program} {cfg:uT} {cx:Ctx} {H:Nat→Option dP} {D:Nat→Prop} {w:World} {I:Nat→Prop} {O:OM} {Sp:ny}
variable {dN:Nat} {o:Oper} {a:Act} {ρ:Operand→AV} {v:AV} {ups:jW} {r:List Nat}
theorem ale {z:ZK} {es:Nat} {c:AV} (h:akR z es c=true):Le c (am7 z es c):=by
 unfold akR at h;split at h
 ·exact .refl _
 ·rename_i k k' n;have:k=k':=of_decide_eq_true h;subst this;exact .refl _
 ·exact .refl _
 ·rename_i es' n f g;split at h
  ·rename_i hb;have:=Nat.eq_of_beq_eq_true hb;subst this;exact .sl rfl (λ _=>rfl) nofun λ _ _=>.refl _
  ·have:=Nat.eq_of_beq_eq_true h;subst this;exact .sl rfl (λ hn=>absurd rfl hn) nofun λ _ hi=>absurd hi (Nat.not_lt_zero _)
 ·cases h
theorem agD {zs:List ZK} {sz:Nat} {all:List AV}:∀(cs:List AV) (k:Nat),akS zs sz all k cs=true→∀j,j<cs.length→akR (ahT zs ((k+j).mod sz)) (Y0 sz ((k+j).mod sz) 0 all) (nth cs j)=true:=by
 intro cs;induction cs with
 | nil=>intro k _ j hj; exact absurd hj (Nat.not_lt_zero _)
 | cons c cs ih=>
  intro k h j hj;unfold akS at h;split at h
  ·rename_i hf;cases j with
   | zero=>exact hf
   | succ j=>
    have:=ih (k+1) h j (by simpa using hj);rw [show k+(j+1)=k+1+j by omega];exact this
  ·cases h
theorem aiv (all:List AV) (b sz:Nat):∀(zs:List ZK) (j0 j:Nat),j<zs.length→nth (abH all b sz j0 zs) j=am7 (ahT zs j) (Y0 sz (j0+j) 0 all) (nth all (b+(j0+j))):=by
 intro zs;induction zs with
 | nil=>intro j0 j h; exact absurd h (Nat.not_lt_zero _)
 | cons z zs ih=>
  intro j0 j h;cases j with
  | zero=>rfl
  | succ j=>
   have:=ih (j0+1) j (by simpa using h);simp only [abH,nth,ahT];rw [this,show j0+1+j=j0+(j+1) by omega]
theorem Tw (all:List AV) (b sz:Nat):∀(zs:List ZK) (j0:Nat),(abH all b sz j0 zs).length=zs.length:=by
 intro zs;induction zs with
 | nil=>intro _; rfl
 | cons z zs ih=>intro j0; simp only [abH,List.length_cons,ih]
variable {t:TypeId}
theorem aiw (hc:gL P cfg) (hR:Rel cfg cx H D w I O) {x ix:Operand} (ho:o.op=.index t x ix) (hx:dZ w I O D (ρ x) (a.eval x)) (hix:dZ w I O D (ρ ix) (a.eval ix))
  (h:fD Sp H (gD cfg dN (.index t x ix) ρ) v ups r):fC P cfg cx H D w I O dN o a v ups:=by
 simp only [gD] at h;obtain ⟨ti,ht,h1⟩:=h.kg;obtain ⟨_,dd,_,_,hud,_,_,_,_,_,_,_,hm⟩:=(hc.ty t ti ht).ex;split at h1
 ·rename_i b k i e1 e2 e3;rw [e1] at hm;have hm:dd=.string:=hm;subst hm;rw [e2] at hx;rw [e3] at hix;have hxv:=hx.zT;have abN:=hix.iD;obtain ⟨⟨hn0,hn1⟩,rfl,rfl⟩:=h1.iy;refine fC.dY (x:=.int .u8 (iE b i.toNat)) hR ?_ (.pure (.int _ _));have hlt:i.toNat<b.size:=by omega
  have hb:b[i.toNat]? = some b[i.toNat]:=by simp [hlt]
  simp [execOp,ho,hxv,abN,Instr.index,asIntOf,bN hud,hn0,iE,hb]
 ·rename_i n et cs k i e1 e2 e3;rw [e1] at hm;have hm:dd=.array n et:=hm;subst hm;rw [e2] at hx;rw [e3] at hix;obtain ⟨vs,hxv,hl,hr⟩:=hx.qB;have abN:=hix.iD;obtain ⟨ei,he,h2⟩:=h1.kg;obtain ⟨ie,de,hie,apD,hde,ak6⟩:=hc.agg he;unfold ahU at h2;obtain ⟨c0,h2⟩:=h2.bP;obtain ⟨z0,z1⟩:=EK c0;obtain ⟨c1,h3⟩:=h2.bP;obtain ⟨c2,h4⟩:=h3.bP;obtain ⟨c3,h5⟩:=h4.bP;have c1:=Nat.eq_of_beq_eq_true c1;have c2:=Nat.eq_of_beq_eq_true c2;obtain ⟨⟨hn0,hn1⟩,rfl,rfl⟩:=h5.iy;have hlt:i.toNat<n:=by omega
  have hle:i.toNat*ei.size+ei.size≤cs.length:=by
   rw [c1,← Nat.succ_mul];exact Nat.mul_le_mul_right _ hlt
  have hcell:∀j,j<ei.size→dZ w I O D (nth (abH cs (i.toNat*ei.size) ei.size 0 ei.zero) j) (vs.getD (i.toNat*ei.size+j) Go.undef):=by
   intro j hj;rw [aiv _ _ _ _ _ _ om,Nat.zero_add];have hf:=agD cs 0 c3 (i.toNat*ei.size+j) om;have hmod:(0+(i.toNat*ei.size+j)).mod ei.size=j:=by
    show (0+(i.toNat*ei.size+j)) % ei.size=j;rw [Nat.zero_add,Nat.mul_comm,Nat.mul_add_mod];exact Nat.mod_eq_of_lt hj
   rw [hmod] at hf;exact (ale hf).rep (hr _ om)
  have hag:=Ry apD w;rw [hde] at hag;have hrun:∀u,(part et vs (i.toNat*ei.size)).run P w=.ok u w→(execOp a.eval o).run P w=.ok (.value u) w:=by
   intro u hu;rw [← ak6] at hu;have hi':(0:Int)≤i∧i<n:=⟨hn0,hn1⟩;have hz:fP (w:=w) hie=fP (w:=w) hie:=rfl;simp only [execOp,ho,hxv,abN,Instr.index,asIntOf,Sem.run_bind,Sem.run_pure,Result.andThen_ok,bN hud,hi',and_self,if_true,fP hie,hu]
  cases ha:ei.agg with
  | true=>
   rw [ha] at hag;have e1:(part et vs (i.toNat*ei.size)).run P w=.ok (.agg (vs.extract (i.toNat*ei.size) (i.toNat*ei.size+ei.size))) w:=by simp [part,Sem.run_bind,hag,fP hie,ak6]
   refine fC.dY hR (hrun _ e1) (.agg ?_ λ j hj=>?_)
   ·rw [Tw,c2]; simp; omega
   ·rw [Tw,c2] at hj;have h6:=hcell j hj;have h4:i.toNat*ei.size+j<vs.size:=by omega
    have h5:(vs.extract (i.toNat*ei.size) (i.toNat*ei.size+ei.size))[j]? = vs[i.toNat*ei.size+j]? := by
     rw [Array.getElem?_extract,if_pos om]
    simp only [Array.getD_eq_getD_getElem?, h5];simpa [h4] using h6
  | false=>
   rw [ha] at hag;have hs1:ei.size=1:=z1 ha;have h4:i.toNat*ei.size<vs.size:=by omega
   have e1:(part et vs (i.toNat*ei.size)).run P w=.ok (vs.getD (i.toNat*ei.size) Go.undef) w:=by simp [part,Sem.run_bind,hag,Array.getElem?_eq_getElem h4]
   exact fC.dY hR (hrun _ e1) (hcell 0 om)
 ·exact (fD.aZ h1).elim
def aeg (cfg:uT) (kt:TypeId):TD→Prop
 | .struct [(0,a),(1,b)]=>∃ia ib,look cfg.ty a=some ia∧look cfg.ty b=some ib∧ia.desc=.int .i64∧ib.desc=.int .i64∧look cfg.eqs kt=some [.int .i64,.int .i64]
 | _=>True
theorem Wn {k:Mh→Mh→Pg} (h:fD Sp H (ahR cfg t k) v ups r):∃ti kt et ki ei,look cfg.ty t=some ti∧ti.desc=.map kt et∧look cfg.ty kt=some ki∧look cfg.ty et=some ei∧ei.agg=false∧aeg cfg kt ki.desc∧fD Sp H (k ki ei) v ups r:=by
 unfold ahR at h;split at h
 ·rename_i ti ht;split at h
  ·rename_i kt et hd;obtain ⟨ki,hk,h1⟩:=h.kg;obtain ⟨ei,he,h2⟩:=h1.kg;obtain ⟨ha,h3⟩:=h2.bP;refine ⟨ti,kt,et,ki,ei,ht,hd,hk,he,by simpa using ha,?_⟩;unfold ams at h3;split at h3
   ·rename_i a b e;obtain ⟨ia,hia,h4⟩:=h3.kg;obtain ⟨ib,hib,h5⟩:=h4.kg;obtain ⟨c1,h6⟩:=h5.bP;obtain ⟨c2,h7⟩:=h6.bP;obtain ⟨c3,h8⟩:=h7.bP;rw [e];exact ⟨⟨ia,ib,hia,hib,of_decide_eq_true c1,of_decide_eq_true c2,of_decide_eq_true c3⟩,h8⟩
   ·rename_i hne;refine ⟨?_,h3⟩;unfold aeg;split
    ·rename_i a b e;exact absurd e (hne a b)
    ·trivial
  ·exact (fD.aZ h).elim
 ·exact (fD.aZ h).elim
theorem aeh (hR:Rel cfg cx H D w I O) (hn:¬ D dN) (ho:o.op=.makeMap t none) (h:fD Sp H (gD cfg dN (.makeMap t none) ρ) v ups r):fC P cfg cx H D w I O dN o a v ups:=by
 simp only [gD] at h;obtain ⟨ti,kt,et,ki,ei,ht,hd,hk,he,_,_,h1⟩:=Wn h;obtain ⟨rfl,rfl⟩:=h1.jY;intro next Q hnx
 have hrun:(execOp a.eval o).run P w=.ok (.value (.map (some w.heap.size))) (w.alloc (.map #[] 0)):=by
  simp [execOp,ho,Instr.makeMap,newObj];rfl
 have hat:(w.alloc (.map #[] 0)).heap[w.heap.size]? = some (.map #[] 0):=by
  show (w.heap.push (.map #[] 0))[w.heap.size]? = _;simp
 refine qW hrun (hnx _ _ I (kP O dN ⟨0,1,some (w.heap.size,0,0)⟩) (hR.amx hn _ _ _ 0 rfl ?_) (λ u y hu=>hu.push hR _ _ hn) (.mref (p:=⟨0,1,some (w.heap.size,0,0)⟩) (by simp [kP]) rfl));exact ⟨rfl,_,_,_,#[],0,rfl,hat,⟨λ e he=>by simp at he,by simp,λ k n hk=>by cases hk⟩⟩
theorem RL {u:AV} {k:iJ} {x:Value} (h:keyOf u=some k) (hx:dZ w I O D u x):x=lM k:=by
 unfold keyOf at h;split at h
 ·cases h; exact hx.zT
 ·cases h; exact hx.iD
 ·rename_i a b;cases h;obtain ⟨vs,rfl,hl,hr⟩:=hx.qB;have h0:=(hr 0 (by simp)).iD;have h1:=(hr 1 (by simp)).iD;have hl:vs.size=2:=hl;have e:vs=#[.int .i64 a,.int .i64 b]:=by
   apply Array.ext
   ·simp [hl]
   ·intro i hi1 hi2;simp only [List.size_toArray,List.length_cons,List.length_nil] at hi2;have h0':vs[0]'om=.int .i64 a:=by simpa [Array.getD_eq_getD_getElem?, hl] using h0
    have h1':vs[1]'om=.int .i64 b:=by simpa [Array.getD_eq_getD_getElem?, hl] using h1
    rcases (by omega:i=0∨i=1) with rfl | rfl
    ·exact h0'
    ·exact h1'
  rw [e];rfl
 ·cases h
theorem ab7 {k k':iJ} (h:lM k=lM k'):k=k':=by
 cases k<;>cases k'<;>cases h<;>rfl
theorem aae (k:iJ) (w:World):(Instr.keyThatStays (lM k) (lM k)).run P w=.ok (lM k) w:=by
 have h:Instr.sameBits 10000 (lM k) (lM k)=true:=by
  cases k with
  | s b=>simp [lM,Instr.sameBits,MapKept.bytes_beq]
  | i n=>simp [lM,Instr.sameBits]
  | p a b=>simp [lM,Instr.sameBits]
 simp [Instr.keyThatStays,h]
structure aaf (P:Program) (kt:TypeId) (kd:TD):Prop where
 check:∀k,qy kd k=true→∀(e:Bool) (w:World),(Instr.checkKey e 10000 kt (lM k)).run P w=.ok () w
 find:∀k,qy kd k=true→∀(es:List MapEntry) (w:World),(∀e∈es,∃k',e.key=lM k'∧qy kd k'=true)→((Instr.findKey kt (lM k) es).run P w=.ok none w∧∀e∈es,e.key≠lM k)∨∃(j:Nat) (e:MapEntry),(Instr.findKey kt (lM k) es).run P w=.ok (some (j,e.val)) w∧es[j]? = some e∧e.key=lM k
variable {kt:TypeId}
theorem Pz {d:TypeDesc} {kd:TD} (hu:P.underlying kt=some d) (hk:∀k',qy kd k'=true→IsKey d (lM k')):aaf P kt kd where
 check:=λ k h e w=>run_checkKey hu (hk k h) e 9999
 find:=λ k h es w hes=>by
  rcases findNow_spec (hk k h) es 0 (λ e he=>by obtain ⟨k',q1,q2⟩:=hes e he; rw [q1]; exact hk k' q2) with ⟨g1,g2⟩ | ⟨j,e,g1,g2,g3⟩
  ·exact .inl ⟨run_findKey hu g1,g2⟩
  ·refine .inr ⟨j,e,?_,g2,g3⟩;rw [Nat.zero_add] at g1;exact run_findKey hu g1
theorem ab8 (hc:gL P cfg) {ki:Mh} {a b:TypeId} (hk:look cfg.ty kt=some ki) (hd:ki.desc=.struct [(0,a),(1,b)]) {ia ib:Mh} (hia:look cfg.ty a=some ia) (hib:look cfg.ty b=some ib) (ha:ia.desc=.int .i64) (hb:ib.desc=.int .i64)
  (heq:look cfg.eqs kt=some [.int .i64,.int .i64]):aaf P kt ki.desc:=by
 obtain ⟨_,d,_,_,hu,_,_,_,_,_,_,_,hm⟩:=(hc.ty kt ki hk).ex;rw [hd] at hm;obtain ⟨fields,rfl,hfs⟩:=hm;have hua:P.underlying a=some (.int .i64):=by
  obtain ⟨_,da,_,_,hua,_,_,_,_,_,_,_,hma⟩:=(hc.ty a ia hia).ex;rw [ha] at hma;rw [hua,show da=.int .i64 from hma]
 have hub:P.underlying b=some (.int .i64):=by
  obtain ⟨_,db,_,_,hub,_,_,_,_,_,_,_,hmb⟩:=(hc.ty b ib hib).ex;rw [hb] at hmb;rw [hub,show db=.int .i64 from hmb]
 obtain ⟨f1,f2,hl,e1,e2,e3,e4⟩:∃f1 f2,fields.toList=[f1,f2]∧f1.offset=0∧f1.type=a∧f2.offset=1∧f2.type=b:=by
  cases hh:fields.toList with
  | nil=>rw [hh] at hfs; cases hfs
  | cons f1 l=>cases l with
   | nil=>rw [hh] at hfs; simp at hfs
   | cons f2 l=>cases l with
    | cons=>rw [hh] at hfs; simp at hfs
    | nil=>
     rw [hh] at hfs
     simp only [List.map_cons,List.map_nil,List.cons.injEq,Prod.mk.injEq,and_true] at hfs
     exact ⟨f1,f2,rfl,hfs.1.1,hfs.1.2,hfs.2.1,hfs.2.2⟩
 have key:∀k,qy ki.desc k=true→∃x y,k=.p x y:=by
  intro k h;rw [hd] at h;cases k with
  | s=>cases h
  | i=>cases h
  | p x y=>exact ⟨x,y,rfl⟩
 have amy:∀(n:Nat) (e:Bool) (t:TypeId) (x:Value) (w:World),P.underlying t=some (.int .i64)→(Instr.checkKey e (n+1) t x).run P w=.ok () w:=by
  intro n e t x w ht;unfold Instr.checkKey;simp only [Sem.run_bind,bN ht,Result.andThen];cases x<;>rfl
 have heqv:∀(x y x' y':Int) (w:World),(Op.equal kt (lM (.p x y)) (lM (.p x' y'))).run P w=.ok ((x==x')&&((y==y')&&true)) w:=by
  intro x y x' y' w;refine D6 (I:=λ _=>False) (O:=λ _=>none) (D:=λ _=>False) hc heq (cs:=[.int .i64 x,.int .i64 y]) (cs':=[.int .i64 x',.int .i64 y']) rfl rfl rfl (λ j hj=>?_) (λ j hj=>?_)
  ·match j,hj with
   | 0,_=>exact .pure (.int _ _)
   | 1,_=>exact .pure (.int _ _)
  ·match j,hj with
   | 0,_=>exact .pure (.int _ _)
   | 1,_=>exact .pure (.int _ _)
 refine ⟨λ k h e w=>?_,λ k h es w hes=>?_⟩
 ·obtain ⟨x,y,rfl⟩:=key k h;have p1:=zU (P:=P) hua rfl #[Value.int .i64 x,Value.int .i64 y] 0 (by simp) w;have p2:=zU (P:=P) hub rfl #[Value.int .i64 x,Value.int .i64 y] 1 (by simp) w;have q1:∀x,(Instr.checkKey e 9999 a x).run P w=.ok () w:=λ x=>amy 9998 e a x w hua;have q2:∀x,(Instr.checkKey e 9999 b x).run P w=.ok () w:=λ x=>amy 9998 e b x w hub;show (Instr.checkKey e (9999+1) kt _).run P w=_;unfold Instr.checkKey;simp only [Sem.run_bind,bN hu,Result.andThen,lM];rw [← Array.forIn_toList,hl];simp only [List.forIn_cons,List.forIn_nil];by_cases h1:f1.name ≠ "_" <;> by_cases h2:f2.name ≠ "_" <;> simp [h1,h2,e1,e2,e3,e4,p1,p2,q1,q2,Sem.run_bind,Result.andThen]
 ·obtain ⟨x,y,rfl⟩:=key k h;have ask:∀(l:List MapEntry) (i:Nat),(∀e∈l,∃k',e.key=lM k'∧qy ki.desc k'=true)→((Instr.findAsking kt (lM (.p x y)) l i).run P w=.ok none w∧∀e∈l,e.key≠lM (.p x y))∨∃(j:Nat) (e:MapEntry),(Instr.findAsking kt (lM (.p x y)) l i).run P w=.ok (some (i+j,e.val)) w∧l[j]? = some e∧e.key=lM (.p x y):=by
   intro l;induction l with
   | nil=>intro i _; exact .inl ⟨rfl,λ e he=>by cases he⟩
   | cons e l ih=>
    intro i hes;obtain ⟨k',hk',hf'⟩:=hes e (by simp);obtain ⟨x',y',rfl⟩:=key k' hf';by_cases hxy:x=x'∧y=y'
    ·obtain ⟨rfl,rfl⟩:=hxy;refine .inr ⟨0,e,?_,rfl,hk'⟩;have hb:((x==x)&&((y==y)&&true))=true:=by simp
     rw [Instr.findAsking,hk',Sem.run_bind,heqv,hb];rfl
    ·have hb:((x==x')&&((y==y')&&true))=false:=by
      cases hq:((x==x')&&((y==y')&&true)) with
      | false=>rfl
      | true=>simp at hq; exact absurd hq hxy
     have hr:(Instr.findAsking kt (lM (.p x y)) (e::l) i).run P w=(Instr.findAsking kt (lM (.p x y)) l (i+1)).run P w:=by
      rw [Instr.findAsking,hk',Sem.run_bind,heqv,hb];rfl
     rw [hr];have hne:e.key≠lM (.p x y):=λ q=>hxy (by
      rw [hk'] at q
      have:=ab7 q
      cases this
      exact ⟨rfl,rfl⟩)
     rcases ih (i+1) (λ e he=>hes e (List.mem_cons_of_mem _ he)) with ⟨g1,g2⟩ | ⟨j,e',g1,g2,g3⟩
     ·refine .inl ⟨g1,λ e' he'=>?_⟩;rcases List.mem_cons.1 he' with rfl | he'
      ·exact hne
      ·exact g2 e' he'
     ·exact .inr ⟨j+1,e',by rw [g1,show i+1+j=i+(j+1) by omega],by simpa using g2,g3⟩
  cases es with
  | nil=>
   left;refine ⟨?_,λ e he=>by cases he⟩;simp [Instr.findKey,bN hu,Result.andThen,Instr.findNow]
  | cons e l=>
   have hn:Instr.findNow (.struct fields) (lM (.p x y)) (e::l) 0=none:=by
    simp [Instr.findNow,Instr.sameNow]
   have hr:(Instr.findKey kt (lM (.p x y)) (e::l)).run P w=(Instr.findAsking kt (lM (.p x y)) (e::l) 0).run P w:=by
    simp [Instr.findKey,bN hu,Result.andThen,hn]
   rw [hr];rcases ask (e::l) 0 hes with h | ⟨j,e',g1,g2,g3⟩
   ·exact .inl h
   ·exact .inr ⟨j,e',by rw [g1,Nat.zero_add],g2,g3⟩
theorem afr (hc:gL P cfg) {ki:Mh} (hk:look cfg.ty kt=some ki) (hp:aeg cfg kt ki.desc) {k:iJ} (h:qy ki.desc k=true):aaf P kt ki.desc:=by
 obtain ⟨_,d,_,_,hu,_,_,_,_,_,_,_,hm⟩:=(hc.ty kt ki hk).ex;cases hdd:ki.desc with
 | str=>
  rw [hdd] at hm;have hm:d=.string:=hm;subst hm;exact Pz hu λ k' h'=>by cases k'<;>first | trivial | cases h'
 | int kk=>
  rw [hdd] at hm;have hm:d=.int kk:=hm;subst hm;exact Pz hu λ k' h'=>by
   cases k' with
   | i n=>cases kk<;>first | (cases h'; done) | rfl
   | _=>cases h'
 | struct fs=>
  rw [hdd] at h hp;cases k with
  | s=>cases h
  | i=>cases h
  | p x y=>
   have h:(match TD.struct fs with | .struct [(0,_),(1,_)]=>true | _=>false)=true:=h;split at h
   ·rename_i a b e;cases e;obtain ⟨ia,ib,h1,h2,h3,h4,h5⟩:=hp;rw [← hdd];exact ab8 hc hk hdd h1 h2 h3 h4 h5
   ·cases h
 | _=>rw [hdd] at h; cases k<;>cases h
theorem ab9 {z:List ZK} (hz:Rp z=true) (n:Int):ig w I (am5 z n) (Ru z n):=by
 match z,hz with
 | [.bool],_=>exact .bool _
 | [.int k],_=>exact .int _ _
end
end Go.Ab
namespace Go.Ab
open Go.MapKept
section
variable {P:Program} {cfg:uT} {cx:Ctx} {H:Nat→Option dP} {D:Nat→Prop} {w:World} {I:Nat→Prop} {O:OM} {Sp:ny}
variable {dN:Nat} {o:Oper} {a:Act} {ρ:Operand→AV} {v:AV} {ups:jW} {r:List Nat}
variable {z:List ZK}
theorem acd {kt:TypeId} {kd:TD} {f:iJ→Option Int} {es:Array MapEntry} (hm:Rv kd z f es) {k:iJ} (hk:aaf P kt kd) (hkf:qy kd k=true) (w:World):
  ((Instr.findKey kt (lM k) es.toList).run P w=.ok none w∧f k=none∧∀e∈es.toList,e.key≠lM k)∨∃j e n,(Instr.findKey kt (lM k) es.toList).run P w=.ok (some (j,Ru z n)) w∧es[j]? = some e∧e.key=lM k∧f k=some n∧e.val=Ru z n:=by
 rcases hk.find k hkf es.toList w (λ e he=>by
  obtain ⟨k',n',q1,q2,_⟩:=hm.keys e he;exact ⟨k',q1,q2⟩) with ⟨g1,g2⟩ | ⟨j,e,g1,g2,g3⟩
 ·refine .inl ⟨g1,?_,g2⟩;cases hf:f k with
  | none=>rfl
  | some n=>
   obtain ⟨e,he1,he2⟩:=hm.all k n hf;exact absurd he2 (g2 e he1)
 ·obtain ⟨k',n',q1,q2,q3,q4⟩:=hm.keys e (List.mem_of_getElem? g2);rw [g3] at q1;have:=ab7 q1;subst this;exact .inr ⟨j,e,n',by rw [g1,q4],by simpa using g2,g3,q3,q4⟩
theorem acf (hz:Rp z=true) {x:Value} (h1:x.cells=#[x]) (hm:JW (z.getD 0 .other) (x.cells.getD 0 Go.undef)):x=Ru z 0:=by
 rw [h1] at hm;match z,hz with
 | [.bool],_=>exact hm
 | [.int k],_=>exact hm
theorem agE (hc:gL P cfg) (hR:Rel cfg cx H D w I O) {t:TypeId} {x ix:Operand} {okk:Bool} (ho:o.op=.lookup t x ix okk) (hx:dZ w I O D (ρ x) (a.eval x)) (hix:dZ w I O D (ρ ix) (a.eval ix))
  (h:fD Sp H (gD cfg dN (.lookup t x ix okk) ρ) v ups r):fC P cfg cx H D w I O dN o a v ups:=by
 simp only [gD] at h;obtain ⟨ti,kt,et,ki,ei,ht,hd,hk,he,hag,aix,h1⟩:=Wn h;have main:∀(b:Nat) (kd:TD) (z:List ZK) (f:iJ→Option Int) (es:Array MapEntry) (clock:Nat) (k:iJ),a.eval x=.map (some b)→a.eval ix=lM k→w.heap[b]? = some (.map es clock)→Rv kd z f es→kd=ki.desc→z=ei.zero→Rp z=true→qy ki.desc k=true→fC P cfg cx H D w I O dN o a (aff z f k okk) []:=by
  intro b kd z f es clock k hxv hkv hw hm c1 c2 c3 hkf;obtain ⟨_,dd,_,_,hud,_,_,_,_,_,_,_,hmt⟩:=(hc.ty t ti ht).ex;rw [hd] at hmt;have hmt:dd=.map kt et:=hmt;subst hmt;have hko:=afr hc hk aix hkf;obtain ⟨ie,_,ze,hie,_,hze,hse,_,_,hzc,hzl,Pt,_⟩:=(hc.ty et ei he).ex;have hz1:=(hc.ty et ei he).one hag ie ze hie hze;rw [← c1] at hko hkf;have RN:=λ e=>hko.check k hkf e w;have hrep:∀q,ig w I (aff z f k okk) (if okk=true then Value.tuple #[Ru z (Oo f k),.bool q] else Ru z (Oo f k))∨q≠(f k).isSome:=by
   intro q;by_cases hq:q=(f k).isSome
   ·left;subst hq;cases okk with
    | false=>exact ab9 c3 _
    | true=>
     refine .jM rfl λ j hj=>?_;match j,hj with
     | 0,_=>exact ab9 c3 _
     | 1,_=>exact .bool _
   ·exact .inr hq
  rcases acd hm hko hkf w with ⟨g1,g2,_⟩ | ⟨j,e,n,g1,g2,g3,g4,g5⟩
  ·have e0:Oo f k=0:=by unfold Oo; rw [g2]; rfl
   have hz0:ze=Ru z (Oo f k):=by
    rw [e0];refine acf c3 hz1 ?_;have hsz:0<ei.size:=by
     have:ze.cells.size=1:=by rw [hz1]; rfl
     omega
    have:=Pt 0 hsz;rwa [← c2] at this
   rcases hrep false with hr | hr
   ·refine fC.dY hR ?_ (.pure hr);simp [execOp,ho,hxv,hkv,Instr.lookup,bN hud,MapKept.run_getObj_map hw,RN,g1,zeroValue,typeInfo,hie,hze,hz0]
   ·rw [g2] at hr; exact absurd rfl hr
  ·have e0:Oo f k=n:=by unfold Oo; rw [g4]; rfl
   rcases hrep true with hr | hr
   ·refine fC.dY hR ?_ (.pure hr);simp [execOp,ho,hxv,hkv,Instr.lookup,bN hud,MapKept.run_getObj_map hw,RN,g1,e0]
   ·rw [g4] at hr; exact absurd rfl hr
 split at h1
 ·rename_i ob k e1 e2;rw [e1] at hx;have hkv:=RL e2 hix;obtain ⟨hkf,h2⟩:=h1.bP;obtain ⟨obj,_,nk,h3⟩:=h2.lY;obtain ⟨p,hp,hO⟩:=hR.live nk;cases obj with
  | box=>exact (fD.aZ h3).elim
  | row=>exact (fD.aZ h3).elim
  | map kd z f=>
   obtain ⟨c1,h4⟩:=h3.bP;obtain ⟨c2,h5⟩:=h4.bP;obtain ⟨c3,h6⟩:=h5.bP;obtain ⟨rfl,rfl⟩:=h6.eZ;obtain ⟨hn,b,bo,sz,es,clock,hpl,hw,hm⟩:=hO;obtain ⟨b',ni,sz',hpl',hxv⟩:=hx.uW hp;rw [hpl] at hpl';cases hpl';exact main b kd z f es clock k hxv hkv hw hm (of_decide_eq_true c1) (of_decide_eq_true c2) c3 hkf
 ·rename_i kd z f k e1 e2;rw [e1] at hx;have hkv:=RL e2 hix;obtain ⟨hkf,h2⟩:=h1.bP;obtain ⟨c1,h4⟩:=h2.bP;obtain ⟨c2,h5⟩:=h4.bP;obtain ⟨c3,h6⟩:=h5.bP;obtain ⟨rfl,rfl⟩:=h6.eZ;obtain ⟨b,es,clock,_,hw,hm,hxv⟩:=hx.anf;exact main b kd z f es clock k hxv hkv hw hm (of_decide_eq_true c1) (of_decide_eq_true c2) c3 hkf
 ·exact (fD.aZ h1).elim
theorem aiy {u:AV} {n:Int} {x:Value} (h:am6 z u=some n) (hx:dZ w I O D u x):x=Ru z n:=by
 unfold am6 at h;split at h
 ·split at h
  ·rename_i b _;cases h;rw [hx.kL];cases b<;>rfl
  ·cases h
 ·split at h
  ·split at h
   ·rename_i k m k' _ e;cases h;have:=of_decide_eq_true e;subst this;rw [hx.iD];rfl
   ·cases h
  ·cases h
 ·cases h
theorem Y9 (f:iJ→Option Int) (k:iJ) (n:Int):Rq f k n k=some n:=by simp [Rq]
theorem Vv (f:iJ→Option Int) {k k':iJ} (n:Int) (h:k'≠k):Rq f k n k'=f k':=by simp [Rq,h]
theorem PD (hc:gL P cfg) (hR:Rel cfg cx H D w I O) {t:TypeId} {x ix y:Operand} (ho:o.op=.mapUpdate t x ix y∨o.op=.insert t x ix y) (hx:dZ w I O D (ρ x) (a.eval x)) (hix:dZ w I O D (ρ ix) (a.eval ix)) (hy:dZ w I O D (ρ y) (a.eval y))
  (h:fD Sp H (afh cfg t (ρ x) (ρ ix) (ρ y)) v ups r):fC P cfg cx H D w I O dN o a v ups:=by
 unfold afh at h;obtain ⟨ti,kt,et,ki,ei,ht,hd,hk,he,hag,aix,h1⟩:=Wn h;split at h1
 ·rename_i ob k n e1 e2 e3;rw [e1] at hx;have hkv:=RL e2 hix;have hyv:=aiy e3 hy;obtain ⟨hkf,h2⟩:=h1.bP;obtain ⟨obj,_,nk,h3⟩:=h2.lY;obtain ⟨p,hp,hO⟩:=hR.live nk;cases obj with
  | box=>exact (fD.aZ h3).elim
  | row=>exact (fD.aZ h3).elim
  | map kd z f=>
   obtain ⟨c1,h4⟩:=h3.bP;obtain ⟨c2,h5⟩:=h4.bP;obtain ⟨c3,h6⟩:=h5.bP;obtain ⟨rfl,rfl⟩:=h6.jY;have c1:=of_decide_eq_true c1;have c2:=of_decide_eq_true c2;rw [← c2] at hyv;obtain ⟨hn,b,bo,sz,es,clock,hpl,hw,hm⟩:=hO;obtain ⟨b',ni,sz',hpl',hxv⟩:=hx.uW hp;rw [hpl] at hpl';cases hpl';obtain ⟨_,dd,_,_,hud,_,_,_,_,_,_,_,hmt⟩:=(hc.ty t ti ht).ex;rw [hd] at hmt;have hmt:dd=.map kt et:=hmt;subst hmt;have hko:=afr hc hk aix hkf;rw [← c1] at hko hkf;have RN:=λ e=>hko.check k hkf e w;obtain ⟨es',clock',hrun,hm'⟩:∃es' clock',(execOp a.eval o).run P w=.ok .skip { w with heap:=w.heap.setIfInBounds b (.map es' clock') }∧Rv kd z (Rq f k n) es':=by
    rcases acd hm hko hkf w with ⟨g1,g2,g3⟩ | ⟨j,e,m,g1,g2,g3,g4,g5⟩
    ·refine ⟨es.push { key:=lM k,val:=Ru z n,born:=clock },clock+1,?_,?_⟩
     ·rcases ho with ho | ho<;>simp [execOp,ho,hxv,hkv,hyv,Instr.mapUpdate,bN hud,MapKept.run_getObj_map hw,RN,g1,MapKept.run_setObj_map _ hw]
     ·refine ⟨λ e he=>?_,?_,λ k' n' h'=>?_⟩
      ·simp only [Array.toList_push,List.mem_append,List.mem_singleton] at he;rcases he with he | rfl
       ·obtain ⟨k',n',q1,q2,q3,q4⟩:=hm.keys e he;have hne:k'≠k:=λ e'=>g3 e he (by rw [q1,e']);exact ⟨k',n',q1,q2,by rw [Vv f n hne]; exact q3,q4⟩
       ·exact ⟨k,n,rfl,hkf,Y9 f k n,rfl⟩
      ·simp only [Array.toList_push];refine List.pairwise_append.2 ⟨hm.uniq,by simp,λ x hx y hy=>?_⟩;simp only [List.mem_singleton] at hy;subst hy;exact g3 x hx
      ·simp only [Array.toList_push,List.mem_append,List.mem_singleton];by_cases hkk:k'=k
       ·subst hkk;exact ⟨_,.inr rfl,rfl⟩
       ·rw [Vv f n hkk] at h';obtain ⟨e,h1,h2⟩:=hm.all k' n' h';exact ⟨e,.inl h1,h2⟩
    ·have hj:j<es.size:=by
      rcases Nat.lt_or_ge j es.size with h | h
      ·exact h
      ·rw [Array.getElem?_eq_none h] at g2; cases g2
     refine ⟨es.modify j λ e=>{ e with key:=lM k,val:=Ru z n },clock,?_,?_⟩
     ·rcases ho with ho | ho<;>simp [execOp,ho,hxv,hkv,hyv,Instr.mapUpdate,bN hud,MapKept.run_getObj_map hw,RN,g1,g2,g3,aae,MapKept.run_setObj_map _ hw]
     ·have hkey:(es.modify j λ e=>{ e with key:=lM k,val:=Ru z n }).toList.map (·.key)=es.toList.map (·.key):=modify_keys j _ λ e' he'=>by rw [g2] at he'; cases he'; exact g3.symm
      have apQ:∀i e',es[i]? = some e'→e'.key=lM k→i=j:=by
       intro i e' hi hk';have hpw:=List.pairwise_iff_getElem.1 hm.uniq;obtain ⟨hi1,hi2⟩:=Array.getElem?_eq_some_iff.1 hi;obtain ⟨hj1,hj2⟩:=Array.getElem?_eq_some_iff.1 g2;rcases Nat.lt_trichotomy i j with h | h | h
       ·exact absurd (show es.toList[i].key=es.toList[j].key by rw [Array.getElem_toList,Array.getElem_toList,hi2,hj2,hk',g3]) (hpw i j (by simpa using hi1) (by simpa using hj1) h)
       ·exact h
       ·exact absurd (show es.toList[j].key=es.toList[i].key by rw [Array.getElem_toList,Array.getElem_toList,hi2,hj2,hk',g3]) (hpw j i (by simpa using hj1) (by simpa using hi1) h)
      refine ⟨λ e' he'=>?_,?_,λ k' n' h'=>?_⟩
      ·obtain ⟨i,hi,hie⟩:=List.getElem_of_mem he';have hi2:(es.modify j λ e=>{ e with key:=lM k,val:=Ru z n })[i]? = some e':=by
        rw [← Array.getElem?_toList,List.getElem?_eq_getElem hi,hie]
       rw [Array.getElem?_modify] at hi2;by_cases hij:j=i
       ·subst hij;rw [if_pos rfl,g2] at hi2;simp only [Option.map_some,Option.some.injEq] at hi2;subst hi2;exact ⟨k,n,rfl,hkf,Y9 f k n,rfl⟩
       ·rw [if_neg hij] at hi2;obtain ⟨k',n',q1,q2,q3,q4⟩:=hm.keys e' (Array.mem_toList_iff.2 (Array.mem_of_getElem? hi2));have hne:k'≠k:=λ e''=>hij (apQ i e' hi2 (by rw [q1,e''])).symm;exact ⟨k',n',q1,q2,by rw [Vv f n hne]; exact q3,q4⟩
      ·have h1:(es.toList.map (·.key)).Pairwise (· ≠ ·):=List.pairwise_map.2 hm.uniq;rw [← hkey] at h1;exact List.pairwise_map.1 h1
      ·have hmem:lM k'∈es.toList.map (·.key):=by
        by_cases hkk:k'=k
        ·subst hkk;exact List.mem_map.2 ⟨e,Array.mem_toList_iff.2 (Array.mem_of_getElem? g2),g3⟩
        ·rw [Vv f n hkk] at h';obtain ⟨e',h1,h2⟩:=hm.all k' n' h';exact List.mem_map.2 ⟨e',h1,h2⟩
       rw [← hkey] at hmem;obtain ⟨e',h1,h2⟩:=List.mem_map.1 hmem;exact ⟨e',h1,h2⟩
   obtain ⟨hh1,X5⟩:=MapKept.heap_set (o':=.map es' clock') hw;have hsz:({ w with heap:=w.heap.setIfInBounds b (.map es' clock') }:World).heap.size=w.heap.size:=by simp
   intro next Q hnx
   have arK:EI cx { w with heap:=w.heap.setIfInBounds b (.map es' clock') }:=by
    refine ⟨⟨hR.env.same.os,hR.env.same.tape,hR.env.same.output,λ i ob hi ho=>?_⟩,λ i ob hi=>?_⟩
    ·have h1:=hR.env.same.keep i ob hi ho;have hne:i≠b:=λ e=>by
      subst e;rw [hw] at h1;cases h1;cases ho
     show (w.heap.setIfInBounds b _)[i]? = _;rw [X5 i hne];exact h1
    ·obtain ⟨h1,h2⟩:=hR.env.kept i ob hi;have hne:i≠b:=λ e=>by
      subst e;rw [hw] at h1;cases h1;cases h2
     refine ⟨?_,h2⟩;show (w.heap.setIfInBounds b _)[i]? = _;rw [X5 i hne];exact h1
   have hR':=hR.aii arK (.map kd z (Rq f k n)) hp hpl (λ b' hb'=>X5 b' hb') hsz ⟨hn,b,bo,sz,es',clock',hpl,hh1,hm'⟩;have RF:∀b',I b'→({ w with heap:=w.heap.setIfInBounds b (.map es' clock') }:World).heap[b']? = w.heap[b']? := λ b' h=>X5 b' (λ e=>hR.nL ob p b bo sz hp hpl (e ▸ h));have hkeep:∀u y,dZ w I O D u y→dZ { w with heap:=w.heap.setIfInBounds b (.map es' clock') } I O D u y:=λ u y hu=>hu.mono (λ _ h=>h) RF (λ _ _=>.inl rfl) (λ _ h=>h) hR.used;exact Pv hrun (hnx Go.undef _ I O (hR'.wh dN) (λ u y hu=>(hkeep u y hu).wh hR' dN) (.pure (.undef _)))
 ·exact (fD.aZ h1).elim
end
end Go.Ab
namespace Go.Ab
section
variable {P:Program} {cfg:uT} {cx:Ctx} {H:Nat→Option dP} {D:Nat→Prop} {w:World} {I:Nat→Prop} {O:OM}
variable {dN:Nat} {o:Oper} {a:Act} {ρ:Operand→AV} {v:AV} {ups:jW} {r:List Nat}
theorem aei (hR:Rel cfg cx H D w I O) {f:FuncId} {args:List AV} {vals:Array Value} (hrun:∀fn,P.funcs[f]? = some fn→fn.body.isNone=false→(fn.name == "runtime.NumGoroutine")=false→(execOp a.eval o).run P w=.ok (.enter f vals) w)
  (hvl:vals.size=args.length) (hva:∀j,j<args.length→dZ w I O D (nth args j) (vals.getD j Go.undef))
  (h:fD (Spec P cfg) H (EH [] args λ args' _=>.call f args' [] λ r fE=>match fE with | []=>fK (ahL r) (jL r) | _::_=>.fail) v ups r):fC P cfg cx H D w I O dN o a v ups:=by
 obtain ⟨args',ids,r2,h4,hal,air⟩:=J5 hR (sg:=[]) (λ j hj=>by cases hj) args _ _ h;cases h4 with
 | @call _ _ _ _ res fE _ _ _ hspec h6=>
 cases fE with
 | cons=>exact (fD.aZ h6).elim
 | nil=>
  obtain ⟨hm,h7⟩:=h6.bP;obtain ⟨rfl,rfl⟩:=h7.eZ;clear h h6 h7;obtain ⟨⟨fn,hf1,hf2,hf3⟩,hle,hcall⟩:=hspec;have hRs:=hR.sub (sg:=[]) (ids:=ids) (obs:=[]) rfl (by
   have:∀l,JR l []=true:=by
    intro l
    induction l with
    | nil=>rfl
    | cons x l ih=>unfold JR; simp [zS,ih]
   exact this ids) rfl (λ j hj=>by cases hj)
  intro next Q hnx
  refine abZ (hrun fn hf1 hf2 hf3) ((hcall w _ _ vals hRs om (λ j hj=>air j om _ (hva j om))).mono ?_);rintro e w' ⟨x,I',O',rfl,hR',hres⟩;refine ⟨x,rfl,?_⟩;have hfr:∀b,b<w.heap.size→w'.heap[b]? = w.heap[b]? := λ b hb=>hR'.frame b hb (by
   rintro ⟨j,p,bo,sz,h1,h2⟩
   simp [og] at h1)
  have Pq:=hR.wh dN;refine hnx x w' I O ?_ (λ u y hu=>hu.mono (λ _ h=>h) (λ b hb=>hfr b (hR.yT b hb)) (λ _ _=>.inl rfl) (λ _ h=>.inl h) hR.used) (.pure (aea hres hm));rw [AZ];exact { Pq with
   objs:=λ o ob p h1 h2=>(Pq.objs o ob p h1 h2).mono (λ _ h=>h) (λ b hb=>hfr b (hR.yT b hb)) (λ _ _=>.inl rfl) (λ _ h=>h) Pq.used (λ b bo sz hpl=>hfr b (hR.lt o p b bo sz h2 hpl))
   lt:=λ o p b bo sz h1 h2=>Nat.lt_of_lt_of_le (hR.lt o p b bo sz h1 h2) hR'.size
   yT:=λ b h=>Nat.lt_of_lt_of_le (hR.yT b h) hR'.size
   size:=Nat.le_trans hR.size hR'.size
   env:=hR.env.step hR'.env.same
   frame:=λ b h1 h2=>by rw [hfr b (Nat.lt_of_lt_of_le h1 hR.size)]; exact hR.frame b h1 h2
   glob:=λ g cs h=>(hR.glob g cs h).mono (λ _ h=>h) (λ b hb=>hfr b (hR.yT b hb)) }
theorem aag (l m:List AV) (j:Nat) (h:j<l.length):nth (l++m) j=nth l j:=by
 rw [tu,tu]; simp [List.getElem?_append_left h]
theorem aah (l m:List AV) (j:Nat) (h:l.length≤j):nth (l++m) j=nth m (j - l.length):=by
 rw [tu,tu]; simp [List.getElem?_append_right h]
theorem alf (hR:Rel cfg cx H D w I O) (hn:VY D dN) {c:Call} {f:Operand} (ho:o.op=.call c) (hcl:c.callee=.value f) (hf:dZ w I O D (ρ f) (a.eval f)) (hx:∀x∈c.args.toList,dZ w I O D (ρ x) (a.eval x))
  (h:fD (Spec P cfg) H (gD cfg dN (.call c) ρ) v ups r):fC P cfg cx H D w I O dN o a v ups:=by
 simp only [gD,hcl] at h;split at h
 ·rename_i g caps e;rw [e] at hf;obtain ⟨cvs,hfv,arL,hcr⟩:=hf.JX;have hrun:∀fn,P.funcs[g]? = some fn→fn.body.isNone=false→(fn.name == "runtime.NumGoroutine")=false→(execOp a.eval o).run P w=.ok (.enter g (c.args.map a.eval++cvs)) w:=by
   intro fn h1 h2 h3;simp only [execOp,ho,hcl,resolve,hfv,Deferred.ofValue,Sem.run_bind,Sem.run_pure,Result.andThen_ok,invoke,callFunc,program,Sem.run,h1,h2,h3,Bool.false_eq_true,if_false];simp
  have hvl:(c.args.map a.eval++cvs).size=(c.args.toList.map ρ++caps).length:=by simp [arL]
  have hva:∀j,j<(c.args.toList.map ρ++caps).length→dZ w I O D (nth (c.args.toList.map ρ++caps) j) ((c.args.map a.eval++cvs).getD j Go.undef):=by
   intro j hj;by_cases hlt:j<(c.args.toList.map ρ).length
   ·rw [aag _ _ _ hlt];have h1:=afl (a:=a) hx j hlt;have hlt':j<(c.args.map a.eval).size:=by simpa using hlt
    have e1:(c.args.map a.eval++cvs).getD j Go.undef=(c.args.map a.eval).getD j Go.undef:=by
     simp only [Array.getD_eq_getD_getElem?, Array.getElem?_append_left hlt']
    rw [e1];simpa using h1
   ·have hge:(c.args.toList.map ρ).length≤j:=by omega
    rw [aah _ _ _ hge];have hge':(c.args.map a.eval).size≤j:=by simpa using hge
    have e1:(c.args.map a.eval++cvs).getD j Go.undef=cvs.getD (j - (c.args.map a.eval).size) Go.undef:=by
     simp only [Array.getD_eq_getD_getElem?, Array.getElem?_append_right hge']
    rw [e1];have e2:(c.args.map a.eval).size=(c.args.toList.map ρ).length:=by simp
    rw [e2];exact hcr _ (by simp at hj hge ⊢; omega)
  unfold ahQ at h;split at h
  ·split at h
   ·exact aei hR hrun hvl hva h
   ·exact ab3 hR hn hrun hvl hva h
  ·exact ab3 hR hn hrun hvl hva h
 ·exact (fD.aZ h).elim
def amA (w:World) (I:Nat→Prop) (O:OM) (D:Nat→Prop) (a:Act) (ρ:Operand→AV) (op:Op):Prop:=
 match op with
 | .pick c x y=>dZ w I O D (ρ c) (a.eval c)∧(∀b,ρ c=.bool b→b=true→dZ w I O D (ρ x) (a.eval x))∧(∀b,ρ c=.bool b→b=false→dZ w I O D (ρ y) (a.eval y))
 | op=>∀x∈op.operands.toList,dZ w I O D (ρ x) (a.eval x)
theorem aiz (hc:gL P cfg) (hR:Rel cfg cx H D w I O) (hF:VY D dN) (hρ:∀c,ρ (.const c)=ofConst c) (hx:amA w I O D a ρ o.op) (h:fD (Spec P cfg) H (gD cfg dN o.op ρ) v ups r):fC P cfg cx H D w I O dN o a v ups:=by
 have hn:=hF.one;generalize ho:o.op=op at hx h;cases op with
 | move x=>obtain ⟨rfl,rfl⟩:=h.eZ; exact akW hR ho (hx x (by simp [Op.operands]))
 | assign x=>obtain ⟨rfl,rfl⟩:=h.eZ; exact agp hR ho (hx x (by simp [Op.operands]))
 | pick c x y=>
  obtain ⟨h1,h2,h3⟩:=hx;exact akX hR ho h1 h2 h3 (λ c e=>by subst e; exact ⟨hρ c,rfl⟩) (λ c e=>by subst e; exact ⟨hρ c,rfl⟩) h
 | alloc t=>exact aia hc hR hn ho h
 | box t x=>exact anl hR hn ho (hx x (by simp [Op.operands])) h
 | build t parts=>
  refine aie hc hR ho (λ p hp=>hx p.2 ?_) h;simp only [Op.operands,List.mem_map];exact ⟨p,hp,rfl⟩
 | buildSlice t len parts=>
  refine Yi hc hR hn ho (λ p hp=>hx p.2 ?_) h;simp only [Op.operands,List.mem_map];exact ⟨p,hp,rfl⟩
 | load t x=>exact ak2 hc hR ho (hx x (by simp [Op.operands])) h
 | store t x y=>exact aij hc hR ho (hx x (by simp [Op.operands])) (hx y (by simp [Op.operands])) h
 | nilCheck x=>exact abL hR ho (hx x (by simp [Op.operands])) h
 | binOp op t x y t'=>exact ah3 hc hR ho (hx x (by simp [Op.operands])) (hx y (by simp [Op.operands])) h
 | unOp op t x=>exact ak1 hR ho (hx x (by simp [Op.operands])) h
 | convert s d x=>exact ad4 hc hR ho (hx x (by simp [Op.operands])) h
 | makeFunc fn first cap=>exact abM hR ho (λ x hm=>hx x (by simp only [Op.operands,Array.toList_append,List.mem_append]; exact .inr hm)) h
 | makeSlice t l c=>exact Z8 hc hR hn ho (hx l (by simp [Op.operands])) (hx c (by simp [Op.operands])) h
 | slice t x lo hi mx=>
  refine ah8 hc hR ho (hx x (by simp [Op.operands])) (λ y e=>hx y ?_) (λ y e=>hx y ?_) (λ y e=>hx y ?_) h
  ·subst e; simp [Op.operands]
  ·subst e; simp [Op.operands]
  ·subst e; simp [Op.operands]
 | fieldAddr s x f=>exact Z6 hc hR ho (hx x (by simp [Op.operands])) h
 | field s x f=>exact ah4 hc hR ho (hx x (by simp [Op.operands])) h
 | indexAddr t x ix=>exact Z7 hc hR ho (hx x (by simp [Op.operands])) (hx ix (by simp [Op.operands])) h
 | extract t i=>exact adT hR ho (hx t (by simp [Op.operands])) h
 | index t x ix=>exact aiw hc hR ho (hx x (by simp [Op.operands])) (hx ix (by simp [Op.operands])) h
 | makeMap t r=>
  cases r with
  | none=>exact aeh hR hn ho h
  | some r=>exact (fD.aZ h).elim
 | lookup t x ix ok=>exact agE hc hR ho (hx x (by simp [Op.operands])) (hx ix (by simp [Op.operands])) h
 | insert t x ix y=>exact PD hc hR (.inr ho) (hx x (by simp [Op.operands])) (hx ix (by simp [Op.operands])) (hx y (by simp [Op.operands])) h
 | mapUpdate t x ix y=>exact PD hc hR (.inl ho) (hx x (by simp [Op.operands])) (hx ix (by simp [Op.operands])) (hx y (by simp [Op.operands])) h
 | call c=>
  have acg:∀x∈c.args.toList,dZ w I O D (ρ x) (a.eval x):=λ x hm=>hx x (by simp only [Op.operands,Call.operands,Array.toList_append,List.mem_append]; exact .inr hm);cases hcl:c.callee with
  | value f=>exact alf hR hF ho hcl (hx f (by simp [Op.operands,Call.operands,hcl])) acg h
  | invoke x m=>simp only [gD,hcl] at h; exact (fD.aZ h).elim
  | builtin b=>
   cases b with
   | len=>exact anh hc hR ho hcl acg h
   | cap=>exact ang hc hR ho hcl acg h
   | append=>exact agw hc hR hn ho hcl acg h
   | copy=>exact ala hc hR ho hcl acg h
   | clear=>exact aio hc hR ho hcl acg h
   | min=>exact ani hR ho hcl acg h
   | max=>exact anj hR ho hcl acg h
   | _=>simp only [gD,hcl] at h; exact (fD.aZ h).elim
 | _=>exact (fD.aZ h).elim
end
end Go.Ab
namespace Go.Ab
structure TE where
 ex:Bool
 v:AV
 ups:jW
 xX:List Nat
def jw {α:Type} (T:Nat→α) (d:Option Nat) (v:α):Nat→α:=match d with
 | some k=>λ t=>if t=k then v else T t
 | none=>T
def isB (b:Bool):AV→Bool
 | .bool c=>c==b
 | _=>false
def jZ (all:List Oper) (T:Nat→AV) (V:Nat→Bool) (o:Oper):Bool:=match o.guard with
 | none=>true
 | some (j,b)=>match Tk all j with
  | some d=>V d&&isB b (T d)
  | none=>false
def lS (all:List Oper) (T:Nat→AV) (o:Oper):Prop:=match o.guard with
 | none=>True
 | some (j,_)=>∃d c,Tk all j=some d∧T d=.bool c
def Tr (cfg:uT) (Sp:ny) (all:List Oper) (nx:Nat):List Oper→Nat→(Nat→AV)→(Nat→Bool)→(Nat→Option dP)→List TE→Prop
 | [],_,_,_,_,[]=>True
 | o::rest,i,T,V,H,e::tr=>lS all T o∧e.ex=jZ all T V o∧(e.ex=true→fD Sp H (gD cfg (nx+stride*i) o.op (Vq cfg T)) e.v e.ups e.xX)∧(e.ex=false→e.ups=[])∧
   Tr cfg Sp all nx rest (i+1) (jw T o.dst e.v) (jw V o.dst e.ex) (lI H e.ups) tr
 | _,_,_,_,_,_=>False
section
variable {P:Program} {cfg:uT} {cx:Ctx} {N:Nat} {ds:List Deferred}
structure yh (N:Nat) (ds:List Deferred) (T:Nat→AV) (V:Nat→Bool) (a:Act) (w:World) (I:Nat→Prop) (O:OM) (D:Nat→Prop):Prop where
 defers:a.defers=ds
 size:a.tmps.size=N
 rep:∀t,V t=true→dZ w I O D (T t) (a.tmps.getD t Go.undef)
 gone:∀t,V t=false→a.tmps.getD t Go.undef=Go.undef
theorem iO (tm:Array Value) (d t:Nat) (x:Value) (h:d<tm.size):(tm.setIfInBounds d x).getD t Go.undef=if t=d then x else tm.getD t Go.undef:=by
 by_cases e:t=d
 ·subst e; simp [h]
 ·rw [if_neg e];have:d≠t:=λ h=>e h.symm;simp [Array.getElem?_setIfInBounds_ne this]
variable {T:Nat→AV} {V:Nat→Bool} {a:Act} {w:World} {I:Nat→Prop} {O:OM} {D:Nat→Prop}
theorem yh.put {w':World} {I':Nat→Prop} {O':OM} {D':Nat→Prop} (h:yh N ds T V a w I O D) (keep:∀u y,dZ w I O D u y→dZ w' I' O' D' u y) (d:Option Nat) (hd:∀k,d=some k→k<N)
  (v:AV) (x:Value) (ex:Bool) (hx:ex=true→dZ w' I' O' D' v x) (hx':ex=false→x=Go.undef):yh N ds (jw T d v) (jw V d ex) (a.put d x) w' I' O' D':=by
 cases d with
 | none=>exact ⟨h.defers,h.size,λ t ht=>keep _ _ (h.rep t ht),h.gone⟩
 | some k=>
  have hk:=hd k rfl;have hs:=h.size;refine ⟨h.defers,by simp [Act.put,hs],λ t ht=>?_,λ t ht=>?_⟩
  ·show dZ _ _ _ _ (if t=k then v else T t) ((a.tmps.setIfInBounds k x).getD t Go.undef);rw [iO _ _ _ _ om];simp only [jw] at ht;by_cases e:t=k
   ·rw [if_pos e,if_pos e]; exact hx (by simpa [e] using ht)
   ·rw [if_neg e,if_neg e]; exact keep _ _ (h.rep t (by simpa [e] using ht))
  ·show (a.tmps.setIfInBounds k x).getD t Go.undef=_;rw [iO _ _ _ _ om];simp only [jw] at ht;by_cases e:t=k
   ·rw [if_pos e]; exact hx' (by simpa [e] using ht)
   ·rw [if_neg e]; exact h.gone t (by simpa [e] using ht)
variable {H:Nat→Option dP}
theorem uj (hR:Rel cfg cx H D w I O) (hT:yh N ds T V a w I O D) (x:Operand) (hv:∀t,x=.tmp t→V t=true):dZ w I O D (Vq cfg T x) (a.eval x):=by
 cases x with
 | tmp t=>exact hT.rep t (hv t rfl)
 | const c=>exact adR c
 | global g=>
  simp only [Vq,Act.eval];cases hg:look cfg.glob g with
  | some cs=>exact .pure (hR.glob g cs hg)
  | none=>exact .pure (.undef _)
 | func f=>exact .pure (.fn (by simp) (λ j hj=>by simp at hj))
def CY (T:Nat→AV) (V:Nat→Bool) (op:Op):Prop:=match op with
 | .pick c x y=>(∀t,c=.tmp t→V t=true)∧(aai T c=some true→∀t,x=.tmp t→V t=true)∧(aai T c=some false→∀t,y=.tmp t→V t=true)
 | op=>∀t,Operand.tmp t∈op.operands.toList→V t=true
 where aai (T:Nat→AV):Operand→Option Bool
 | .tmp t=>match T t with | .bool b=>some b | _=>none
 | .const (.bool b)=>some b
 | _=>none
theorem aaj {k:Value} {b:Bool} (h:ofConst k=.bool b):k=.bool b:=by
 unfold ofConst at h;split at h<;>first | (cases h; rfl) | cases h
theorem aiB (hR:Rel cfg cx H D w I O) (hT:yh N ds T V a w I O D) {op:Op} (h:CY T V op):amA w I O D a (Vq cfg T) op:=by
 have hb:∀(c:Operand) (b:Bool),Vq cfg T c=.bool b→CY.aai T c=some b:=by
  intro c b e;cases c with
  | tmp t=>simp only [Vq] at e; simp [CY.aai,e]
  | const k=>simp only [Vq] at e; rw [aaj e]; rfl
  | global g=>simp only [Vq] at e; split at e<;>cases e
  | func f=>cases e
 cases op with
 | pick c x y=>
  obtain ⟨h1,h2,h3⟩:=h;exact ⟨uj hR hT c h1,λ b e e'=>uj hR hT x (h2 (by rw [hb c b e,e'])),λ b e e'=>uj hR hT y (h3 (by rw [hb c b e,e']))⟩
 | _=>exact λ x hx=>uj hR hT x (λ t e=>h t (e ▸ hx))
theorem agF (hc:gL P cfg) {H:Nat→Option dP} {D:Nat→Prop} {w:World} {I:Nat→Prop} {O:OM} {T:Nat→AV} {V:Nat→Bool} {a:Act} {dN:Nat} {o:Oper} {v:AV} {ups:jW} {xX:List Nat}
  (hR:Rel cfg cx H D w I O) (hT:yh N ds T V a w I O D) (hn:VY D dN) (hval:CY T V o.op) (hd:∀k,o.dst=some k→k<N) (hev:fD (Spec P cfg) H (gD cfg dN o.op (Vq cfg T)) v ups xX)
  {next:Act→World→Prop} {Q:Exit→Act→World→Prop} (hnx:∀a' w' I' O',Rel cfg cx (lI H ups) (AY D dN) w' I' O'→yh N ds (jw T o.dst v) (jw V o.dst true) a' w' I' O' (AY D dN)→next a' w'):o.wp P a w next Q:=by
 refine aiz hc hR hn (λ _=>rfl) (aiB hR hT hval) hev next Q λ x w' I' O' hR' hk hv=>hnx _ w' I' O' hR' (hT.put hk o.dst hd v x true (λ _=>hv) (λ h=>by cases h))
theorem Wo (l:List Oper) (j:Nat):Y1 l j=l[j]? := by
 induction l generalizing j with
 | nil=>rfl
 | cons o l ih=>cases j with
  | zero=>rfl
  | succ j=>simpa [Y1] using ih j
theorem agG {ops:Array Oper} (hT:yh N ds T V a w I O D) (o:Oper) (hg:lS ops.toList T o):Region.wanted o (yielded ops a.tmps)=jZ ops.toList T V o:=by
 unfold Region.wanted jZ;unfold lS at hg;cases hgu:o.guard with
 | none=>rfl
 | some g=>
  obtain ⟨j,b⟩:=g;rw [hgu] at hg;simp only at hg;obtain ⟨d,c,h1,h2⟩:=hg;simp only [h1,h2,isB];have hd:((ops[j]?).bind (·.dst))=some d:=by
   unfold Tk at h1;rw [Wo] at h1;have e:ops.toList[j]? = ops[j]? := by simp
   rw [e] at h1;cases ho:ops[j]? with
   | none=>rw [ho] at h1; cases h1
   | some o'=>rw [ho] at h1; simpa using h1
  have hy:yielded ops a.tmps j=if V d then some c else none:=by
   unfold yielded;rw [hd];simp only [Option.bind_some];cases hv:V d with
   | true=>
    have:=hT.rep d hv;rw [h2] at this;have hx:=this.kL;rcases Nat.lt_or_ge d a.tmps.size with hlt | hge
    ·simp [hlt] at hx; simp [hlt,hx]
    ·simp [Array.getElem?_eq_none hge,Go.undef] at hx
   | false=>
    have:=hT.gone d hv;rcases Nat.lt_or_ge d a.tmps.size with hlt | hge
    ·simp [hlt] at this; simp [hlt,this,Go.undef]
    ·simp [Array.getElem?_eq_none hge]
  rw [hy];cases V d<;>simp
theorem RO (t:Nat):∀(l:List Oper) (i k:Nat),k∈tZ t l i↔∃o,i≤k∧l[k - i]? = some o∧o.dst=some t:=by
 intro l;induction l with
 | nil=>intro i k; simp [tZ]
 | cons o l ih=>
  intro i k;have hd:afj o.dst t=true↔o.dst=some t:=by
   unfold afj;cases o.dst with
   | none=>simp
   | some x=>simp
  unfold tZ;cases hb:afj o.dst t with
  | true=>
   simp only [List.mem_cons,ih];constructor
   ·rintro (h | ⟨o',h1,h2,h3⟩)
    ·subst h; exact ⟨o,Nat.le_refl _,by simp,hd.1 hb⟩
    ·refine ⟨o',by omega,?_,h3⟩;have:k - i=(k - (i+1))+1:=by omega
     rw [this]; simpa using h2
   ·rintro ⟨o',h1,h2,h3⟩;by_cases hk:k=i
    ·exact .inl hk
    ·refine .inr ⟨o',by omega,?_,h3⟩;have:k - i=(k - (i+1))+1:=by omega
     rw [this] at h2; simpa using h2
  | false=>
   simp only [ih];constructor
   ·rintro ⟨o',h1,h2,h3⟩;refine ⟨o',by omega,?_,h3⟩;have:k - i=(k - (i+1))+1:=by omega
    rw [this]; simpa using h2
   ·rintro ⟨o',h1,h2,h3⟩;by_cases hk:k=i
    ·subst hk;simp at h2;subst h2;rw [hd.2 h3] at hb;cases hb
    ·refine ⟨o',by omega,?_,h3⟩;have:k - i=(k - (i+1))+1:=by omega
     rw [this] at h2; simpa using h2
theorem u7 (all:List Oper) (t k:Nat):k∈writers all t↔∃o,all[k]? = some o∧o.dst=some t:=by
 unfold writers;rw [RO];simp
structure Known (all:List Oper) (k:Nat) (T:Nat→AV) (V:Nat→Bool) (ex:Nat→Bool) (val:Nat→AV):Prop where
 one:∀i t,i<k→writers all t=[i]→V t=ex i∧T t=val i
 free:∀t,(∀i,i<k→i∈writers all t→VQ all i=none)→V t=true
 guard:∀i j b,i<k→VQ all i=some (j,b)→j<i∧ex i=(ex j&&isB b (val j))
variable {all:List Oper}
theorem Known.chain {k:Nat} {ex:Nat→Bool} {val:Nat→AV} (hK:Known all k T V ex val):∀(f:Nat) (g:Option (Nat×Bool)),(∀j b,g=some (j,b)→j<k∧ex j=true∧isB b (val j)=true)→
  ∀j b,akT j b (Ab.chain all f g)=true→j<k∧ex j=true∧isB b (val j)=true:=by
 intro f;induction f with
 | zero=>intro g _ j b h; cases h
 | succ f ih=>
  intro g hg j b h;cases g with
  | none=>cases h
  | some g=>
   obtain ⟨j',b'⟩:=g;obtain ⟨h1,h2,h3⟩:=hg j' b' rfl;simp only [Ab.chain,akT] at h;split at h
   ·rename_i e1 e2;have e1:=Nat.eq_of_beq_eq_true e1;subst e1;have:b=b':=by cases b<;>cases b'<;>simp [eqB] at e2<;>rfl
    subst this;exact ⟨h1,h2,h3⟩
   ·refine ih _ (λ j2 b2 e=>?_) j b h;obtain ⟨q1,q2⟩:=hK.guard j' j2 b2 h1 e;rw [h2] at q2;simp at q2;exact ⟨by omega,q2.1,q2.2⟩
theorem aak {l:List Nat} (h:Vr all l=true):∀i∈l,VQ all i=none:=by
 induction l with
 | nil=>intro i hi; cases hi
 | cons x l ih=>
  intro i hi;unfold Vr at h;cases hg:VQ all x with
  | some g=>simp [hg] at h
  | none=>
   simp only [hg] at h;rcases List.mem_cons.1 hi with e | e
   ·subst e; exact hg
   ·exact ih h i e
theorem PE {k:Nat} {ex:Nat→Bool} {val:Nat→AV} (hK:Known all k T V ex val) {g:Option (Nat×Bool)} (hg:∀j b,g=some (j,b)→j<k∧ex j=true∧isB b (val j)=true) {t:Nat} (h:ZY all k g t=true):V t=true:=by
 unfold ZY at h;split at h
 ·rename_i i hw;cases hgi:VQ all i with
  | none=>exact hK.free t λ i' _ hi'=>by rw [hw] at hi'; simp at hi'; subst hi'; exact hgi
  | some q=>
   obtain ⟨j,b⟩:=q;simp only [hgi] at h;cases hlt:Nat.blt i k with
   | false=>simp [hlt] at h
   | true=>
    simp only [hlt] at h;have hik:i<k:=by simpa using hlt
    obtain ⟨h1,h2,h3⟩:=hK.chain 20 g hg j b h;rw [(hK.one i t hik hw).1,(hK.guard i j b hik hgi).2,h2,h3];rfl
 ·exact hK.free t λ i _ hi=>aak h i hi
end
end Go.Ab
namespace Go.Ab
section
variable {P:Program} {cfg:uT} {cx:Ctx} {N:Nat}
variable {all:List Oper}
theorem Ox {N:Nat} :∀(l:List Oper) (i:Nat),qA N all l i=true→∀k o,l[k]? = some o→abJ all (i+k) o=true∧∀d,o.dst=some d→d<N:=by
 intro l;induction l with
 | nil=>intro i _ k o h; simp at h
 | cons x l ih=>
  intro i h k o hk;unfold qA at h;split at h
  ·rename_i h1 h2;cases k with
   | zero=>
    simp at hk;subst hk;refine ⟨h1,λ d hd=>?_⟩;rw [hd] at h2;simpa using h2
   | succ k=>
    have:=ih (i+1) h k o (by simpa using hk);rwa [Nat.add_assoc,Nat.add_comm 1 k] at this
  ·cases h
variable {T:Nat→AV} {V:Nat→Bool} {ex:Nat→Bool} {val:Nat→AV}
theorem Tx {k:Nat} (hK:Known all k T V ex val) {o:Oper} (hok:abJ all k o=true):
  (jZ all T V o=true→∀j b,o.guard=some (j,b)→j<k∧ex j=true∧isB b (val j)=true)∧(∀j b,o.guard=some (j,b)→j<k∧jZ all T V o=(ex j&&isB b (val j))):=by
 have key:∀j b,o.guard=some (j,b)→j<k∧jZ all T V o=(ex j&&isB b (val j)):=by
  intro j b hg;unfold abJ at hok;rw [hg] at hok;simp only at hok;split at hok
  ·rename_i h1;split at h1
   ·rename_i hlt;split at h1
    ·rename_i d hd;split at h1
     ·rename_i j' hw;have hjk:j<k:=by simpa using hlt
      have e:=Nat.eq_of_beq_eq_true h1;subst e;refine ⟨hjk,?_⟩;obtain ⟨q1,q2⟩:=hK.one j' d hjk hw;unfold jZ;rw [hg];simp only [hd];rw [q1,q2]
     ·cases h1
    ·cases h1
   ·cases h1
  ·cases hok
 refine ⟨λ h j b hg=>?_,key⟩;obtain ⟨h1,h2⟩:=key j b hg;rw [h] at h2;have:=h2.symm;simp at this;exact ⟨h1,this.1,this.2⟩
theorem aej {k:Nat} (hK:Known all k T V ex val) {o:Oper} (hok:abJ all k o=true) (hg:jZ all T V o=true):CY T V o.op:=by
 have hgs:=(Tx hK hok).1 hg;have apR:∀x,Mk all k o.guard x=true→∀t,x=.tmp t→V t=true:=by
  intro x h t e;subst e;exact PE hK hgs h
 unfold abJ at hok;split at hok
 ·split at hok
  ·rename_i c x y hop;rw [hop];split at hok
   ·rename_i hc hx;have hcv:=apR c hc;have arm:∀(pol:Bool) (z:Operand),afk all k o.guard c pol z=true→CY.aai T c=some pol→∀t,z=.tmp t→V t=true:=by
     intro pol z hz hb t e;subst e;unfold afk at hz;simp only at hz;split at hz
     ·rename_i hr;exact PE hK hgs hr
     ·split at hz
      ·rename_i ct i hwt;split at hz
       ·rename_i j b jc hgi hwc hlt;split at hz
        ·rename_i e1 e2;have e1:=Nat.eq_of_beq_eq_true e1;subst e1;have hik:i<k:=by simpa using hlt
         have hjk:j<k:=by simpa using e2
         obtain ⟨q1,q2⟩:=hK.one i t hik hwt;obtain ⟨q3,q4⟩:=hK.one j ct hjk hwc;have q5:=(hK.guard i j b hik hgi).2;have hbp:b=pol:=by cases b<;>cases pol<;>simp [eqB] at hz<;>rfl
         subst hbp;have hT:T ct=.bool b:=by
          simp only [CY.aai] at hb;split at hb
          ·rename_i b' hb'; cases hb; exact hb'
          ·cases hb
         rw [q1,q5,← q3,hcv ct rfl,← q4,hT];simp [isB]
        ·cases hz
       ·cases hz
      ·cases hz
    exact ⟨hcv,arm true x hx,arm false y hok⟩
   ·cases hok
  ·rename_i hnp;have hall:∀(l:List Operand),Gr all k o.guard l=true→∀x∈l,Mk all k o.guard x=true:=by
    intro l;induction l with
    | nil=>intro _ x hx; cases hx
    | cons y l ih=>
     intro h x hx;unfold Gr at h;split at h
     ·rename_i hy;rcases List.mem_cons.1 hx with e | e
      ·subst e; exact hy
      ·exact ih h x e
     ·cases h
   have main:∀t,Operand.tmp t∈o.op.operands.toList→V t=true:=λ t ht=>apR _ (hall _ hok _ ht) t rfl;unfold CY;split
   ·rename_i c x y hop;exact absurd hop (hnp c x y)
   ·exact main
 ·cases hok
theorem Known.step {k:Nat} (hK:Known all k T V ex val) {o:Oper} (hk:all[k]? = some o) (hok:abJ all k o=true) (e:TE) (he:e.ex=jZ all T V o):
  Known all (k+1) (jw T o.dst e.v) (jw V o.dst e.ex) (λ i=>if i=k then e.ex else ex i) (λ i=>if i=k then e.v else val i):=by
 have hgl:VQ all k=o.guard:=by unfold VQ; rw [Wo,hk]
 have upd:∀ {α:Type} (F:Nat→α) (x:α) (t:Nat),jw F o.dst x t=if o.dst=some t then x else F t:=by
  intro α F x t;unfold jw;cases hd:o.dst with
  | none=>simp
  | some d=>
   by_cases h:t=d
   ·subst h; simp
   ·have:¬ d=t:=λ e=>h e.symm;simp [h,this]
 refine ⟨λ i t hi hw=>?_,λ t ht=>?_,λ i j b hi hg=>?_⟩
 ·rw [upd,upd];by_cases hik:i=k
  ·subst hik;have:i∈writers all t:=by rw [hw]; simp
   obtain ⟨o',h1,h2⟩:=(u7 all t i).1 this;rw [hk] at h1;cases h1;simp [h2]
  ·have hne:¬ o.dst=some t:=λ h=>by
    have:k∈writers all t:=(u7 all t k).2 ⟨o,hk,h⟩;rw [hw] at this;simp at this;omega
   simp only [if_neg hne,if_neg hik];exact hK.one i t om hw
 ·rw [upd];by_cases hd:o.dst=some t
  ·rw [if_pos hd,he];have:=ht k om ((u7 all t k).2 ⟨o,hk,hd⟩);rw [hgl] at this;unfold jZ;rw [this]
  ·rw [if_neg hd];exact hK.free t λ i hi hw=>ht i om hw
 ·by_cases hik:i=k
  ·subst hik;rw [hgl] at hg;obtain ⟨h1,h2⟩:=(Tx hK hok).2 j b hg;refine ⟨h1,?_⟩;rw [if_pos rfl,if_neg om,if_neg om,he,h2]
  ·obtain ⟨h1,h2⟩:=hK.guard i j b om hg;refine ⟨h1,?_⟩;rw [if_neg hik,if_neg om,if_neg om,h2]
section sel
variable {α:Type} (wr:Nat→Nat→Bool) (g:Nat→Nat→α)
def sel (p:Nat→Bool):Nat→(Nat→α)→Nat→α
 | 0,F,t=>F t
 | m+1,F,t=>if p m&&wr m t then g m t else sel p m F t
theorem Wp (p:Nat→Bool) (m:Nat) (F:Nat→α) (t:Nat):sel wr g p (m+1) F t=if p m&&wr m t then g m t else sel wr g p m F t:=rfl
theorem EM (p q:Nat→Bool) (F:Nat→α) (t:Nat):∀m,(∀k,k<m→wr k t=true→p k=q k)→sel wr g p m F t=sel wr g q m F t:=by
 intro m;induction m with
 | zero=>intro _; rfl
 | succ m ih=>
  intro h;unfold sel;rw [ih λ k hk=>h k om];cases hw:wr m t with
  | false=>simp
  | true=>rw [h m om hw]
theorem qD (F:Nat→α) (t k:Nat):∀m,k≤m→sel wr g (λ j=>decide (j<k)) m F t=sel wr g (λ _=>true) k F t:=by
 intro m;induction m with
 | zero=>
  intro h; have:k=0:=by omega
  subst this; rfl
 | succ m ih=>
  intro h;by_cases hk:k=m+1
  ·subst hk;exact EM wr g _ _ F t _ λ j hj _=>by simp [hj]
  ·rw [Wp,ih om];simp [show ¬ m<k by omega]
theorem aal (p:Nat→Bool) (F:Nat→α) (t i:Nat) (hi:wr i t=true→∀k,i<k→p k=true→wr k t=false):∀m,i<m→sel wr g (λ j=>p j||decide (j=i)) m F t=if wr i t then g i t else sel wr g p m F t:=by
 intro m;induction m with
 | zero=>intro h; omega
 | succ m ih=>
  intro h;by_cases him:i=m
  ·subst him;unfold sel;have e:sel wr g (λ j=>p j||decide (j=i)) i F t=sel wr g p i F t:=EM wr g _ _ F t _ λ j hj _=>by simp [show ¬ j=i by omega]
   rw [e];cases hw:wr i t with
   | true=>simp
   | false=>simp
  ·have:=ih om;unfold sel;rw [this];cases hw:wr i t with
   | true=>
    have hne:¬ m=i:=λ e=>him e.symm;simp only [hne,decide_false,Bool.or_false,if_true];cases hp:p m with
    | false=>simp
    | true=>simp [hi hw m om hp]
   | false=>
    have hne:¬ m=i:=λ e=>him e.symm;simp [hne]
end sel
end
end Go.Ab
namespace Go.Ab
section
variable {P:Program} {cfg:uT} {cx:Ctx} {N:Nat} {ds:List Deferred}
def wrT (all:List Oper) (k t:Nat):Bool:=match all[k]? with
 | some o=>decide (o.dst=some t)
 | none=>false
def wrH (ent:Nat→TE) (k o:Nat):Bool:=(look (ent k).ups o).isSome
def gH (ent:Nat→TE) (k o:Nat):Option dP:=match look (ent k).ups o with
 | some x=>x
 | none=>none
def EN (all:List Oper) (ent:Nat→TE) (p:Nat→Bool) (m:Nat) (T0:Nat→AV):Nat→AV:=sel (wrT all) (λ k _=>(ent k).v) p m T0
def MO (all:List Oper) (ent:Nat→TE) (p:Nat→Bool) (m:Nat):Nat→Bool:=sel (wrT all) (λ k _=>(ent k).ex) p m (λ _=>true)
def Pe (ent:Nat→TE) (p:Nat→Bool) (m:Nat) (H0:Nat→Option dP):Nat→Option dP:=sel (wrH ent) (gH ent) p m H0
def yes:Nat→Bool:=λ _=>true
def TrI (cfg:uT) (Sp:ny) (all:List Oper) (nx:Nat) (T0:Nat→AV) (H0:Nat→Option dP) (ent:Nat→TE):Prop:=
 ∀k o,all[k]? = some o→lS all (EN all ent yes k T0) o∧(ent k).ex=jZ all (EN all ent yes k T0) (MO all ent yes k) o∧
  ((ent k).ex=true→fD Sp (Pe ent yes k H0) (gD cfg (nx+stride*k) o.op (Vq cfg (EN all ent yes k T0))) (ent k).v (ent k).ups (ent k).xX)∧((ent k).ex=false→(ent k).ups=[])
variable {all:List Oper}
theorem Ms {α:Type} {o:Oper} {k:Nat} (hk:all[k]? = some o) (g:Nat→Nat→α) (p:Nat→Bool) (hp:p k=true) (F:Nat→α) (v:α) (hg:∀t,g k t=v):jw (sel (wrT all) g p k F) o.dst v=sel (wrT all) g p (k+1) F:=by
 funext t;have hw:wrT all k t=decide (o.dst=some t):=by unfold wrT; rw [hk]
 rw [Wp,hp,hg,hw];cases hd:o.dst with
 | none=>simp [jw]
 | some d=>
  by_cases h:t=d
  ·subst h; simp [jw]
  ·have:¬ d=t:=λ e=>h e.symm;simp [jw,h,this]
variable {ent:Nat→TE}
theorem ach {k:Nat} (p:Nat→Bool) (hp:p k=true) (H:Nat→Option dP):lI (sel (wrH ent) (gH ent) p k H) (ent k).ups=sel (wrH ent) (gH ent) p (k+1) H:=by
 funext o;have hw:wrH ent k o=(look (ent k).ups o).isSome:=rfl;have hg:gH ent k o=match look (ent k).ups o with | some x=>x | none=>none:=rfl
 rw [Wp,hp,hw,hg];unfold lI;cases look (ent k).ups o<;>simp
theorem TrI.alg {Sp:ny} {nx:Nat} {T0:Nat→AV} {H0:Nat→Option dP} :∀(rest:List Oper) (i:Nat) (tr:List TE),(∀j,rest[j]? = all[i+j]?)→(∀j e,tr[j]? = some e→ent (i+j)=e)→
  Tr cfg Sp all nx rest i (EN all ent yes i T0) (MO all ent yes i) (Pe ent yes i H0) tr→∀k o,i≤k→all[k]? = some o→lS all (EN all ent yes k T0) o∧(ent k).ex=jZ all (EN all ent yes k T0) (MO all ent yes k) o∧
  ((ent k).ex=true→fD Sp (Pe ent yes k H0) (gD cfg (nx+stride*k) o.op (Vq cfg (EN all ent yes k T0))) (ent k).v (ent k).ups (ent k).xX)∧((ent k).ex=false→(ent k).ups=[]):=by
 intro rest;induction rest with
 | nil=>
  intro i tr hr _ _ k o hik hk;have:=hr (k - i);rw [show i+(k - i)=k by omega,hk] at this;simp at this
 | cons x rest ih=>
  intro i tr hr he h k o hik hk;cases tr with
  | nil=>exact h.elim
  | cons e tr=>
   obtain ⟨h1,h2,h3,h4,h5⟩:=h;have hx:all[i]? = some x:=by simpa using (hr 0).symm
   have he0:ent i=e:=by simpa using he 0 e rfl
   by_cases hki:k=i
   ·subst hki;rw [hx] at hk;cases hk;subst he0;exact ⟨h1,h2,h3,h4⟩
   ·subst he0;have e1:jw (EN all ent yes i T0) x.dst (ent i).v=EN all ent yes (i+1) T0:=Ms hx _ yes rfl T0 _ λ _=>rfl;have e2:jw (MO all ent yes i) x.dst (ent i).ex=MO all ent yes (i+1):=Ms hx _ yes rfl _ _ λ _=>rfl;have e3:lI (Pe ent yes i H0) (ent i).ups=Pe ent yes (i+1) H0:=ach yes rfl H0;rw [e1,e2,e3] at h5;refine ih (i+1) tr (λ j=>?_) (λ j e' hj=>?_) h5 k o om hk
    ·have:=hr (j+1);rw [show i+(j+1)=i+1+j by omega] at this;simpa using this
    ·have:=he (j+1) e' (by simpa using hj);rwa [show i+(j+1)=i+1+j by omega] at this
theorem TrI.known {Sp:ny} {nx:Nat} {T0:Nat→AV} {H0:Nat→Option dP} (h:TrI cfg Sp all nx T0 H0 ent) {N:Nat} (hok:qA N all all 0=true):∀k,k≤all.length→Known all k (EN all ent yes k T0) (MO all ent yes k) (λ i=>(ent i).ex) (λ i=>(ent i).v):=by
 intro k;induction k with
 | zero=>exact λ _=>⟨λ i t hi=>by omega,λ t _=>rfl,λ i j b hi=>by omega⟩
 | succ k ih=>
  intro hk;have hlt:k<all.length:=by omega
  have hx:all[k]? = some all[k]:=List.getElem?_eq_getElem hlt;obtain ⟨h1,h2,_,_⟩:=h k _ hx;have hop:=(Ox all 0 hok k _ hx).1;rw [Nat.zero_add] at hop;have:=(ih om).step hx hop (ent k) h2;have e1:jw (EN all ent yes k T0) (all[k]).dst (ent k).v=EN all ent yes (k+1) T0:=Ms hx _ yes rfl T0 _ λ _=>rfl;have e2:jw (MO all ent yes k) (all[k]).dst (ent k).ex=MO all ent yes (k+1):=Ms hx _ yes rfl _ _ λ _=>rfl;rw [e1,e2] at this;have e4:(λ i=>if i=k then (ent k).ex else (ent i).ex)=λ i=>(ent i).ex:=by
   funext i;by_cases hi:i=k<;>simp [hi]
  have e5:(λ i=>if i=k then (ent k).v else (ent i).v)=λ i=>(ent i).v:=by
   funext i;by_cases hi:i=k<;>simp [hi]
  rw [e4,e5] at this;exact this
def Dat (nx m:Nat) (p:Nat→Bool):Nat→Prop:=λ o=>o<nx∨∃k,k<m∧p k=true∧nx+stride*k≤o∧o<nx+stride*k+stride
variable {H:Nat→Option dP}
theorem Rel.EO {D D':Nat→Prop} {w:World} {I:Nat→Prop} {O:OM} (h:∀o,D o→D' o) (hR:Rel cfg cx H D w I O):Rel cfg cx H D' w I O:=
 { hR with
  used:=λ o p hp=>h o (hR.used o p hp)
  objs:=λ o ob p h1 h2=>(hR.objs o ob p h1 h2).mono (λ _ h=>h) (λ _ _=>rfl) (λ _ _=>.inl rfl) h hR.used (λ _ _ _ _=>rfl)
  Dm:=λ o ho=>h o (hR.Dm o ho) }
theorem yh.EO {D D':Nat→Prop} {w:World} {I:Nat→Prop} {O:OM} {T:Nat→AV} {V:Nat→Bool} {a:Act} (h:∀o,D o→D' o) (hR:Rel cfg cx H D w I O) (hT:yh N ds T V a w I O D):yh N ds T V a w I O D':=
 ⟨hT.defers,hT.size,λ t ht=>(hT.rep t ht).mono (λ _ h=>h) (λ _ _=>rfl) (λ _ _=>.inl rfl) h hR.used,hT.gone⟩
theorem aci {T T':Nat→AV} {V V':Nat→Bool} {op:Op} (h:∀t,Operand.tmp t∈op.operands.toList→T' t=T t∧V' t=V t) (hv:CY T V op):CY T' V' op:=by
 cases op with
 | pick c x y=>
  obtain ⟨h1,h2,h3⟩:=hv;have hc:CY.aai T' c=CY.aai T c:=by
   cases c with
   | tmp t=>simp only [CY.aai]; rw [(h t (by simp [Op.operands])).1]
   | const k=>cases k<;>rfl
   | _=>rfl
  refine ⟨λ t e=>?_,λ hb t e=>?_,λ hb t e=>?_⟩
  ·rw [(h t (by subst e; simp [Op.operands])).2]; exact h1 t e
  ·rw [(h t (by subst e; simp [Op.operands])).2]; rw [hc] at hb; exact h2 hb t e
  ·rw [(h t (by subst e; simp [Op.operands])).2]; rw [hc] at hb; exact h3 hb t e
 | _=>exact λ t ht=>by rw [(h t ht).2]; exact hv t ht
theorem fD.anx {Sp:ny} {H':Nat→Option dP} {pg:Pg} {v:AV} {ups:jW} {r:List Nat} (h:fD Sp H pg v ups r):(∀o,o∈r→H' o=H o)→fD Sp H' pg v ups r:=by
 induction h with
 | ret v ups=>exact λ _=>.ret v ups
 | need hp _ ih=>exact λ hr=>.need hp (ih hr)
 | rd ho _ ih=>exact λ hr=>.rd ((hr _ (by simp)).trans ho) (ih λ o ho=>hr o (List.mem_cons_of_mem _ ho))
 | call hs _ ih=>exact λ hr=>.call hs (ih hr)
theorem aek {dN:Nat} {op:Op} {ρ ρ':Operand→AV} (h:∀x∈op.operands.toList,ρ' x=ρ x):gD cfg dN op ρ'=gD cfg dN op ρ:=by
 have pairs:∀ps:List (Nat×Operand),(∀p∈ps,ρ' p.2=ρ p.2)→(ps.map λ p=>(p.1,ρ' p.2))=ps.map λ p=>(p.1,ρ p.2):=λ ps hp=>List.map_congr_left λ p hm=>by rw [hp p hm]
 cases op with
 | move x=>simp only [gD]; rw [h x (by simp [Op.operands])]
 | assign x=>simp only [gD]; rw [h x (by simp [Op.operands])]
 | pick c x y=>simp only [gD]; rw [h x (by simp [Op.operands]),h y (by simp [Op.operands]),h c (by simp [Op.operands])]
 | box t x=>simp only [gD]; rw [h x (by simp [Op.operands])]
 | build t parts=>simp only [gD]; rw [pairs parts.toList λ p hp=>h p.2 (by simp only [Op.operands,List.mem_map]; exact ⟨p,hp,rfl⟩)]
 | buildSlice t len parts=>simp only [gD]; rw [pairs parts.toList λ p hp=>h p.2 (by simp only [Op.operands,List.mem_map]; exact ⟨p,hp,rfl⟩)]
 | load t x=>simp only [gD]; rw [h x (by simp [Op.operands])]
 | store t x y=>simp only [gD]; rw [h x (by simp [Op.operands]),h y (by simp [Op.operands])]
 | nilCheck x=>simp only [gD]; rw [h x (by simp [Op.operands])]
 | binOp op t x y t'=>simp only [gD]; rw [h x (by simp [Op.operands]),h y (by simp [Op.operands])]
 | unOp op t x=>simp only [gD]; rw [h x (by simp [Op.operands])]
 | convert s d x=>simp only [gD]; rw [h x (by simp [Op.operands])]
 | makeFunc fn first cap=>
  simp only [gD];have:cap.toList.map ρ'=cap.toList.map ρ:=List.map_congr_left λ x hx=>h x (by simp only [Op.operands,Array.toList_append,List.mem_append]; exact .inr hx);rw [this]
 | makeSlice t l c=>simp only [gD]; rw [h l (by simp [Op.operands]),h c (by simp [Op.operands])]
 | slice t x lo hi mx=>
  have h1:lo.map ρ'=lo.map ρ:=by
   cases lo with
   | none=>rfl
   | some y=>simp only [Option.map_some]; rw [h y (by simp [Op.operands])]
  have h2:hi.map ρ'=hi.map ρ:=by
   cases hi with
   | none=>rfl
   | some y=>simp only [Option.map_some]; rw [h y (by simp [Op.operands])]
  have h3:∀k,agj ρ' hi mx k=agj ρ hi mx k:=λ k=>by
   unfold agj;cases mx with
   | none=>rfl
   | some m=>cases hi with
    | none=>rfl
    | some y=>
     simp only
     rw [h y (by simp [Op.operands]),h m (by simp [Op.operands])]
  have h4:mx.map ρ'=mx.map ρ:=by
   cases mx with
   | none=>rfl
   | some y=>simp only [Option.map_some]; rw [h y (by simp [Op.operands])]
  simp only [gD];rw [h x (by simp [Op.operands]),h1,h2,h4];simp only [h3]
 | fieldAddr s x f=>simp only [gD]; rw [h x (by simp [Op.operands])]
 | field s x f=>simp only [gD]; rw [h x (by simp [Op.operands])]
 | indexAddr t x ix=>simp only [gD]; rw [h x (by simp [Op.operands]),h ix (by simp [Op.operands])]
 | extract t i=>simp only [gD]; rw [h t (by simp [Op.operands])]
 | index t x ix=>simp only [gD]; rw [h x (by simp [Op.operands]),h ix (by simp [Op.operands])]
 | makeMap t r=>cases r<;>rfl
 | lookup t x ix ok=>simp only [gD]; rw [h x (by simp [Op.operands]),h ix (by simp [Op.operands])]
 | insert t x ix y=>simp only [gD]; rw [h x (by simp [Op.operands]),h ix (by simp [Op.operands]),h y (by simp [Op.operands])]
 | mapUpdate t x ix y=>simp only [gD]; rw [h x (by simp [Op.operands]),h ix (by simp [Op.operands]),h y (by simp [Op.operands])]
 | call c=>
  have h1:c.args.toList.map ρ'=c.args.toList.map ρ:=List.map_congr_left λ x hx=>h x (by simp only [Op.operands,Call.operands,Array.toList_append,List.mem_append]; exact .inr hx);simp only [gD];rw [h1];cases hc:c.callee with
  | value f=>simp only; rw [h f (by simp [Op.operands,Call.operands,hc])]
  | builtin b=>cases b<;>rfl
  | invoke x m=>rfl
 | _=>rfl
end
end Go.Ab
namespace Go.Ab
section
variable {P:Program} {cfg:uT} {cx:Ctx} {N:Nat} {ds:List Deferred}
def FW (r:Option Nat):Fence:={ Fence.wide with round:=r }
variable {r:Option Nat}
theorem Oy {n:Nat} {f:FuncId} {args:Array Value} {w:World} {R:Ending→World→Prop} (h:Calls P f args w R):CallsIn (FW r) n P f args w R:=(callsIn_wide (n:=n)).2 h
theorem agH {n:Nat} {row:String} {args:Array Value} {w:World} {R:Value→World→Prop} (h:Rows P row args w R):RowsIn (FW r) n P row args w R:=by
 intro c cs _;obtain ⟨v,w',h1,h2⟩:=h c cs;exact ⟨v,w',h1,stepsIn_wide.2 h2⟩
theorem aam {n:Nat} {o:Oper} {a:Act} {w:World} {K:Act→World→Prop} {Q:Exit→Act→World→Prop} (ho:∀c,o.op≠.defer c) (h:o.wp P a w K Q):o.wpIn (FW r) n P a w K Q:=by
 refine ⟨λ _ _=>trivial,?_⟩;rw [Oper.semAt_eq _ _ _ ho];unfold Oper.wp at h;generalize (execOp a.eval o).run P w=res at h;cases res with
 | ok x w'=>
  cases x with
  | value v=>exact h
  | skip=>exact h
  | defer d=>exact h
  | enter f args=>exact ⟨(λ h=>by cases h),Oy h⟩
  | row s args=>exact ⟨(λ h=>by cases h),agH h⟩
  | _=>exact h.elim
 | halt x w'=>
  cases x with
  | panic v=>exact h
  | _=>exact h.elim
theorem acj (hc:gL P cfg) {r:Option Nat} {n0:Nat} {ops:Array Oper} {nx:Nat} {T0:Nat→AV} {H0:Nat→Option dP} {ent:Nat→TE} (htr:TrI cfg (Spec P cfg) ops.toList nx T0 H0 ent) (hok:qA N ops.toList ops.toList 0=true)
  {p:Nat→Bool} {i:Nat} {o:Oper} (hi:ops[i]? = some o) (hpi:p i=false)
  (hT:∀t,t∈looks ops.toList o→EN ops.toList ent p ops.size T0 t=EN ops.toList ent yes i T0 t∧MO ops.toList ent p ops.size t=MO ops.toList ent yes i t)
  (hH:(ent i).ex=true→∀b,b∈(ent i).xX→Pe ent p ops.size H0 b=Pe ent yes i H0 b)
  (hTa:∀t,wrT ops.toList i t=true→∀k,i<k→p k=true→wrT ops.toList k t=false) (hHa:∀b,wrH ent i b=true→∀k,i<k→p k=true→wrH ent k b=false)
  {a:Act} {w:World} {I:Nat→Prop} {O:OM} (hR:Rel cfg cx (Pe ent p ops.size H0) (Dat nx ops.size p) w I O) (hTR:yh N ds (EN ops.toList ent p ops.size T0) (MO ops.toList ent p ops.size) a w I O (Dat nx ops.size p))
  {K:Act→World→Prop} {Q:Exit→Act→World→Prop}
  (hK:∀a' w' I' O',Rel cfg cx (Pe ent (λ j=>p j||decide (j=i)) ops.size H0) (Dat nx ops.size (λ j=>p j||decide (j=i))) w' I' O'→
    yh N ds (EN ops.toList ent (λ j=>p j||decide (j=i)) ops.size T0) (MO ops.toList ent (λ j=>p j||decide (j=i)) ops.size) a' w' I' O' (Dat nx ops.size (λ j=>p j||decide (j=i)))→K a' w'):
  wpOpIn (FW r) n0 P ops Q i K a w:=by
 have hlt:i<ops.size:=(Array.getElem?_eq_some_iff.1 hi).1;have hil:ops.toList[i]? = some o:=by simpa using hi
 obtain ⟨h1,h2,h3,h4⟩:=htr i o hil;obtain ⟨hop,hdN⟩:=Ox ops.toList 0 hok i o hil;rw [Nat.zero_add] at hop;have hKn:=htr.known hok i (by simp; omega);have hTT:∀t,wrT ops.toList i t=decide (o.dst=some t):=λ t=>by unfold wrT; rw [hil]
 have e1:EN ops.toList ent (λ j=>p j||decide (j=i)) ops.size T0=jw (EN ops.toList ent p ops.size T0) o.dst (ent i).v:=by
  funext t;unfold EN;rw [aal _ _ p T0 t i (hTa t) ops.size hlt,hTT];cases hd:o.dst with
  | none=>simp [jw]
  | some d=>
   by_cases h:t=d
   ·subst h; simp [jw]
   ·have:¬ d=t:=λ e=>h e.symm;simp [jw,h,this]
 have e2:MO ops.toList ent (λ j=>p j||decide (j=i)) ops.size=jw (MO ops.toList ent p ops.size) o.dst (ent i).ex:=by
  funext t;unfold MO;rw [aal _ _ p _ t i (hTa t) ops.size hlt,hTT];cases hd:o.dst with
  | none=>simp [jw]
  | some d=>
   by_cases h:t=d
   ·subst h; simp [jw]
   ·have:¬ d=t:=λ e=>h e.symm;simp [jw,h,this]
 have e3:Pe ent (λ j=>p j||decide (j=i)) ops.size H0=lI (Pe ent p ops.size H0) (ent i).ups:=by
  funext b;unfold Pe;rw [aal _ _ p H0 b i (hHa b) ops.size hlt];have hw:wrH ent i b=(look (ent i).ups b).isSome:=rfl;have hg:gH ent i b=match look (ent i).ups b with | some x=>x | none=>none:=rfl
  rw [hw,hg];unfold lI;cases look (ent i).ups b<;>simp
 have hD:∀b,AY (Dat nx ops.size p) (nx+stride*i) b→Dat nx ops.size (λ j=>p j||decide (j=i)) b:=by
  rintro b ((h | ⟨k,q1,q2,q3⟩) | h)
  ·exact .inl h
  ·exact .inr ⟨k,q1,by simp [q2],q3⟩
  ·exact .inr ⟨i,hlt,by simp,h⟩
 have hnD:VY (Dat nx ops.size p) (nx+stride*i):=by
  rintro b hb1 hb2 (h | ⟨k,q1,q2,q3,q4⟩)
  ·omega
  ·have:k=i:=by
    rcases Nat.lt_trichotomy k i with e | e | e
    ·have:=Nat.mul_le_mul_left stride (show k+1≤i from e);rw [Nat.mul_add,Nat.mul_one] at this;omega
    ·exact e
    ·have:=Nat.mul_le_mul_left stride (show i+1≤k from e);rw [Nat.mul_add,Nat.mul_one] at this;omega
   subst this;rw [hpi] at q2;cases q2
 have apS:lS ops.toList (EN ops.toList ent p ops.size T0) o:=by
  unfold lS at h1 ⊢;cases hg:o.guard with
  | none=>trivial
  | some g=>
   obtain ⟨j,b⟩:=g;rw [hg] at h1;obtain ⟨d,c,q1,q2⟩:=h1;refine ⟨d,c,q1,?_⟩;rw [(hT d (by unfold looks; rw [hg]; simp [q1])).1];exact q2
 have arM:jZ ops.toList (EN ops.toList ent p ops.size T0) (MO ops.toList ent p ops.size) o=(ent i).ex:=by
  rw [h2];unfold jZ;cases hg:o.guard with
  | none=>rfl
  | some g=>
   obtain ⟨j,b⟩:=g;simp only;cases hd:Tk ops.toList j with
   | none=>rfl
   | some d=>
    simp only;obtain ⟨q1,q2⟩:=hT d (by unfold looks; rw [hg]; simp [hd]);rw [q1,q2]
 unfold wpOpIn;rw [hi];simp only;rw [agG hTR o apS,arM];cases hex:(ent i).ex with
 | true=>
  rw [if_pos rfl];have hnd:∀c,o.op≠.defer c:=λ c hc=>by
   have:=h3 hex;rw [hc] at this;exact (fD.aZ this).elim
  refine aam hnd ?_;have apT:∀t,Operand.tmp t∈o.op.operands.toList→t∈looks ops.toList o:=λ t ht=>by
   unfold looks;rw [List.mem_append];exact .inl (List.mem_filterMap.2 ⟨.tmp t,ht,rfl⟩)
  have hval:CY (EN ops.toList ent p ops.size T0) (MO ops.toList ent p ops.size) o.op:=
   aci (λ t ht=>hT t (apT t ht)) (aej hKn hop (by rw [← h2]; exact hex))
  have hev:fD (Spec P cfg) (Pe ent p ops.size H0) (gD cfg (nx+stride*i) o.op (Vq cfg (EN ops.toList ent p ops.size T0))) (ent i).v (ent i).ups (ent i).xX:=by
   have apU:gD cfg (nx+stride*i) o.op (Vq cfg (EN ops.toList ent p ops.size T0))=gD cfg (nx+stride*i) o.op (Vq cfg (EN ops.toList ent yes i T0)):=aek λ x hx=>by
    cases x with
    | tmp t=>exact (hT t (apT t hx)).1
    | _=>rfl
   rw [apU];exact (h3 hex).anx (hH hex)
  refine agF hc hR hTR hnD hval hdN hev λ a' w' I' O' hR' hT'=>hK a' w' I' O' ?_ ?_
  ·rw [e3]; exact hR'.EO hD
  ·rw [e1,e2,hex]; exact hT'.EO hD hR'
 | false=>
  rw [if_neg (by simp)];have hu:=h4 hex;have hR2:Rel cfg cx (Pe ent (λ j=>p j||decide (j=i)) ops.size H0) (Dat nx ops.size (λ j=>p j||decide (j=i))) w I O:=by
   rw [e3,hu,AZ];exact hR.EO λ b h=>hD b (.inl h)
  refine ⟨λ _ _=>trivial,hK _ w I O hR2 ?_⟩;rw [e1,e2,hex];refine yh.put (hTR.EO (λ b h=>hD b (.inl h)) hR) (λ _ _ h=>h) o.dst hdN _ _ false (λ h=>by cases h) (λ _=>rfl)
theorem acn (hc:gL P cfg) {r:Option Nat} {n0:Nat} {ops:Array Oper} {id nx:Nat} {T0:Nat→AV} {H0:Nat→Option dP} {ent:Nat→TE} (htr:TrI cfg (Spec P cfg) ops.toList nx T0 H0 ent) (hok:qA N ops.toList ops.toList 0=true)
  {a:Act} {w:World} {I:Nat→Prop} {O:OM} (hR:Rel cfg cx H0 (λ o=>o<nx) w I O) (hTR:yh N ds T0 (λ _=>true) a w I O (λ o=>o<nx)) {Q:Exit→Act→World→Prop}
  (hQ:∀a' w' I' O',Rel cfg cx (Pe ent yes ops.size H0) (λ o=>o<nx+stride*ops.size) w' I' O'→yh N ds (EN ops.toList ent yes ops.size T0) (MO ops.toList ent yes ops.size) a' w' I' O' (λ o=>o<nx+stride*ops.size)→Q .normal a' w'):
  (Code.region id ops false).wpIn (FW r) n0 P Q a w:=by
 refine wpIn_region ?_;have key:∀(n k:Nat),k+n=ops.size→∀(a:Act) (w:World) (I:Nat→Prop) (O:OM),Rel cfg cx (Pe ent (λ j=>decide (j<k)) ops.size H0) (Dat nx ops.size (λ j=>decide (j<k))) w I O→
   yh N ds (EN ops.toList ent (λ j=>decide (j<k)) ops.size T0) (MO ops.toList ent (λ j=>decide (j<k)) ops.size) a w I O (Dat nx ops.size (λ j=>decide (j<k)))→wpOpsIn (FW r) n0 P ops Q (List.range' k n) a w:=by
  intro n
  induction n with
  | zero=>
   intro k hk a w I O hR hT
   have hkn:k=ops.size:=by omega
   subst hkn
   have e1:Pe ent (λ j=>decide (j<ops.size)) ops.size H0=Pe ent yes ops.size H0:=funext λ t=>qD _ _ _ t _ _ (Nat.le_refl _)
   have e2:EN ops.toList ent (λ j=>decide (j<ops.size)) ops.size T0=EN ops.toList ent yes ops.size T0:=funext λ t=>qD _ _ _ t _ _ (Nat.le_refl _)
   have e3:MO ops.toList ent (λ j=>decide (j<ops.size)) ops.size=MO ops.toList ent yes ops.size:=funext λ t=>qD _ _ _ t _ _ (Nat.le_refl _)
   rw [e1] at hR
   rw [e2,e3] at hT
   have hD:∀o,Dat nx ops.size (λ j=>decide (j<ops.size)) o→o<nx+stride*ops.size:=by
    rintro o (h | ⟨k,q1,_,q3,q4⟩)
    ·omega
    ·have:=Nat.mul_le_mul_left stride (show k+1≤ops.size from q1)
     rw [Nat.mul_add,Nat.mul_one] at this
     omega
   exact hQ a w I O (hR.EO hD) (hT.EO hD hR)
  | succ n ih=>
   intro k hk a w I O hR hT
   have hlt:k<ops.size:=by omega
   rw [List.range'_succ,wpOpsIn_cons]
   have hp:(λ j=>decide (j<k)||decide (j=k))=λ j=>decide (j<k+1):=by
    funext j
    by_cases h1:j<k
    ·simp [h1,show j<k+1 by omega]
    ·by_cases h2:j=k
     ·simp [h2]
     ·simp [h1,h2,show ¬ j<k+1 by omega]
   refine acj hc htr hok (Array.getElem?_eq_getElem hlt) (p:=λ j=>decide (j<k)) (by simp) (λ t _=>⟨qD _ _ _ t _ _ om,qD _ _ _ t _ _ om⟩) (λ _ b _=>qD _ _ _ b _ _ om)
    (λ t _ j hj hpj=>by simp at hpj; omega) (λ b _ j hj hpj=>by simp at hpj; omega) hR hT λ a' w' I' O' hR' hT'=>?_
   rw [hp] at hR' hT'
   exact ih (k+1) om a' w' I' O' hR' hT'
 have e0:∀ {α:Type} (wr:Nat→Nat→Bool) (g:Nat→Nat→α) (F:Nat→α),sel wr g (λ j=>decide (j<0)) ops.size F=F:=λ wr g F=>funext λ t=>qD wr g F t 0 ops.size (Nat.zero_le _);rw [List.range_eq_range'];refine key ops.size 0 om a w I O ?_ ?_
 ·unfold Pe;rw [e0];exact hR.EO λ o h=>.inl h
 ·unfold EN MO;rw [e0,e0];exact hTR.EO (λ o h=>.inl h) hR
end
end Go.Ab
namespace Go.Ab
section
variable {P:Program} {cfg:uT} {cx:Ctx} {N:Nat} {ds:List Deferred}
def Closed (ops:Array Oper) (listed:Array Bool):Prop:=∀(j:Nat) (o:Oper),ops[j]? = some o→listed.getD j false=true→∀e∈o.after,Region.binds .any e=true→listed.getD e.on false=true
theorem Ns {ops:Array Oper} {listed:Array Bool} (hcl:Closed ops listed):∀(f i j:Nat),before ops.toList f i j=true→(∀o,ops[j]? = some o→∀e∈o.after,Region.binds .any e=true→listed.getD e.on false=true)→listed.getD i false=true:=by
 intro f;induction f with
 | zero=>intro i j h; cases h
 | succ f ih=>
  intro i j h hj;unfold before at h;rw [Wo] at h;cases ho:ops[j]? with
  | none=>rw [show ops.toList[j]? = none by simpa using ho] at h; cases h
  | some o=>
   rw [show ops.toList[j]? = some o by simpa using ho] at h;simp only [List.any_eq_true,Bool.and_eq_true,Bool.or_eq_true] at h;obtain ⟨e,he,⟨hb,_⟩,h2⟩:=h;have hl:=hj o ho e (by simpa using he) hb;rcases h2 with h2 | h2
   ·rw [← Nat.eq_of_beq_eq_true h2]; exact hl
   ·exact ih i e.on h2 λ o' ho'=>hcl e.on o' ho' hl
variable {all:List Oper}
theorem Tz:∀(l:List Oper) (i:Nat),Rs all l i=true→∀k o,l[k]? = some o→Z0 o (i+k)=true∧JV all (i+k) o all 0=true:=by
 intro l;induction l with
 | nil=>intro i _ k o h; simp at h
 | cons x l ih=>
  intro i h k o hk;simp only [Rs,Bool.and_eq_true] at h;cases k with
  | zero=>simp at hk; subst hk; exact h.1
  | succ k=>
   have:=ih (i+1) h.2 k o (by simpa using hk);rwa [Nat.add_assoc,Nat.add_comm 1 k] at this
theorem Yn {j:Nat} {oj:Oper}:∀(l:List Oper) (i:Nat),JV all j oj l i=true→∀k o,l[k]? = some o→i+k<j→VR all o oj=true∨before all 40 (i+k) j=true:=by
 intro l;induction l with
 | nil=>intro i _ k o h; simp at h
 | cons x l ih=>
  intro i h k o hk hlt;unfold JV at h;have hij:Nat.blt i j=true:=by simp; omega
  simp only [hij,Bool.and_eq_true,Bool.or_eq_true] at h;cases k with
  | zero=>simp at hk; subst hk; exact h.1
  | succ k=>
   have:=ih (i+1) h.2 k o (by simpa using hk) om;rwa [Nat.add_assoc,Nat.add_comm 1 k] at this
theorem Za {x:Nat} {l:List Nat} (h:x∈l):zS x l=true:=by
 induction l with
 | nil=>cases h
 | cons b l ih=>
  unfold zS;cases hb:Nat.beq x b with
  | true=>rfl
  | false=>
   rcases List.mem_cons.1 h with e | e
   ·subst e; simp at hb
   ·exact ih e
theorem J8 {x y:Oper} (h:VR all x y=true):(∀d,x.dst=some d→d ∉ looks all y)∧(∀d,y.dst=some d→d ∉ looks all x)∧(∀d,x.dst=some d→y.dst≠some d):=by
 unfold VR at h;simp only [Bool.and_eq_true,Bool.not_eq_true'] at h;obtain ⟨⟨h1,h2⟩,h3⟩:=h;refine ⟨λ d hd hm=>?_,λ d hd hm=>?_,λ d hd hm=>?_⟩
 ·rw [hd] at h1; simp only [isIn] at h1; rw [Za hm] at h1; cases h1
 ·rw [hd] at h2; simp only [isIn] at h2; rw [Za hm] at h2; cases h2
 ·rw [hd,hm] at h3; simp [isIn,zS] at h3
theorem aco {l:List Nat} {p:Nat→Bool} {i:Nat} (hi:i∈l) (hp:p i=true):(l.filter λ k=>p k&&!decide (k=i)).length<(l.filter p).length:=by
 have le:∀l:List Nat,(l.filter λ k=>p k&&!decide (k=i)).length≤(l.filter p).length:=by
  intro l;induction l with
  | nil=>exact Nat.le_refl _
  | cons x l ih=>
   rw [List.filter_cons,List.filter_cons];cases hx:p x with
   | true=>
    rw [if_pos rfl];split
    ·simp only [List.length_cons]; omega
    ·simp only [List.length_cons]; omega
   | false=>simpa using ih
 induction l with
 | nil=>cases hi
 | cons x l ih=>
  rw [List.filter_cons,List.filter_cons];by_cases hxi:x=i
  ·subst hxi;rw [hp,if_pos rfl,if_neg (by simp)];have:=le l;simp only [List.length_cons];omega
  ·have hil:i∈l:=by rcases List.mem_cons.1 hi with e | e; exact absurd e.symm hxi; exact e
   have:=ih hil;cases hx:p x with
   | true=>
    rw [if_pos rfl,if_pos (by simp [hxi])];simp only [List.length_cons];omega
   | false=>simpa using this
def amC (ops:Array Oper) (ent:Nat→TE):Prop:=∀i j,i<j→j<ops.size→before ops.toList 40 i j=true∨
 ((∀b,wrH ent i b=true→(ent j).ex=true→b ∉ (ent j).xX)∧(∀b,wrH ent j b=true→(ent i).ex=true→b ∉ (ent i).xX)∧(∀b,wrH ent i b=true→wrH ent j b=false))
theorem acp (hc:gL P cfg) {r:Option Nat} {n0:Nat} {ops:Array Oper} {id nx:Nat} {T0:Nat→AV} {H0:Nat→Option dP} {ent:Nat→TE} (htr:TrI cfg (Spec P cfg) ops.toList nx T0 H0 ent) (hok:qA N ops.toList ops.toList 0=true)
  (hdr:Rs ops.toList ops.toList 0=true) (hdyn:amC ops ent)
  {a:Act} {w:World} {I:Nat→Prop} {O:OM} (hR:Rel cfg cx H0 (λ o=>o<nx) w I O) (hTR:yh N ds T0 (λ _=>true) a w I O (λ o=>o<nx)) {Q:Exit→Act→World→Prop}
  (hQ:∀a' w' I' O',Rel cfg cx (Pe ent yes ops.size H0) (λ o=>o<nx+stride*ops.size) w' I' O'→yh N ds (EN ops.toList ent yes ops.size T0) (MO ops.toList ent yes ops.size) a' w' I' O' (λ o=>o<nx+stride*ops.size)→Q .normal a' w'):
  (Code.region id ops true).wpIn (FW r) n0 P Q a w:=by
 refine wpIn_region_any hc.mixed ?_;have edges:∀k o,ops[k]? = some o→∀e∈o.after,Region.binds .any e=true→e.on<k:=by
  intro k o ho e he hb;obtain ⟨h1,_⟩:=Tz ops.toList 0 hdr k o (by simpa using ho);unfold Z0 at h1;rw [Nat.zero_add,List.all_eq_true] at h1;have:=h1 e (by simpa using he);simpa [hb] using this
 have tmps:∀i j oi oj,i<j→ops[i]? = some oi→ops[j]? = some oj→VR ops.toList oi oj=true∨before ops.toList 40 i j=true:=by
  intro i j oi oj hij hi hj;obtain ⟨_,h2⟩:=Tz ops.toList 0 hdr j oj (by simpa using hj);rw [Nat.zero_add] at h2;have:=Yn ops.toList 0 h2 i oi (by simpa using hi) om;rwa [Nat.zero_add] at this
 have anz:∀k t,wrT ops.toList k t=true→∃o,ops[k]? = some o∧o.dst=some t:=by
  intro k t h;unfold wrT at h;split at h
  ·rename_i o ho;exact ⟨o,by simpa using ho,by simpa using h⟩
  ·cases h
 have key:∀(fuel:Nat) (listed:Array Bool) (a:Act) (w:World) (I:Nat→Prop) (O:OM),listed.size=ops.size→Closed ops listed→((List.range ops.size).filter λ k=>!listed.getD k false).length≤fuel→
   Rel cfg cx (Pe ent (λ k=>listed.getD k false) ops.size H0) (Dat nx ops.size (λ k=>listed.getD k false)) w I O→
   yh N ds (EN ops.toList ent (λ k=>listed.getD k false) ops.size T0) (MO ops.toList ent (λ k=>listed.getD k false) ops.size) a w I O (Dat nx ops.size (λ k=>listed.getD k false))→wpAnyIn (FW r) n0 P .any ops Q fuel listed a w:=by
  intro fuel
  have done:∀(listed:Array Bool) (a:Act) (w:World) (I:Nat→Prop) (O:OM),(∀k,k<ops.size→listed.getD k false=true)→
    Rel cfg cx (Pe ent (λ k=>listed.getD k false) ops.size H0) (Dat nx ops.size (λ k=>listed.getD k false)) w I O→
    yh N ds (EN ops.toList ent (λ k=>listed.getD k false) ops.size T0) (MO ops.toList ent (λ k=>listed.getD k false) ops.size) a w I O (Dat nx ops.size (λ k=>listed.getD k false))→Q .normal a w:=by
   intro listed a w I O hall hR hT
   have e:∀ {α:Type} (wr:Nat→Nat→Bool) (g:Nat→Nat→α) (F:Nat→α),sel wr g (λ k=>listed.getD k false) ops.size F=sel wr g yes ops.size F:=λ wr g F=>funext λ t=>EM wr g _ _ F t _ λ k hk _=>hall k hk
   unfold Pe at hR
   unfold EN MO at hT
   rw [e] at hR
   rw [e,e] at hT
   have hD:∀o,Dat nx ops.size (λ k=>listed.getD k false) o→o<nx+stride*ops.size:=by
    rintro o (h | ⟨k,q1,_,q3,q4⟩)
    ·omega
    ·have:=Nat.mul_le_mul_left stride (show k+1≤ops.size from q1)
     rw [Nat.mul_add,Nat.mul_one] at this
     omega
   exact hQ a w I O (hR.EO hD) (hT.EO hD hR)
  have full:∀(listed:Array Bool),listed.size=ops.size→Region.ready .any ops listed=[]→∀k,k<ops.size→listed.getD k false=true:=by
   intro listed hls hr k
   induction k using Nat.strongRecOn with
   | _ k ih=>
    intro hk
    cases hl:listed.getD k false with
    | true=>rfl
    | false=>
     have:k∈Region.ready .any ops listed:=mem_ready.2 ⟨by
      have hlt:k<listed.size:=by omega
      simp [hlt] at hl ⊢; exact hl,ops[k],Array.getElem?_eq_getElem hk,λ e he hb=>ih e.on (edges k _ (Array.getElem?_eq_getElem hk) e he hb) (Nat.lt_trans (edges k _ (Array.getElem?_eq_getElem hk) e he hb) hk)⟩
     rw [hr] at this
     cases this
  induction fuel with
  | zero=>
   intro listed a w I O hls hcl hcnt hR hT
   have hall:∀k,k<ops.size→listed.getD k false=true:=by
    intro k hk
    cases hl:listed.getD k false with
    | true=>rfl
    | false=>
     have:k∈(List.range ops.size).filter λ k=>!listed.getD k false:=List.mem_filter.2 ⟨List.mem_range.2 hk,by rw [hl]; rfl⟩
     have:=List.length_pos_of_mem this
     omega
   refine ⟨?_,done listed a w I O hall hR hT⟩
   rw [List.eq_nil_iff_forall_not_mem]
   intro k hk
   obtain ⟨h1,o,h2,_⟩:=mem_ready.1 hk
   have hlt:k<ops.size:=(Array.getElem?_eq_some_iff.1 h2).1
   have:=hall k hlt
   have hlt':k<listed.size:=by omega
   simp [hlt'] at this h1
   rw [this] at h1
   cases h1
  | succ fuel ih=>
   intro listed a w I O hls hcl hcnt hR hT
   refine ⟨λ hr=>done listed a w I O (full listed hls hr) hR hT,λ i hi=>?_⟩
   obtain ⟨h1,o,ho,hed⟩:=mem_ready.1 hi
   have hlt:i<ops.size:=(Array.getElem?_eq_some_iff.1 ho).1
   have hpi:listed.getD i false=false:=by
    have hlt':i<listed.size:=by omega
    simp [hlt'] at h1 ⊢; exact h1
   have arN:∀o',ops[i]? = some o'→∀e∈o'.after,Region.binds .any e=true→listed.getD e.on false=true:=λ o' ho'=>by rw [ho] at ho'; cases ho'; exact hed
   have aiC:∀k,before ops.toList 40 k i=true→listed.getD k false=true:=λ k h=>Ns hcl 40 k i h arN
   have aan:∀k,before ops.toList 40 i k=true→listed.getD k false=false:=λ k h=>by
    cases hk:listed.getD k false with
    | false=>rfl
    | true=>
     have:=Ns hcl 40 i k h λ o' ho'=>hcl k o' ho' hk
     rw [hpi] at this
     cases this
   have hp:(λ j=>listed.getD j false||decide (j=i))=λ j=>(listed.setIfInBounds i true).getD j false:=by
    funext j
    by_cases hj:j=i
    ·subst hj
     have:j<listed.size:=by omega
     simp [this]
    ·rw [getD_set_ne false (λ e=>hj e.symm)]
     simp [hj]
   have anA:∀ {α:Type} (wr:Nat→Nat→Bool) (g:Nat→Nat→α) (F:Nat→α) (t:Nat),(∀k,k<ops.size→wr k t=true→k≠i→before ops.toList 40 (min k i) (max k i)=true)→
     sel wr g (λ j=>listed.getD j false) ops.size F t=sel wr g yes i F t:=by
    intro α wr g F t h
    refine (EM wr g _ (λ j=>decide (j<i)) F t _ λ k hk hw=>?_).trans (qD wr g F t i ops.size om)
    by_cases hki:k=i
    ·subst hki; simpa using hpi
    ·have hb:=h k hk hw hki
     rcases Nat.lt_or_gt_of_ne hki with hlt' | hgt
     ·rw [Nat.min_eq_left om,Nat.max_eq_right om] at hb
      rw [aiC k hb]; simp [hlt']
     ·rw [Nat.min_eq_right om,Nat.max_eq_left om] at hb
      rw [aan k hb]; simp; omega
   refine acj hc htr hok ho (p:=λ j=>listed.getD j false) hpi (λ t ht=>?_) (λ hex b hb=>?_) (λ t ht k hik hpk=>?_) (λ b hb k hik hpk=>?_) hR hT λ a' w' I' O' hR' hT'=>?_
   ·have cond:∀k,k<ops.size→wrT ops.toList k t=true→k≠i→before ops.toList 40 (min k i) (max k i)=true:=by
     intro k hk hw hki
     obtain ⟨ok,hok',hdk⟩:=anz k t hw
     rcases Nat.lt_or_gt_of_ne hki with hlt' | hgt
     ·rw [Nat.min_eq_left om,Nat.max_eq_right om]
      rcases tmps k i ok o hlt' hok' ho with h | h
      ·exact absurd ht ((J8 h).1 t hdk)
      ·exact h
     ·rw [Nat.min_eq_right om,Nat.max_eq_left om]
      rcases tmps i k o ok hgt ho hok' with h | h
      ·exact absurd ht ((J8 h).2.1 t hdk)
      ·exact h
    exact ⟨anA _ _ _ t cond,anA _ _ _ t cond⟩
   ·refine anA _ _ _ b λ k hk hw hki=>?_
    rcases Nat.lt_or_gt_of_ne hki with hlt' | hgt
    ·rw [Nat.min_eq_left om,Nat.max_eq_right om]
     rcases hdyn k i hlt' hlt with h | h
     ·exact h
     ·exact absurd hb (h.1 b hw hex)
    ·rw [Nat.min_eq_right om,Nat.max_eq_left om]
     rcases hdyn i k hgt hk with h | h
     ·exact h
     ·exact absurd hb (h.2.1 b hw hex)
   ·cases hw:wrT ops.toList k t with
    | false=>rfl
    | true=>
     obtain ⟨oi,hoi,hdi⟩:=anz i t ht
     obtain ⟨ok,hok',hdk⟩:=anz k t hw
     rcases tmps i k oi ok hik hoi hok' with h | h
     ·exact absurd hdk ((J8 h).2.2 t hdi)
     ·rw [aan k h] at hpk; cases hpk
   ·by_cases hk:k<ops.size
    ·rcases hdyn i k hik hk with h | h
     ·rw [aan k h] at hpk; cases hpk
     ·exact h.2.2 b hb
    ·have:listed.getD k false=false:=by simp [Array.getElem?_eq_none (show listed.size≤k by omega)]
     rw [this] at hpk; cases hpk
   ·rw [hp] at hR' hT'
    refine ih (listed.setIfInBounds i true) a' w' I' O' (by simp [hls]) ?_ ?_ hR' hT'
    ·intro j oj hj hl e he hb
     by_cases hji:j=i
     ·subst hji
      rw [ho] at hj
      cases hj
      exact getD_set_true (hed e he hb)
     ·rw [getD_set_ne false (λ e=>hji e.symm)] at hl
      exact getD_set_true (hcl j oj hj hl e he hb)
    ·have hlt':i<listed.size:=by omega
     have:=aco (l:=List.range ops.size) (p:=λ k=>!listed.getD k false) (i:=i) (List.mem_range.2 hlt) (by rw [hpi]; rfl)
     have e2:((List.range ops.size).filter λ k=>!(listed.setIfInBounds i true).getD k false)=(List.range ops.size).filter λ k=>!listed.getD k false&&!decide (k=i):=by
      congr 1
      funext k
      rw [← congrFun hp k]
      simp
     rw [e2]
     omega
 have e0:(λ k=>(Array.replicate ops.size false).getD k false)=λ _=>false:=by
  funext k;rcases Nat.lt_or_ge k ops.size with h | h
  ·simp [h]
  ·simp [h]
 have e1:∀ {α:Type} (wr:Nat→Nat→Bool) (g:Nat→Nat→α) (F:Nat→α),sel wr g (λ _=>false) ops.size F=F:=λ wr g F=>funext λ t=>by
  have:=qD wr g F t 0 ops.size (Nat.zero_le _);refine (EM wr g _ (λ j=>decide (j<0)) F t _ λ k _ _=>?_).trans this;simp
 refine key ops.size (Array.replicate ops.size false) a { w with drawn:=w.drawn+1 } I O (by simp) ?_ ?_ ?_ ?_
 ·intro j o _ h;rw [congrFun e0 j] at h;cases h
 ·exact Nat.le_trans (List.length_filter_le _ _) (by simp)
 ·rw [e0];unfold Pe;rw [e1];exact (Rel.Gv (w:=w) (w':={ w with drawn:=w.drawn+1 }) rfl (iC.heap rfl rfl rfl rfl) hR).EO λ o h=>.inl h
 ·rw [e0];unfold EN MO;rw [e1,e1];have Pq:=Rel.Gv (w:=w) (w':={ w with drawn:=w.drawn+1 }) rfl (iC.heap rfl rfl rfl rfl) hR;have:yh N ds T0 (λ _=>true) a { w with drawn:=w.drawn+1 } I O (λ o=>o<nx):=⟨hTR.defers,hTR.size,λ t ht=>dZ.Gv (w:=w) (w':={ w with drawn:=w.drawn+1 }) rfl hR (hTR.rep t ht),hTR.gone⟩;exact this.EO (λ o h=>.inl h) Pq
end
end Go.Ab
namespace Go.Ab
section
variable {P:Program} {cfg:uT} {cx:Ctx} {N:Nat} {Sp:ny}
theorem Zb:∀(l:List AV) (K:List AV→Prop),JQ l K↔K l:=by
 intro l;induction l with
 | nil=>intro K; exact Iff.rfl
 | cons v l ih=>
  intro K;unfold JQ;rw [ih];cases v<;>exact Iff.rfl
theorem force_eq (v:AV) (K:AV→Prop):force v K↔K v:=by
 cases v<;>first | exact Iff.rfl | exact Zb _ _
theorem acr:∀(l:jW) (K:jW→Prop),AQ l K↔K l:=by
 intro l;induction l with
 | nil=>intro K; exact Iff.rfl
 | cons u l ih=>
  intro K;obtain ⟨o,x⟩:=u;cases x with
  | none=>exact ih _
  | some x=>cases x with
   | box cs=>simp only [AQ]; rw [Zb]; exact ih _
   | row es n g=>exact ih _
   | map kd z f=>exact ih _
theorem aft (H:jW):∀(ups:jW) (K:jW→Prop),ahW ups H K↔K (ups++H):=by
 intro ups;induction ups with
 | nil=>intro K; exact Iff.rfl
 | cons u l ih=>intro K; unfold ahW; exact ih _
theorem Mv (p:PC):∀(l:List PC) (K:List PC→Prop),Oq l p K↔K (l++[p]):=by
 intro l;induction l with
 | nil=>intro K; exact Iff.rfl
 | cons q l ih=>intro K; unfold Oq; exact ih _
theorem agI:∀(l:List PC) (j:Nat) (K:PC→Prop),adO l j K↔K (JU l j):=by
 intro l;induction l with
 | nil=>intro j K; exact Iff.rfl
 | cons p l ih=>intro j K; cases j with
  | zero=>exact Iff.rfl
  | succ j=>exact ih j K
def holds (pc:PC):Prop:=∀q∈pc,q.1=q.2
theorem Mw:∀(pc:PC) (p:Prop) (K:Prop→Prop),agm pc p K→∃q:Prop,K q∧(q→holds pc→p):=by
 intro pc;induction pc with
 | nil=>intro p K h; exact ⟨p,h,λ h _=>h⟩
 | cons x l ih=>
  intro p K h;obtain ⟨c,b⟩:=x;obtain ⟨q,h1,h2⟩:=ih _ _ h;exact ⟨q,h1,λ hq hh=>h2 hq (λ y hy=>hh y (List.mem_cons_of_mem _ hy)) (hh (c,b) (by simp))⟩
theorem Vw (pc:PC) (H:Nat→Option dP):∀(pg:Pg) (xX:List Nat) (K:AV→jW→List Nat→Prop),ev Sp pc H pg xX K→∃v ups Un,K v ups Un∧(∀x∈xX,x∈Un)∧(holds pc→∃r,fD Sp H pg v ups r∧∀x∈r,x∈Un):=by
 intro pg;induction pg with
 | ret v ups=>
  intro xX K h;unfold ev at h;rw [force_eq,acr] at h;exact ⟨v,ups,xX,h,λ _ h=>h,λ _=>⟨[],.ret v ups,λ x hx=>by cases hx⟩⟩
 | need p k ih=>
  intro xX K h;unfold ev at h;obtain ⟨q,⟨h1,h2⟩,h3⟩:=Mw pc p _ h;obtain ⟨v,ups,Un,h4,h5,h6⟩:=ih xX K h2;refine ⟨v,ups,Un,h4,h5,λ hh=>?_⟩;obtain ⟨r,h7,h8⟩:=h6 hh;exact ⟨r,.need (h3 h1 hh) h7,h8⟩
 | rd o k ih=>
  intro xX K h;unfold ev at h;split at h
  ·rename_i x hx;obtain ⟨v,ups,Un,h4,h5,h6⟩:=ih x (o::xX) K h;refine ⟨v,ups,Un,h4,λ y hy=>h5 y (List.mem_cons_of_mem _ hy),λ hh=>?_⟩;obtain ⟨r,h7,h8⟩:=h6 hh;refine ⟨o::r,.rd hx h7,λ y hy=>?_⟩;rcases List.mem_cons.1 hy with e | e
   ·subst e; exact h5 y (by simp)
   ·exact h8 y e
  ·obtain ⟨q,⟨h1,h2⟩,h3⟩:=Mw pc False _ h;exact ⟨_,_,xX,h2,λ _ h=>h,λ hh=>(h3 h1 hh).elim⟩
 | call f args obs k ih=>
  intro xX K h;unfold ev at h;obtain ⟨r,fE,h⟩:=h;obtain ⟨q,⟨h1,h2⟩,h3⟩:=Mw pc _ _ h;obtain ⟨v,ups,Un,h4,h5,h6⟩:=ih r fE xX K h2;refine ⟨v,ups,Un,h4,h5,λ hh=>?_⟩;obtain ⟨r',h7,h8⟩:=h6 hh;exact ⟨r',.call (h3 h1 hh) h7,h8⟩
 | fail=>
  intro xX K h;unfold ev at h;obtain ⟨q,⟨h1,h2⟩,h3⟩:=Mw pc False _ h;exact ⟨_,_,xX,h2,λ _ h=>h,λ hh=>(h3 h1 hh).elim⟩
def agJ:List Oper→List TE→(Nat→AV)→Nat→AV
 | o::rest,e::tr,T=>agJ rest tr (jw T o.dst e.v)
 | _,_,T=>T
def agK:List Oper→List TE→(Nat→Bool)→Nat→Bool
 | o::rest,e::tr,V=>agK rest tr (jw V o.dst e.ex)
 | _,_,V=>V
def agL:List TE→(Nat→Option dP)→Nat→Option dP
 | e::tr,H=>agL tr (lI H e.ups)
 | [],H=>H
theorem mE (T:List (Nat×AV)) (d:Nat) (v:AV):iw ((d,v)::T)=jw (iw T) (some d) v:=by
 funext t;unfold iw jw;simp only [look];cases hb:Nat.beq d t with
 | true=>have:=Nat.eq_of_beq_eq_true hb; subst this; simp
 | false=>
  have:t≠d:=λ e=>by subst e; simp at hb
  simp [this]
theorem TA (ups H:jW):hget (ups++H)=lI (hget H) ups:=by
 funext o;unfold hget lI;rw [J6];cases look ups o with
 | none=>rfl
 | some x=>cases x<;>rfl
theorem Vx (dst:Option Nat) (v u:AV) (T U:List (Nat×AV)) (K:List (Nat×AV)→List (Nat×AV)→Prop) (h:ahX dst v u T U K):∃T' U',K T' U'∧iw T'=jw (iw T) dst v∧iw U'=jw (iw U) dst u:=by
 cases dst with
 | none=>exact ⟨T,U,h,rfl,rfl⟩
 | some d=>exact ⟨_,_,h,mE T d v,mE U d u⟩
def afu:List TE→List Log→List Log→Prop
 | [],l,l0=>l=l0
 | e::tr,l,l0=>∃g:Log,(e.ex=true→(∀x∈e.xX,x∈g.xX))∧(∀x,(look e.ups x).isSome=true→x∈g.wrs)∧afu tr l (g::l0)
theorem acs (ups:jW) (x:Nat) (h:(look ups x).isSome=true):x∈ids ups:=by
 induction ups with
 | nil=>cases h
 | cons u l ih=>
  obtain ⟨o,y⟩:=u;simp only [look] at h;simp only [ids,List.mem_cons];cases hb:Nat.beq o x with
  | true=>exact .inl (Nat.eq_of_beq_eq_true hb).symm
  | false=>simp only [hb] at h; exact .inr (ih h)
theorem ael (l:List PC) (p:PC) (j:Nat):JU (l++[p]) j=if j<l.length then JU l j else if j=l.length then p else []:=by
 induction l generalizing j with
 | nil=>cases j<;>simp [JU]
 | cons q l ih=>
  cases j with
  | zero=>simp [JU]
  | succ j=>
   simp only [List.cons_append,JU,ih,List.length_cons];by_cases h1:j<l.length
   ·simp [h1]
   ·by_cases h2:j=l.length
    ·simp [h2]
    ·simp [h1,h2]
theorem upd_ne {α:Type} (F:Nat→α) (d:Option Nat) (x:α) (t:Nat) (h:d≠some t):jw F d x t=F t:=by
 cases d with
 | none=>rfl
 | some k=>
  have:t≠k:=λ e=>h (by rw [e]);simp [jw,this]
theorem Wq {α:Type} (F:Nat→α) (t:Nat) (x:α):jw F (some t) x t=x:=by simp [jw]
theorem aem {all:List Oper} {nx:Nat} (hok:qA N all all 0=true):∀(rest:List Oper) (i:Nat) (T U:List (Nat×AV)) (H:jW) (pcs:List PC) (log:List Log) (K:St→List Log→Prop) (V:Nat→Bool),
  (∀j,rest[j]? = all[i+j]?)→pcs.length=i→(∀j d,j<i→writers all d=[j]→(V d=true↔holds (JU pcs j)))→(∀t,iw U t=.undef∨(V t=true∧iw U t=iw T t))→
  abI cfg Sp all nx rest i T U H pcs log K→∃tr s aao,Tr cfg Sp all nx rest i (iw T) V (hget H) tr∧tr.length=rest.length∧K s aao∧s.nx=nx+stride*(i+rest.length)∧hget s.heap=agL tr (hget H)∧
   (∀t,iw s.tmps t=.undef∨(agK rest tr V t=true∧iw s.tmps t=agJ rest tr (iw T) t))∧afu tr aao log:=by
 intro rest;induction rest with
 | nil=>
  intro i T U H pcs log K V _ _ _ hU h;exact ⟨[],_,log,trivial,rfl,h,rfl,rfl,hU,rfl⟩
 | cons o rest ih=>
  intro i T U H pcs log K V hr hpl hpc hU h;have hi:all[i]? = some o:=by simpa using (hr 0).symm
  have hop:=(Ox all 0 hok i o hi).1;rw [Nat.zero_add] at hop;have hr':∀j,rest[j]? = all[i+1+j]? := λ j=>by
   have:=hr (j+1);rw [show i+(j+1)=i+1+j by omega] at this;simpa using this
  have go:∀(v u:AV) (ups:jW) (ex:Bool) (r:List Nat) (g:Log) (pc:PC) (T' U':List (Nat×AV)) (H':jW),lS all (iw T) o→ex=jZ all (iw T) V o→(ex=true→fD Sp (hget H) (gD cfg (nx+stride*i) o.op (Vq cfg (iw T))) v ups r)→(ex=false→ups=[])→
    iw T'=jw (iw T) o.dst v→iw U'=jw (iw U) o.dst u→hget H'=lI (hget H) ups→(u=.undef∨(ex=true∧u=v))→(ex=true↔holds pc)→(ex=true→(∀x∈r,x∈g.xX))→(∀x,(look ups x).isSome=true→x∈g.wrs)→
    abI cfg Sp all nx rest (i+1) T' U' H' (pcs++[pc]) (g::log) K→∃tr s aao,Tr cfg Sp all nx (o::rest) i (iw T) V (hget H) tr∧tr.length=(o::rest).length∧K s aao∧s.nx=nx+stride*(i+(o::rest).length)∧hget s.heap=agL tr (hget H)∧
     (∀t,iw s.tmps t=.undef∨(agK (o::rest) tr V t=true∧iw s.tmps t=agJ (o::rest) tr (iw T) t))∧afu tr aao log:=by
   intro v u ups ex r g pc T' U' H' g1 g2 g3 g4 g5 g6 g7 g8 g9 g10 g11 g12
   have arO:∀j d,j<i+1→writers all d=[j]→(jw V o.dst ex d=true↔holds (JU (pcs++[pc]) j)):=by
    intro j d hj hw
    rw [ael,hpl]
    by_cases hji:j=i
    ·subst hji
     have:j∈writers all d:=by rw [hw]; simp
     obtain ⟨o',h1,h2⟩:=(u7 all d j).1 this
     rw [hi] at h1
     cases h1
     rw [h2,Wq]
     simpa using g9
    ·have hne:o.dst≠some d:=λ e=>by
      have:i∈writers all d:=(u7 all d i).2 ⟨o,hi,e⟩
      rw [hw] at this
      simp at this
      omega
     rw [upd_ne _ _ _ _ hne,if_pos om]
     exact hpc j d om hw
   have hU':∀t,iw U' t=.undef∨(jw V o.dst ex t=true∧iw U' t=iw T' t):=by
    intro t
    rw [g5,g6]
    by_cases hd:o.dst=some t
    ·rw [hd,Wq,Wq,Wq]
     rcases g8 with e | ⟨e1,e2⟩
     ·exact .inl e
     ·exact .inr ⟨e1,e2⟩
    ·rw [upd_ne _ _ _ _ hd,upd_ne _ _ _ _ hd,upd_ne _ _ _ _ hd]
     exact hU t
   obtain ⟨tr,s,aao,q1,q2,q3,q4,q5,q6,q7⟩:=ih (i+1) T' U' H' (pcs++[pc]) (g::log) K (jw V o.dst ex) hr' (by simp [hpl]) arO hU' g12
   rw [g5,g7] at q1
   rw [g7] at q5
   rw [g5] at q6
   exact ⟨⟨ex,v,ups,r⟩::tr,s,aao,⟨g1,g2,g3,g4,q1⟩,by simp [q2],q3,by rw [q4,show i+1+rest.length=i+(o::rest).length by simp; omega],q5,q6,g,g10,g11,q7⟩
  unfold abI at h;cases hg:o.guard with
  | none=>
   rw [hg] at h;simp only at h;obtain ⟨v,ups,Un,h1,_,h2⟩:=Vw _ _ _ _ _ h;obtain ⟨r,h3,h4⟩:=h2 (λ q hq=>by cases hq);obtain ⟨T',U',h5,h6,h7⟩:=Vx _ _ _ _ _ _ h1;rw [aft,Mv] at h5;have hs:lS all (iw T) o:=by unfold lS; rw [hg]; trivial
   have hon:jZ all (iw T) V o=true:=by unfold jZ; rw [hg]
   exact go v v ups true r _ [] T' U' _ hs hon.symm (λ _=>h3) (λ e=>by cases e) h6 h7 (TA ups H) (.inr ⟨rfl,rfl⟩) ⟨λ _ q hq=>by (cases hq),λ _=>rfl⟩ (λ _=>h4) (λ x hx=>acs ups x hx) h5
  | some gu=>
   obtain ⟨j,b⟩:=gu;rw [hg] at h;simp only at h;cases hd:Tk all j with
   | none=>rw [hd] at h; exact h.elim
   | some d=>
    rw [hd] at h;simp only at h;cases hT:iw T d with
    | bool c=>
     rw [hT] at h;simp only at h;have hjd:j<i∧writers all d=[j]:=by
      unfold abJ at hop;rw [hg] at hop;simp only at hop;split at hop
      ·rename_i h1;split at h1
       ·rename_i hlt;rw [hd] at h1;simp only at h1;split at h1
        ·rename_i j' hw;have e:=Nat.eq_of_beq_eq_true h1;subst e;exact ⟨by simpa using hlt,hw⟩
        ·cases h1
       ·cases h1
      ·cases hop
     have hVd:=hpc j d hjd.1 hjd.2;have hs:lS all (iw T) o:=by unfold lS; rw [hg]; exact ⟨d,c,hd,hT⟩
     have hon:jZ all (iw T) V o=(V d&&(c==b)):=by unfold jZ; rw [hg]; simp only [hd,hT,isB]
     cases hq:afi cfg o.op with
     | true=>
      rw [hq] at h;simp only at h;rw [agI] at h;obtain ⟨v,ups,Un,h1,_,h2⟩:=Vw _ _ _ _ _ h;cases ups with
      | cons u l=>exact h1.elim
      | nil=>
       simp only at h1;obtain ⟨T',U',h5,h6,h7⟩:=Vx _ _ _ _ _ _ h1;rw [Mv] at h5;have hiff:jZ all (iw T) V o=true↔holds ((c,b)::JU pcs j):=by
        rw [hon];simp only [Bool.and_eq_true,beq_iff_eq,hVd];constructor
        ·rintro ⟨q1,q2⟩ q hq;rcases List.mem_cons.1 hq with e | e
         ·subst e; exact q2
         ·exact q1 q e
        ·intro q;exact ⟨λ y hy=>q y (List.mem_cons_of_mem _ hy),q (c,b) (by simp)⟩
       cases hex:jZ all (iw T) V o with
       | true=>
        obtain ⟨r,h3,h4⟩:=h2 (hiff.1 hex);exact go v .undef [] true r _ _ T' U' H hs hex.symm (λ _=>h3) (λ e=>by cases e) h6 h7 (by rw [AZ]) (.inl rfl) ⟨λ _=>hiff.1 hex,λ _=>rfl⟩ (λ _=>h4) (λ x hx=>by cases hx) h5
       | false=>
        exact go v .undef [] false [] _ _ T' U' H hs hex.symm (λ e=>by cases e) (λ _=>rfl) h6 h7 (by rw [AZ]) (.inl rfl) (by rw [← hex]; exact hiff) (λ e=>by cases e) (λ x hx=>by cases hx) h5
     | false=>
      rw [hq] at h;simp only at h;split at h
      ·rename_i hnil;have hV:V d=true:=hVd.2 (by rw [hnil]; exact λ q hq=>by cases hq);rw [hV,Bool.true_and] at hon;cases hcb:(c==b) with
       | true=>
        rw [hcb] at h;simp only [VP] at h;obtain ⟨v,ups,Un,h1,_,h2⟩:=Vw _ _ _ _ _ h;obtain ⟨r,h3,h4⟩:=h2 (λ q hq=>by cases hq);obtain ⟨T',U',h5,h6,h7⟩:=Vx _ _ _ _ _ _ h1;rw [aft,Mv] at h5;exact go v v ups true r _ [] T' U' _ hs (by rw [hon,hcb]) (λ _=>h3) (λ e=>by cases e) h6 h7 (TA ups H) (.inr ⟨rfl,rfl⟩) ⟨λ _ q hq=>by (cases hq),λ _=>rfl⟩ (λ _=>h4) (λ x hx=>acs ups x hx) h5
       | false=>
        rw [hcb] at h;simp only [VP] at h;obtain ⟨T',U',h5,h6,h7⟩:=Vx _ _ _ _ _ _ h;rw [Mv] at h5;refine go .undef .undef [] false [] _ _ T' U' H hs (by rw [hon,hcb]) (λ e=>by cases e) (λ _=>rfl) h6 h7 (by rw [AZ]) (.inl rfl) ⟨λ e=>by (cases e),λ q=>?_⟩ (λ e=>by cases e) (λ x hx=>by cases hx) h5;have:=q (c,b) (by simp);simp at hcb;exact absurd this hcb
      ·exact h.elim
    | _=>rw [hT] at h; exact h.elim
end
end Go.Ab
namespace Go.Ab
section
variable {P:Program} {cfg:uT} {cx:Ctx} {N:Nat}
def Ws (D:Nat):Deferred:={ target:=.collected D,args:=#[] }
def Marks (cx:Ctx) (w:World) (ds:List Deferred):Prop:=∃ms:List Nat,ms.Nodup∧(cx.rd=true→ms=[])∧ds=ms.map Ws∧∀D∈ms,cx.w0.heap.size≤D∧w.heap[D]? = some (.deferred (some []))
def Ctx.also (cx:Ctx) (ms:List Nat):Ctx:={ cx with K:=λ k o=>cx.K k o∨(k∈ms∧o=.deferred (some [])) }
theorem Rel.also {H:Nat→Option dP} {D:Nat→Prop} {w:World} {I:Nat→Prop} {O:OM} (hR:Rel cfg cx H D w I O) {ms:List Nat} (h:∀D∈ms,w.heap[D]? = some (.deferred (some []))):Rel cfg (cx.also ms) H D w I O:=
 { hR with
  env:=⟨hR.env.same,λ k o hk=>hk.elim (hR.env.kept k o) λ ⟨h1,h2⟩=>by subst h2; exact ⟨h k h1,rfl⟩⟩ }
theorem Rel.aiD {H:Nat→Option dP} {D:Nat→Prop} {w:World} {I:Nat→Prop} {O:OM} {ms:List Nat} (hR:Rel cfg (cx.also ms) H D w I O):Rel cfg cx H D w I O∧∀D∈ms,w.heap[D]? = some (.deferred (some [])):=
 ⟨{ hR with
  env:=⟨hR.env.same,λ k o hk=>hR.env.kept k o (.inl hk)⟩ },λ D hD=>(hR.env.kept D _ (.inr ⟨hD,rfl⟩)).1⟩
structure ji (cfg:uT) (N m:Nat) (cx:Ctx) (s:St) (a:Act) (w:World) (I:Nat→Prop) (O:OM):Prop where
 m:cx.m=m
 rel:Rel cfg cx (hget s.heap) (λ o=>o<s.nx) w I O
 tmps:yh N a.defers (iw s.tmps) (λ _=>true) a w I O (λ o=>o<s.nx)
 marks:Marks cx w a.defers
def Good (P:Program) (cfg:uT) (N:Nat) (r:Option Nat) (m:Nat) (c:Code) (s:St) (K:Exit→St→Prop):Prop:=
 ∀(n:Nat) (cx:Ctx) (a:Act) (w:World) (I:Nat→Prop) (O:OM),ji cfg N m cx s a w I O→cx.rd=r.isSome→c.wpIn (FW r) n P (λ e a' w'=>∃s' I' O',K e s'∧ji cfg N m cx s' a' w' I' O') a w
structure Loops (P:Program) (cfg:uT) (N:Nat) (r:Option Nat) (m:Nat) (c:Code) (s:St) (K:Exit→St→Prop):Prop where
 ok:Good P cfg N r m c s K
theorem aen:∀(tr:List TE) (l l0:List Log),afu tr l l0→∃gs:List Log,gs.length=tr.length∧l=gs.reverse++l0∧∀(k:Nat) (e:TE) (g:Log),tr[k]? = some e→gs[k]? = some g→(e.ex=true→∀x∈e.xX,x∈g.xX)∧∀x,(look e.ups x).isSome=true→x∈g.wrs:=by
 intro tr;induction tr with
 | nil=>intro l l0 h; exact ⟨[],rfl,h,λ k e g h=>by simp at h⟩
 | cons e tr ih=>
  intro l l0 h;obtain ⟨g,h1,h2,h3⟩:=h;obtain ⟨gs,q1,q2,q3⟩:=ih l (g::l0) h3;refine ⟨g::gs,by simp [q1],by simp [q2],λ k e' g' hk hg=>?_⟩;cases k with
  | zero=>simp at hk hg; subst hk; subst hg; exact ⟨h1,h2⟩
  | succ k=>exact q3 k e' g' (by simpa using hk) (by simpa using hg)
theorem J9 {l m:List Nat} (h:meets l m=false):∀x∈l,x ∉ m:=by
 induction l with
 | nil=>intro x hx; cases hx
 | cons y l ih=>
  intro x hx;unfold meets at h;cases hm:zS y m with
  | true=>simp [hm] at h
  | false=>
   simp only [hm] at h;rcases List.mem_cons.1 hx with e | e
   ·subst e; exact wQ hm
   ·exact ih h x e
theorem Mx {α:Type} {motive:List α→Prop} (nil:motive []) (append_singleton:∀l x,motive l→motive (l++[x])):∀l,motive l:=by
 intro l;have:∀m:List α,motive m.reverse:=by
  intro m;induction m with
  | nil=>exact nil
  | cons x m ih=>rw [List.reverse_cons]; exact append_singleton _ x ih
 have:=this l.reverse;rwa [List.reverse_reverse] at this
variable {all:List Oper}
theorem acu {j:Nat} {x:Log}:∀(gs:List Log),Rt all j x gs.reverse gs.length=true→∀i g,gs[i]? = some g→(meets x.wrs g.xX=false∧meets g.wrs x.xX=false∧meets g.wrs x.wrs=false)∨before all 40 i j=true:=by
 intro gs;induction gs using Mx with
 | nil=>intro _ i g h; simp at h
 | append_singleton gs y ih=>
  intro h i g hg;rw [List.reverse_append,List.length_append] at h;simp only [List.reverse_cons,List.reverse_nil,List.nil_append,List.cons_append,List.length_cons,List.length_nil,Nat.zero_add] at h;unfold Rt at h;have rest:Rt all j x gs.reverse gs.length=true:=by
   split at h
   ·exact h
   ·split at h
    ·exact h
    ·cases h
  by_cases hi:i<gs.length
  ·exact ih rest i g (by rwa [List.getElem?_append_left hi] at hg)
  ·have hil:i=gs.length:=by
    have:=(List.getElem?_eq_some_iff.1 hg).1;simp at this;omega
   subst hil;simp at hg;subst hg;split at h
   ·rename_i e1 e2 e3;exact .inl ⟨e1,e2,e3⟩
   ·split at h
    ·rename_i hb; exact .inr hb
    ·cases h
theorem aiE:∀(gs:List Log),Gh all gs.reverse gs.length=true→∀j x,gs[j]? = some x→∀i g,i<j→gs[i]? = some g→(meets x.wrs g.xX=false∧meets g.wrs x.xX=false∧meets g.wrs x.wrs=false)∨before all 40 i j=true:=by
 intro gs;induction gs using Mx with
 | nil=>intro _ j x h; simp at h
 | append_singleton gs y ih=>
  intro h j x hx i g hij hg;rw [List.reverse_append,List.length_append] at h;simp only [List.reverse_cons,List.reverse_nil,List.nil_append,List.cons_append,List.length_cons,List.length_nil,Nat.zero_add] at h;unfold Gh at h;split at h
  ·rename_i hone;have hjl:j<(gs++[y]).length:=(List.getElem?_eq_some_iff.1 hx).1;simp at hjl;have hi:i<gs.length:=by omega
   have hg':gs[i]? = some g:=by rwa [List.getElem?_append_left hi] at hg
   by_cases hj:j<gs.length
   ·exact ih h j x (by rwa [List.getElem?_append_left hj] at hx) i g hij hg'
   ·have:j=gs.length:=by omega
    subst this;simp at hx;subst hx;exact acu gs hone i g hg'
  ·cases h
theorem alh {T0:Nat→AV} {H0:Nat→Option dP} {ent:Nat→TE}:∀(rest:List Oper) (i:Nat) (tr:List TE),(∀j,rest[j]? = all[i+j]?)→(∀j e,tr[j]? = some e→ent (i+j)=e)→tr.length=rest.length→
  agJ rest tr (EN all ent yes i T0)=EN all ent yes (i+rest.length) T0∧agK rest tr (MO all ent yes i)=MO all ent yes (i+rest.length)∧agL tr (Pe ent yes i H0)=Pe ent yes (i+rest.length) H0:=by
 intro rest;induction rest with
 | nil=>
  intro i tr _ _ hl;have:tr=[]:=List.eq_nil_of_length_eq_zero (by simpa using hl);subst this;exact ⟨rfl,rfl,rfl⟩
 | cons x rest ih=>
  intro i tr hr he hl;cases tr with
  | nil=>simp at hl
  | cons e tr=>
   have hx:all[i]? = some x:=by simpa using (hr 0).symm
   have he0:ent i=e:=by simpa using he 0 e rfl
   subst he0;have e1:jw (EN all ent yes i T0) x.dst (ent i).v=EN all ent yes (i+1) T0:=Ms hx _ yes rfl T0 _ λ _=>rfl;have e2:jw (MO all ent yes i) x.dst (ent i).ex=MO all ent yes (i+1):=Ms hx _ yes rfl _ _ λ _=>rfl;have e3:lI (Pe ent yes i H0) (ent i).ups=Pe ent yes (i+1) H0:=ach yes rfl H0;simp only [agJ,agK,agL];rw [e1,e2,e3];have:=ih (i+1) tr (λ j=>by
    have:=hr (j+1);rw [show i+(j+1)=i+1+j by omega] at this;simpa using this) (λ j e' hj=>by
    have:=he (j+1) e' (by simpa using hj);rwa [show i+(j+1)=i+1+j by omega] at this) (by simpa using hl)
   rw [show i+1+rest.length=i+(x::rest).length by simp; omega] at this;exact this
theorem acv (hc:gL P cfg) {N:Nat} {r:Option Nat} {m id:Nat} {ct:List Nat} {ops:Array Oper} {draw:Bool} {T:List (Nat×AV)} {H:jW} {nx:Nat} {K:Exit→St→Prop}
  (h:jX cfg (Spec P cfg) ct (Loops P cfg N r m) (.region id ops draw) ⟨T,H,nx⟩ K) (hok:ahY N ops.toList draw=true):
  Good P cfg N r m (.region id ops draw) ⟨T,H,nx⟩ K:=by
 intro n0 cx a w I O hS hrd;obtain ⟨ms,hnd,hrm,hds,hms⟩:=hS.marks;have hS1:=hS.rel.also (λ D hD=>(hms D hD).2);simp only [jX] at h;unfold ahY at hok;simp only [Bool.and_eq_true,Bool.or_eq_true,Bool.not_eq_true'] at hok;obtain ⟨hok1,hok2⟩:=hok;obtain ⟨tr,s,aao,q1,q2,q3,q4,q5,q6,q7⟩:=aem hok1 ops.toList 0 T T H [] [] _ (λ _=>true) (λ j=>by simp) rfl (λ j d hj=>by omega) (λ t=>.inr ⟨rfl,rfl⟩) h;let ent:Nat→TE:=λ k=>tr.getD k ⟨true,.undef,[],[]⟩
 have hent:∀j e,tr[j]? = some e→ent (0+j)=e:=λ j e he=>by show tr.getD (0+j) _=e; simp [he]
 have htr:TrI cfg (Spec P cfg) ops.toList nx (iw T) (hget H) ent:=λ k o hk=>TrI.alg ops.toList 0 tr (λ j=>by simp) hent q1 k o (Nat.zero_le _) hk;obtain ⟨e1,e2,e3⟩:=alh (all:=ops.toList) (T0:=iw T) (H0:=hget H) ops.toList 0 tr (λ j=>by simp) hent q2;simp only [Nat.zero_add,Array.length_toList] at e1 e2 e3 q4;have hfin:∀a' w' I' O',K .normal s→Rel cfg (cx.also ms) (Pe ent yes ops.size (hget H)) (λ o=>o<nx+stride*ops.size) w' I' O'→yh N a.defers (EN ops.toList ent yes ops.size (iw T)) (MO ops.toList ent yes ops.size) a' w' I' O' (λ o=>o<nx+stride*ops.size)→
   ∃s' I' O',K .normal s'∧ji cfg N m cx s' a' w' I' O':=by
  intro a' w' I' O' hK arP hT'
  obtain ⟨hR',arQ⟩:=arP.aiD
  have hda:a'.defers=a.defers:=hT'.defers
  refine ⟨s,I',O',hK,hS.m,?_,?_,⟨ms,hnd,hrm,hda.trans hds,λ D hD=>⟨(hms D hD).1,arQ D hD⟩⟩⟩
  ·rw [q5,q4]
   show Rel cfg cx (agL tr (Pe ent yes 0 (hget H))) _ w' I' O'
   rw [e3]
   exact hR'
  ·rw [q4]
   refine ⟨rfl,hT'.size,λ t _=>?_,λ t h=>by cases h⟩
   rcases q6 t with e | ⟨e4,e5⟩
   ·rw [e]; exact .pure (.undef _)
   ·have e4':agK ops.toList tr (MO ops.toList ent yes 0) t=true:=e4
    have e5':iw s.tmps t=agJ ops.toList tr (EN ops.toList ent yes 0 (iw T)) t:=e5
    rw [e2] at e4'
    rw [e1] at e5'
    rw [e5']
    exact hT'.rep t e4'
 cases draw with
 | false=>
  simp only at q3;exact acn hc htr hok1 hS1 hS.tmps λ a' w' I' O' hR' hT'=>hfin a' w' I' O' q3 hR' hT'
 | true=>
  simp only at q3;split at q3
  ·rename_i RN;have hdr:Rs ops.toList ops.toList 0=true:=by simpa using hok2
   obtain ⟨gs,g1,g2,g3⟩:=aen tr aao [] q7;rw [List.append_nil] at g2;have hlen:gs.length=ops.toList.length:=by rw [g1,q2]
   rw [g2,← hlen] at RN;have hspec:=aiE gs RN;have hdyn:amC ops ent:=by
    intro i j hij hj;have hjg:j<gs.length:=by rw [hlen]; simpa using hj
    have hig:i<gs.length:=by omega
    have htj:tr[j]? = some (ent j):=by
     have hlt:j<tr.length:=by omega
     show tr[j]? = some (tr.getD j _);simp [hlt]
    have hti:tr[i]? = some (ent i):=by
     have hlt:i<tr.length:=by omega
     show tr[i]? = some (tr.getD i _);simp [hlt]
    obtain ⟨a1,a2⟩:=g3 j _ _ htj (List.getElem?_eq_getElem hjg);obtain ⟨b1,b2⟩:=g3 i _ _ hti (List.getElem?_eq_getElem hig);rcases hspec j _ (List.getElem?_eq_getElem hjg) i _ hij (List.getElem?_eq_getElem hig) with ⟨c1,c2,c3⟩ | hb
    ·refine .inr ⟨λ b hw hex hm=>J9 c2 b (b2 b hw) (a1 hex b hm),λ b hw hex hm=>J9 c1 b (a2 b hw) (b1 hex b hm),λ b hw=>?_⟩;cases hwj:wrH ent j b with
     | false=>rfl
     | true=>exact absurd (a2 b hwj) (J9 c3 b (b2 b hw))
    ·exact .inl hb
   exact acp hc htr hok1 hdr hdyn hS1 hS.tmps λ a' w' I' O' hR' hT'=>hfin a' w' I' O' q3 hR' hT'
  ·exact q3.elim
variable {r:Option Nat} {m:Nat} {K:Exit→St→Prop}
theorem Good.mono {N:Nat} {c:Code} {s:St} {K':Exit→St→Prop} (h:Good P cfg N r m c s K) (hk:∀e s,K e s→K' e s):Good P cfg N r m c s K':=λ n0 cx a w I O hS hrd=>
 wpIn_mono (h n0 cx a w I O hS hrd) λ e _ _ ⟨s',I',O',h1,h2⟩=>⟨s',I',O',hk e s' h1,h2⟩
theorem pV {N:Nat} {x y:Code} {s:St} (h:Good P cfg N r m x s λ e s'=>match e with | .normal=>Good P cfg N r m y s' K | e=>K e s'):Good P cfg N r m (.seq x y) s K:=by
 intro n0 cx a w I O hS hrd;refine wpIn_seq (wpIn_mono (h n0 cx a w I O hS hrd) ?_);intro e a' w' ⟨s',I',O',h1,h2⟩;cases e with
 | normal=>exact h1 n0 cx a' w' I' O' h2 hrd
 | exit id=>exact ⟨s',I',O',h1,h2⟩
 | goto l=>exact ⟨s',I',O',h1,h2⟩
 | ret=>exact ⟨s',I',O',h1,h2⟩
 | panic ch=>exact ⟨s',I',O',h1,h2⟩
 | outgrown=>exact ⟨s',I',O',h1,h2⟩
theorem aeo {N:Nat} {id:Nat} {x:Code} {s:St} (h:Good P cfg N r m x s λ e s'=>match e with | .exit i=>(match Nat.beq i id with | true=>K .normal s' | false=>K (.exit i) s') | e=>K e s'):Good P cfg N r m (.block id x) s K:=by
 intro n0 cx a w I O hS hrd;refine wpIn_block (wpIn_mono (h n0 cx a w I O hS hrd) ?_);intro e a' w' ⟨s',I',O',h1,h2⟩;cases e with
 | exit i=>
  simp only [Exit.inBlock];simp only at h1;by_cases hi:i=id
  ·subst hi;have hb:Nat.beq i i=true:=by simp
   rw [hb] at h1;rw [if_pos rfl];exact ⟨s',I',O',h1,h2⟩
  ·have hb:Nat.beq i id=false:=by
    cases hb:Nat.beq i id with
    | false=>rfl
    | true=>exact absurd (Nat.eq_of_beq_eq_true hb) hi
   rw [hb] at h1;rw [if_neg hi];exact ⟨s',I',O',h1,h2⟩
 | normal=>exact ⟨s',I',O',h1,h2⟩
 | goto l=>exact ⟨s',I',O',h1,h2⟩
 | ret=>exact ⟨s',I',O',h1,h2⟩
 | panic ch=>exact ⟨s',I',O',h1,h2⟩
 | outgrown=>exact ⟨s',I',O',h1,h2⟩
theorem RP {N:Nat} {c:Operand} {x y:Code} {s:St} {b:Bool} (hb:Vq cfg (iw s.tmps) c=.bool b) (h1:b=true→Good P cfg N r m x s K) (h2:b=false→Good P cfg N r m y s K):Good P cfg N r m (.cond c x y) s K:=by
 intro n0 cx a w I O hS hrd;have hr:=uj hS.rel hS.tmps c (λ t _=>rfl);rw [hb] at hr;refine wpIn_cond_split hr.kL (λ h=>h1 h n0 cx a w I O hS hrd) (λ h=>h2 h n0 cx a w I O hS hrd)
theorem iY (hc:gL P cfg) {N:Nat} {ct:List Nat}:∀(c:Code) (s:St) (K:Exit→St→Prop),iQ N c=true→jX cfg (Spec P cfg) ct (Loops P cfg N r m) c s K→Good P cfg N r m c s K:=by
 intro c;induction c with
 | skip=>intro s K _ h n0 cx a w I O hS _; exact wpIn_skip ⟨s,I,O,h,hS⟩
 | region id ops draw=>
  intro s K hok h;obtain ⟨T,H,nx⟩:=s;exact acv hc h hok
 | seq x y ihx ihy=>
  intro s K hok h;simp only [iQ,Bool.and_eq_true] at hok;unfold jX at h;split at h
  ·exact h.ok
  refine pV ((ihx s _ hok.1 h).mono λ e s' h'=>?_);cases e with
  | normal=>exact ihy s' K hok.2 h'
  | _=>exact h'
 | cond c x y ihx ihy=>
  intro s K hok h;simp only [iQ,Bool.and_eq_true] at hok;simp only [jX] at h;split at h
  ·rename_i b hb;refine RP hb (λ e=>?_) (λ e=>?_)
   ·subst e; exact ihx s K hok.1 h
   ·subst e; exact ihy s K hok.2 h
  ·exact h.elim
 | block id x ih=>
  intro s K hok h;exact aeo (ih s _ hok h)
 | loop x ih=>intro s K hok h; exact h.ok
 | rangeFunc g ps x y ihx ihy=>intro s K hok h; exact h.ok
 | exit id=>intro s K _ h n0 cx a w I O hS _; exact wpIn_exit ⟨s,I,O,h,hS⟩
 | ret=>intro s K _ h n0 cx a w I O hS _; exact wpIn_ret ⟨s,I,O,h,hS⟩
 | _=>intro s K hok h; cases hok
end
end Go.Ab

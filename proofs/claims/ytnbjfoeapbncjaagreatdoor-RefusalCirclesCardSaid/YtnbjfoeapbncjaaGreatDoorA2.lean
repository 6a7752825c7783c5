/- A part of the proof. -/
import Derived.Test.YtnbjfoeapbncjaaGreatDoorA1
import Derived.Test.YtnbjfoeapbncjaaGreatDoorA0
import Derived.MapKept
import Derived.Laws.Cover3
import Derived.OrdersIn
set_option linter.unusedVariables false
set_option linter.unusedSimpArgs false
namespace Go.Ab
section
variable {P:Program} {cfg:qz} {cx:Ctx} {H:Nat→Option cu} {D:Nat→Prop} {w:World} {I:Nat→Prop} {O:OM}
variable {bW:Nat} {o:Oper} {a:Act} {ρ:Operand→AV} {v:AV} {ups:jh} {r:List Nat}
theorem Vr {f:FuncId} {vals:Array Value} {next:Act→World→Prop} {Q:Exit→Act→World→Prop} (h:(execOp a.eval o).run P w=.ok (.enter f vals) w)
  (hc:Calls P f vals w λ e w'=>∃x,e=.returned x∧next (a.put o.dst x) w'):o.wp P a w next Q:=by
 unfold Oper.wp;rw [h];exact hc.mono λ e w' ⟨x,he,hn⟩=>by subst he; exact hn
variable {u:AV} {x:Value}
theorem Me {w':World} {I':Nat→Prop} (h:cO w I O D u x) (hm:OH u=true):fC w' I' u x:=by
 cases u<;>first | cases hm | skip
 ·rw [h.jr]; exact .bool _
 ·rw [h.fQ]; exact .int _ _
 ·rw [h.vw]; exact .str _
variable {l:List AV}
theorem Xp (h:Tx l=true):∀j,j<l.length→OH (nth l j)=true:=by
 induction l with
 | nil=>intro j hj; cases hj
 | cons u l ih=>
  intro j hj;unfold Tx at h;cases hv:OH u with
  | false=>simp [hv] at h
  | true=>
   simp only [hv] at h;cases j with
   | zero=>exact hv
   | succ j=>exact ih h j (by simpa using hj)
theorem Mf {w':World} {I':Nat→Prop} (h:cO w I O D u x) (hm:OI u=true):fC w' I' u x:=by
 cases u with
 | agg cs=>
  obtain ⟨vs,rfl,hl,hr⟩:=h.lX;exact .agg hl λ j hj=>Me (hr j hj) (Xp hm j hj)
 | _=>exact Me h hm
theorem Xq (h:Tz l=true):∀j,j<l.length→OI (nth l j)=true:=by
 induction l with
 | nil=>intro j hj; cases hj
 | cons u l ih=>
  intro j hj;unfold Tz at h;cases hv:OI u with
  | false=>simp [hv] at h
  | true=>
   simp only [hv] at h;cases j with
   | zero=>exact hv
   | succ j=>exact ih h j (by simpa using hj)
theorem Xr {w':World} {I':Nat→Prop} (h:cO w I O D u x) (hm:aaC u=true):fC w' I' u x:=by
 cases u with
 | jg cs=>
  obtain ⟨vs,rfl,hl,hr⟩:=h.zY;exact .jg hl λ j hj=>Mf (hr j hj) (Xq hm j hj)
 | _=>exact Mf h hm
theorem abb:∀(l:List cu) (j:Nat),j<l.length→∃x,hof l j=some x:=by
 intro l;induction l with
 | nil=>intro j hj; cases hj
 | cons x l ih=>intro j hj; cases j with
  | zero=>exact ⟨x,rfl⟩
  | succ j=>exact ih j (by simpa using hj)
theorem Hq:∀(l:List cu) (j:Nat),l.length≤j→hof l j=none:=by
 intro l;induction l with
 | nil=>intro j _; rfl
 | cons x l ih=>intro j hj; cases j with
  | zero=>simp at hj
  | succ j=>exact ih j (by simpa using hj)
theorem Ct {α:Type}:∀(l m:List (Nat×α)) (k:Nat),look (l++m) k=match look l k with | some x=>some x | none=>look m k:=by
 intro l;induction l with
 | nil=>intro m k; rfl
 | cons p l ih=>
  intro m k;obtain ⟨q,x⟩:=p;simp only [List.cons_append,look];cases Nat.beq q k<;>simp [ih]
theorem TS:∀(l:List Nat) (obs:List cu) (j:Nat) (x:cu),kN l=true→j<l.length→hof obs j=some x→look (vR l obs) (fJ l j)=some (gz x):=by
 intro l;induction l with
 | nil=>intro obs j x _ hj; cases hj
 | cons y l ih=>
  intro obs j x hnd hj hx;cases obs with
  | nil=>cases hx
  | cons ob obs=>
   have hnd':kN l=true∧y ∉ l:=by
    unfold kN at hnd;cases hm:vv y l with
    | true=>simp [hm] at hnd
    | false=>simp only [hm] at hnd; exact ⟨hnd,rX hm⟩
   cases j with
   | zero=>simp [hof] at hx; subst hx; simp [vR,look,fJ]
   | succ j=>
    simp only [vR,look,fJ];have hne:Nat.beq y (fJ l j)=false:=by
     cases hb:Nat.beq y (fJ l j) with
     | false=>rfl
     | true=>exact absurd (Nat.eq_of_beq_eq_true hb ▸ mE l j (by simpa using hj)) hnd'.2
    rw [hne];exact ih obs j x hnd'.1 (by simpa using hj) hx
theorem Ry:∀(l:List Nat) (obs:List cu) (k:Nat),(∀j,j<l.length→j<obs.length→fJ l j≠k)→look (vR l obs) k=none:=by
 intro l;induction l with
 | nil=>intro obs k _; cases obs<;>rfl
 | cons y l ih=>
  intro obs k h;cases obs with
  | nil=>rfl
  | cons ob obs=>
   simp only [vR,look];have hne:Nat.beq y k=false:=by
    cases hb:Nat.beq y k with
    | false=>rfl
    | true=>exact absurd (Nat.eq_of_beq_eq_true hb) (h 0 (by simp) (by simp))
   rw [hne];exact ih obs k (λ j h1 h2=>h (j+1) (by simp; omega) (by simp; omega))
theorem Xt:∀(n i:Nat),(iU n i).length=n:=by
 intro n;induction n with
 | zero=>intro i; rfl
 | succ n ih=>intro i; simp [iU,ih]
theorem Xu:∀(n i j:Nat),j<n→fJ (iU n i) j=i+j:=by
 intro n;induction n with
 | zero=>intro i j h; omega
 | succ n ih=>
  intro i j h;cases j with
  | zero=>rfl
  | succ j=>
   show fJ (iU n (i+1)) j=_;rw [ih (i+1) j om];omega
theorem Xv (l m:List Nat) (j:Nat) (h:j<l.length):fJ (l++m) j=fJ l j:=by
 induction l generalizing j with
 | nil=>cases h
 | cons x l ih=>cases j with
  | zero=>rfl
  | succ j=>exact ih j (by simpa using h)
theorem Xw (l m:List Nat) (j:Nat) (h:l.length≤j):fJ (l++m) j=fJ m (j - l.length):=by
 induction l generalizing j with
 | nil=>rfl
 | cons x l ih=>cases j with
  | zero=>simp at h
  | succ j=>
   show fJ (l++m) j=_
   rw [ih j (by simpa using h)]
   simp
theorem Rz:∀(l:List Nat),(∀i j,i<l.length→j<l.length→fJ l i=fJ l j→i=j)→kN l=true:=by
 intro l;induction l with
 | nil=>intro _; rfl
 | cons x l ih=>
  intro h;unfold kN;have hm:vv x l=false:=by
   cases hb:vv x l with
   | false=>rfl
   | true=>
    have key:∀m:List Nat,vv x m=true→∃j,j<m.length∧fJ m j=x:=by
     intro m;induction m with
     | nil=>intro h; cases h
     | cons y m ihm=>
      intro h;unfold vv at h;cases hxy:Nat.beq x y with
      | true=>exact ⟨0,by simp,(Nat.eq_of_beq_eq_true hxy).symm⟩
      | false=>
       rw [hxy] at h;obtain ⟨j,h1,h2⟩:=ihm h;exact ⟨j+1,by simpa using h1,h2⟩
    obtain ⟨j,h1,h2⟩:=key l hb;have:=h 0 (j+1) (by simp) (by simpa using h1) h2.symm;omega
  rw [hm];refine ih λ i j hi hj e=>?_;have:=h (i+1) (j+1) (by simpa using hi) (by simpa using hj) e;omega
theorem Hr (sg:List Nat) (l:List AV):(Zf sg l).length=l.length:=by
 induction l with
 | nil=>rfl
 | cons v l ih=>simp [Zf,ih]
theorem Vs (sg:List Nat):∀(l:List AV) (j:Nat),nth (Zf sg l) j=yZ sg (nth l j):=by
 intro l;induction l with
 | nil=>intro j; rfl
 | cons v l ih=>intro j; cases j with
  | zero=>rfl
  | succ j=>exact ih j
theorem SB (sg:List Nat) (l:List AV):(U6 sg l).length=l.length:=by
 induction l with
 | nil=>rfl
 | cons v l ih=>simp [U6,ih]
theorem Zu (sg:List Nat):∀(l:List AV) (j:Nat),nth (U6 sg l) j=y5 sg (nth l j):=by
 intro l;induction l with
 | nil=>intro j; rfl
 | cons v l ih=>intro j; cases j with
  | zero=>rfl
  | succ j=>exact ih j
theorem Zv (sg:List Nat):∀(l:List cu) (j:Nat),hof (OO sg l) j=(hof l j).map (Ro sg):=by
 intro l;induction l with
 | nil=>intro j; rfl
 | cons v l ih=>intro j; cases j with
  | zero=>rfl
  | succ j=>exact ih j
theorem Vt (h:aaF l=true):∀j,j<l.length→aaE (nth l j)=true:=by
 induction l with
 | nil=>intro j hj; cases hj
 | cons v l ih=>
  intro j hj;unfold aaF at h;cases hv:aaE v with
  | false=>simp [hv] at h
  | true=>
   simp only [hv] at h;cases j with
   | zero=>exact hv
   | succ j=>exact ih h j (by simpa using hj)
theorem Zw (h:Yq l=true):∀j,j<l.length→aaG (nth l j)=true:=by
 induction l with
 | nil=>intro j hj; cases hj
 | cons v l ih=>
  intro j hj;unfold Yq at h;cases hv:aaG v with
  | false=>simp [hv] at h
  | true=>
   simp only [hv] at h;cases j with
   | zero=>exact hv
   | succ j=>exact ih h j (by simpa using hj)
theorem Zx:∀(l:List Nat) (x k:Nat),o9 l x k=none→x ∉ l:=by
 intro l;induction l with
 | nil=>intro x k _ h; cases h
 | cons y l ih=>
  intro x k h hm;unfold o9 at h;cases hb:Nat.beq y x with
  | true=>simp [hb] at h
  | false=>
   simp only [hb] at h;rcases List.mem_cons.1 hm with e | e
   ·subst e; simp at hb
   ·exact ih x (k+1) h e
theorem adk:∀(l:List cu) (j:Nat) (x:cu),hof l j=some x→yD l j=gz x:=by
 intro l;induction l with
 | nil=>intro j x h; cases h
 | cons y l ih=>
  intro j x h;cases j with
  | zero=>cases h; rfl
  | succ j=>exact ih j x h
theorem Zy {l:List cu} (h:Yr l=true):∀j x,hof l j=some x→acX x=true:=by
 induction l with
 | nil=>intro j x hx; cases hx
 | cons v l ih=>
  intro j x hx;unfold Yr at h;cases hv:acX v with
  | false=>simp [hv] at h
  | true=>
   simp only [hv] at h;cases j with
   | zero=>cases hx; exact hv
   | succ j=>exact ih h j x hx
theorem Vu (sg:List Nat):∀(l:List AV),(Ab.aaD sg l).length=l.length:=by
 intro l;induction l with
 | nil=>rfl
 | cons v l ih=>simp [Ab.aaD,ih]
theorem abd (sg:List Nat):∀(l:List AV) (j:Nat),nth (Ab.aaD sg l) j=Ab.U5 sg (nth l j):=by
 intro l;induction l with
 | nil=>intro j; rfl
 | cons v l ih=>intro j; cases j with
  | zero=>rfl
  | succ j=>exact ih j
theorem adl (h:okA l=true):∀j,j<l.length→acW (nth l j)=true:=by
 induction l with
 | nil=>intro j hj; cases hj
 | cons v l ih=>
  unfold okA at h;cases hv:acW v with
  | false=>rw [hv] at h; cases h
  | true=>
   rw [hv] at h;intro j hj;cases j with
   | zero=>exact hv
   | succ j=>exact ih h j (by simpa using hj)
section back
variable {w':World} {I':Nat→Prop} {O' On:OM} {n:Nat} {D2:Nat→Prop} {full:List Nat}
theorem cO.U5 (hlive:∀j,j<n→D2 (fJ full j)) (gQ:∀j p,O' j=some p→j<n) (hon:∀j,j<n→On (fJ full j)=O' j) (hu:acW u=true) (h:cO w' I' O' (λ k=>k<n) u x):cO w' I' On D2 (Ab.U5 full u) x:=by
 cases u with
 | ptr j i off=>
  cases hj:O' j with
  | none=>
   have hlt:j<n:=by
    cases h with
    | pure h=>cases h
    | ptr ho=>rw [hj] at ho; cases ho
    | vU _ hd=>exact hd
   have h1:x.oneCell'=true:=by
    cases h with
    | pure h=>cases h
    | ptr ho=>rw [hj] at ho; cases ho
    | vU _ _ h1=>exact h1
   exact .vU (by rw [hon j hlt]; exact hj) (hlive j hlt) h1
  | some p=>
   obtain ⟨b,bo,sz,q1,q2,rfl⟩:=h.kQ hj;exact .ptr (by rw [hon j (gQ j p hj)]; exact hj) q1 q2
 | dA j i m f=>
  cases hj:O' j with
  | none=>
   have hlt:j<n:=by
    cases h with
    | pure h=>cases h
    | dA ho=>rw [hj] at ho; cases ho
    | uS _ hd=>exact hd
   have h1:x.oneCell'=true:=by
    cases h with
    | pure h=>cases h
    | dA ho=>rw [hj] at ho; cases ho
    | uS _ _ h1=>exact h1
   exact .uS (by rw [hon j hlt]; exact hj) (hlive j hlt) h1
  | some p=>
   obtain ⟨aa,cap,rfl,q1,q2,q3,q4⟩:=h.jH hj;exact .dA (by rw [hon j (gQ j p hj)]; exact hj) q1 q2 q3 q4 (h.xA hj)
 | fn f cs=>cases hu
 | agg cs=>cases hu
 | jg cs=>cases hu
 | mref j=>
  cases hj:O' j with
  | none=>
   have hlt:j<n:=by
    cases h with
    | pure h=>cases h
    | mref ho=>rw [hj] at ho; cases ho
    | vT _ hd=>exact hd
   have h1:x.oneCell'=true:=by
    cases h with
    | pure h=>cases h
    | mref ho=>rw [hj] at ho; cases ho
    | vT _ _ h1=>exact h1
   exact .vT (by rw [hon j hlt]; exact hj) (hlive j hlt) h1
  | some p=>
   obtain ⟨b,bo,sz,q1,rfl⟩:=h.qA hj;exact .mref (by rw [hon j (gQ j p hj)]; exact hj) q1
 | _=>exact .pure (h.tL rfl)
theorem cO.yZ (hlive:∀j,j<n→D2 (fJ full j)) (gQ:∀j p,O' j=some p→j<n) (hon:∀j,j<n→On (fJ full j)=O' j) (hu:aaE u=true) (h:cO w' I' O' (λ k=>k<n) u x):cO w' I' On D2 (Ab.yZ full u) x:=by
 cases u with
 | ptr j i off=>
  cases hj:O' j with
  | none=>
   have hlt:j<n:=by
    cases h with
    | pure h=>cases h
    | ptr ho=>rw [hj] at ho; cases ho
    | vU _ hd=>exact hd
   have h1:x.oneCell'=true:=by
    cases h with
    | pure h=>cases h
    | ptr ho=>rw [hj] at ho; cases ho
    | vU _ _ h1=>exact h1
   exact .vU (by rw [hon j hlt]; exact hj) (hlive j hlt) h1
  | some p=>
   obtain ⟨b,bo,sz,q1,q2,rfl⟩:=h.kQ hj;exact .ptr (by rw [hon j (gQ j p hj)]; exact hj) q1 q2
 | dA j i m f=>
  cases hj:O' j with
  | none=>
   have hlt:j<n:=by
    cases h with
    | pure h=>cases h
    | dA ho=>rw [hj] at ho; cases ho
    | uS _ hd=>exact hd
   have h1:x.oneCell'=true:=by
    cases h with
    | pure h=>cases h
    | dA ho=>rw [hj] at ho; cases ho
    | uS _ _ h1=>exact h1
   exact .uS (by rw [hon j hlt]; exact hj) (hlive j hlt) h1
  | some p=>
   obtain ⟨aa,cap,rfl,q1,q2,q3,q4⟩:=h.jH hj;exact .dA (by rw [hon j (gQ j p hj)]; exact hj) q1 q2 q3 q4 (h.xA hj)
 | fn f cs=>
  obtain ⟨xs,rfl,hl,hr⟩:=h.vW;refine .fn (by rw [Vu]; exact hl) λ j hj=>?_;rw [Vu] at hj;rw [abd];exact (hr j hj).U5 hlive gQ hon (adl hu j hj)
 | agg cs=>cases hu
 | jg cs=>cases hu
 | mref j=>
  cases hj:O' j with
  | none=>
   have hlt:j<n:=by
    cases h with
    | pure h=>cases h
    | mref ho=>rw [hj] at ho; cases ho
    | vT _ hd=>exact hd
   have h1:x.oneCell'=true:=by
    cases h with
    | pure h=>cases h
    | mref ho=>rw [hj] at ho; cases ho
    | vT _ _ h1=>exact h1
   exact .vT (by rw [hon j hlt]; exact hj) (hlive j hlt) h1
  | some p=>
   obtain ⟨b,bo,sz,q1,rfl⟩:=h.qA hj;exact .mref (by rw [hon j (gQ j p hj)]; exact hj) q1
 | _=>exact .pure (h.tL rfl)
theorem cO.y5 (hlive:∀j,j<n→D2 (fJ full j)) (gQ:∀j p,O' j=some p→j<n) (hon:∀j,j<n→On (fJ full j)=O' j) (hu:aaG u=true) (h:cO w' I' O' (λ k=>k<n) u x):cO w' I' On D2 (Ab.y5 full u) x:=by
 cases u with
 | agg cs=>
  obtain ⟨xs,rfl,hl,hr⟩:=h.lX;refine .agg (by rw [Hr]; exact hl) λ j hj=>?_;rw [Hr] at hj;rw [Vs];exact (hr j hj).yZ hlive gQ hon (Vt hu j hj)
 | jg cs=>cases hu
 | undef=>exact cO.yZ (u:=.undef) hlive gQ hon hu h
 | bool b=>exact cO.yZ (u:=.bool b) hlive gQ hon hu h
 | int k n'=>exact cO.yZ (u:=.int k n') hlive gQ hon hu h
 | str s=>exact cO.yZ (u:=.str s) hlive gQ hon hu h
 | sl es m f g=>exact cO.yZ (u:=.sl es m f g) hlive gQ hon hu h
 | ro cs=>exact cO.yZ (u:=.ro cs) hlive gQ hon hu h
 | ptr o' i off=>exact cO.yZ (u:=.ptr o' i off) hlive gQ hon hu h
 | dA o' i m f=>exact cO.yZ (u:=.dA o' i m f) hlive gQ hon hu h
 | fn f cs=>exact cO.yZ (u:=.fn f cs) hlive gQ hon hu h
 | wW=>exact cO.yZ (u:=.wW) hlive gQ hon hu h
 | iK=>exact cO.yZ (u:=.iK) hlive gQ hon hu h
 | mref o=>exact cO.yZ (u:=.mref o) hlive gQ hon hu h
 | pm a b c=>exact cO.yZ (u:=.pm a b c) hlive gQ hon hu h
theorem cO.acV (hlive:∀j,j<n→D2 (fJ full j)) (gQ:∀j p,O' j=some p→j<n) (hon:∀j,j<n→On (fJ full j)=O' j) (hu:agy u=true) (h:cO w' I' O' (λ k=>k<n) u x):cO w' I' On D2 (Ab.acV full u) x:=by
 cases u with
 | jg cs=>
  obtain ⟨xs,rfl,hl,hr⟩:=h.zY;refine .jg (by rw [SB]; exact hl) λ j hj=>?_;rw [SB] at hj;rw [Zu];exact (hr j hj).y5 hlive gQ hon (Zw hu j hj)
 | agg cs=>exact cO.y5 (u:=.agg cs) hlive gQ hon hu h
 | undef=>exact cO.y5 (u:=.undef) hlive gQ hon hu h
 | bool b=>exact cO.y5 (u:=.bool b) hlive gQ hon hu h
 | int k n'=>exact cO.y5 (u:=.int k n') hlive gQ hon hu h
 | str s=>exact cO.y5 (u:=.str s) hlive gQ hon hu h
 | sl es m f g=>exact cO.y5 (u:=.sl es m f g) hlive gQ hon hu h
 | ro cs=>exact cO.y5 (u:=.ro cs) hlive gQ hon hu h
 | ptr o' i off=>exact cO.y5 (u:=.ptr o' i off) hlive gQ hon hu h
 | dA o' i m f=>exact cO.y5 (u:=.dA o' i m f) hlive gQ hon hu h
 | fn f cs=>exact cO.y5 (u:=.fn f cs) hlive gQ hon hu h
 | wW=>exact cO.y5 (u:=.wW) hlive gQ hon hu h
 | iK=>exact cO.y5 (u:=.iK) hlive gQ hon hu h
 | mref o=>exact cO.y5 (u:=.mref o) hlive gQ hon hu h
 | pm a b c=>exact cO.y5 (u:=.pm a b c) hlive gQ hon hu h
theorem gJ.Ro (hlive:∀j,j<n→D2 (fJ full j)) (gQ:∀j p,O' j=some p→j<n) (hon:∀j,j<n→On (fJ full j)=O' j) {ob:cu} {p:Own} (hu:acX ob=true) (hg:OJ ob=false) (h:gJ w' I' O' (λ k=>k<n) p ob):gJ w' I' On D2 p (Ab.Ro full ob):=by
 cases ob with
 | box cs=>
  obtain ⟨q1,b,bo,sz,q2,q3,q4,q5⟩:=h;refine ⟨q1,b,bo,sz,q2,q3,by rw [Hr]; exact q4,λ j hj=>?_⟩;rw [Hr] at hj;rw [Vs];exact (q5 j hj).yZ hlive gQ hon (Vt hu j hj)
 | row es m g=>exact h
 | map kd z f=>exact h
theorem adn (full:List Nat) (x:cu):gz (Ro full x)=(gz x).map (Ro full):=by
 cases x with
 | box=>rfl
 | row=>rfl
 | map kd z f=>
  simp only [Ro,gz];cases OJ (.map kd z f)<;>rfl
end back
set_option maxHeartbeats 1000000 in
theorem Ht (hR:Rel cfg cx H D w I O) (hn:G9 D bW) {f:FuncId} {args:List AV} {vals:Array Value} {sg0:List Nat} (hrun:∀fn,P.funcs[f]? = some fn→fn.body.isNone=false→(fn.name == "runtime.NumGoroutine")=false→(execOp a.eval o).run P w=.ok (.enter f vals) w)
  (hvl:vals.size=args.length) (hva:∀j,j<args.length→cO w I O D (nth args j) (vals.getD j Go.undef)) (h:dK (Spec P cfg) H (Oq bW f args sg0) v ups r):dG P cfg cx H D w I O bW o a v ups:=by
 unfold Oq at h;obtain ⟨sg,r0,h0⟩:=TR _ _ _ _ _ h;obtain ⟨hnd,h1⟩:=h0.bq;obtain ⟨obs,r1,h2,hol,Rx⟩:=Vo _ _ _ h1;have hlive:∀j,j<sg.length→∃x,H (fJ sg j)=some x:=λ j hj=>let ⟨x,_,hx⟩:=Rx j hj; ⟨x,hx⟩
 obtain ⟨Zg,h3,aip,hinv⟩:=Vq hR hlive obs _ _ h2;obtain ⟨args',ids,r2,h4,hal,abe⟩:=Cr hR hlive args _ _ h3;obtain ⟨hdj,h5⟩:=h4.bq;cases h5 with
 | @call _ _ _ _ res dQ _ _ _ hspec h6=>
 obtain ⟨aiq,h7⟩:=h6.bq;obtain ⟨hlen',h8⟩:=h7.bq;obtain ⟨hpr,h9⟩:=h8.bq;obtain ⟨rfl,rfl⟩:=h9.iP;have hlen':dQ.length≤sg.length+stride:=Nat.le_of_ble_eq_true hlen';clear h h0 h1 h2 h3 h4 h6 h7 h8 h9;obtain ⟨⟨fn,hf1,hf2,hf3⟩,hle,hcall⟩:=hspec;have agP:Zg.length=sg.length:=aip.trans hol;have hRs:=hR.sub (ids:=ids) (obs:=Zg) hnd hdj agP (λ j hj=>by
  obtain ⟨x,q1,q2⟩:=Rx j hj;obtain ⟨y,q3,q4⟩:=hinv j x q1;exact ⟨x,y,q3,q2,q4 _ (λ _ h=>.inl h)⟩)
 have agQ:∀j,j<sg.length→D (fJ sg j):=λ j hj=>by
  obtain ⟨x,hx⟩:=hlive j hj;obtain ⟨p,hp,_⟩:=hR.live hx;exact hR.used _ p hp
 generalize hnw:dQ.length - sg.length=nw;have air:sg.length+nw=dQ.length:=by omega
 have alU:nw≤stride:=by omega
 have ae2:∀k,bW≤k→k<bW+nw→k ∉ sg:=λ k hk1 hk2 hm=>by
  obtain ⟨j,h1,h2⟩:=Pn sg k hm;exact hn k hk1 om (h2 ▸ agQ j h1)
 have alV:∀k,bW≤k→k<bW+nw→O k=none:=λ k hk1 hk2=>by
  cases h:O k with
  | none=>rfl
  | some p=>exact absurd (hR.used k p h) (hn k hk1 om)
 have hfl:(sg++iU nw bW).length=dQ.length:=by rw [List.length_append,Xt]; exact air
 have Vv:∀j,j<sg.length→fJ (sg++iU nw bW) j=fJ sg j:=λ j hj=>Xv _ _ _ hj;have Vw:∀j,sg.length≤j→j<dQ.length→fJ (sg++iU nw bW) j=bW+(j - sg.length):=λ j h1 h2=>by
  rw [Xw _ _ _ h1,Xu _ _ _ om]
 have ais:kN (sg++iU nw bW)=true:=Rz _ λ i j hi hj e=>by
  rw [hfl] at hi hj;by_cases h1:i<sg.length
  ·by_cases h2:j<sg.length
   ·rw [Vv i h1,Vv j h2] at e;exact Aa sg hnd i j h1 h2 e
   ·rw [Vv i h1,Vw j om hj] at e;exact absurd (mE sg i h1) (by rw [e]; exact ae2 _ om om)
  ·by_cases h2:j<sg.length
   ·rw [Vw i om hi,Vv j h2] at e;exact absurd (mE sg j h2) (by rw [← e]; exact ae2 _ om om)
   ·rw [Vw i om hi,Vw j om hj] at e;omega
 intro next Q hnx
 refine Vr (hrun fn hf1 hf2 hf3) ((hcall w _ _ vals hRs om (λ j hj=>by rw [agP]; exact abe j om _ (hva j om))).mono ?_);rintro e w' ⟨x,I',O',rfl,hR',hres⟩;refine ⟨x,rfl,?_⟩;let On:OM:=λ k=>if bW≤k∧k<bW+nw then O' (sg.length+(k - bW)) else match o9 sg k 0 with
  | some j=>O' j
  | none=>if k∈ids then none else O k
 have hMc:∀b,(BK w (λ b=>I b∨wU O ids b) (lD O sg) Zg.length).M b→∃j p bo sz,j<sg.length∧O (fJ sg j)=some p∧p.pl=some (b,bo,sz):=by
  rintro b ⟨j,p,bo,sz,h1,h2⟩;unfold lD at h1;split at h1
  ·exact ⟨j,p,bo,sz,by assumption,h1,h2⟩
  ·cases h1
 have ae3:∀j,j<sg.length→O' j=O (fJ sg j)∨O' j=none:=λ j hj=>by
  rcases hR'.O5 j (show j<Zg.length by omega) with h | h
  ·left;rw [h];show lD O sg j=_;unfold lD;rw [if_pos hj]
  ·exact .inr h
 have hidx:∀k,k∈sg→∃j,o9 sg k 0=some j∧j<sg.length∧fJ sg j=k:=λ k hk=>by
  cases h:o9 sg k 0 with
  | none=>exact absurd hk (Zx sg k 0 h)
  | some j=>
   obtain ⟨_,h1,h2⟩:=za sg k 0 j h;exact ⟨j,rfl,by simpa using h1,by simpa using h2⟩
 have abf:∀k,k ∉ sg→o9 sg k 0=none:=λ k hk=>by
  cases h:o9 sg k 0 with
  | none=>rfl
  | some j=>
   obtain ⟨_,h1,h2⟩:=za sg k 0 j h;exact absurd (h2 ▸ mE sg _ h1) hk
 have Vx:∀j,j<sg.length→On (fJ sg j)=O' j:=λ j hj=>by
  have h1:¬ (bW≤fJ sg j∧fJ sg j<bW+nw):=λ h=>ae2 _ h.1 h.2 (mE sg j hj);obtain ⟨j2,h2,h3,h4⟩:=hidx _ (mE sg j hj);have:j2=j:=Aa sg hnd j2 j h3 hj h4;subst this;show (if _ then _ else _)=_;rw [if_neg h1,h2]
 have ae4:∀k,D k→On k=O k∨On k=none:=λ k hk=>by
  have h1:¬ (bW≤k∧k<bW+nw):=λ h=>hn k h.1 om hk;by_cases hs:k∈sg
  ·obtain ⟨j,_,h3,h4⟩:=hidx k hs;have:=Vx j h3;rw [h4] at this;rw [this];rcases ae3 j h3 with h | h
   ·rw [h,h4]; exact .inl rfl
   ·exact .inr h
  ·show (if _ then _ else _)=_∨(if _ then _ else _)=_;rw [if_neg h1,abf k hs];by_cases h2:k∈ids<;>simp [h2]
 have Cu:∀ {k p},¬ (bW≤k∧k<bW+nw)→On k=some p→O k=some p∧k ∉ ids:=λ {k p} h1 h=>by
  by_cases hs:k∈sg
  ·obtain ⟨j,_,h3,h4⟩:=hidx k hs;have h5:=Vx j h3;rw [h4,h] at h5;rcases ae3 j h3 with h6 | h6
   ·rw [h6,h4] at h5;exact ⟨h5.symm,λ hm=>FV ids sg hdj _ hm hs⟩
   ·rw [h6] at h5; cases h5
  ·have h':(if bW≤k∧k<bW+nw then O' (sg.length+(k - bW)) else match o9 sg k 0 with
    | some j=>O' j
    | none=>if k∈ids then none else O k)=some p:=h
   rw [if_neg h1,abf k hs] at h';simp only at h';by_cases h2:k∈ids
   ·simp [h2] at h'
   ·rw [if_neg h2] at h';exact ⟨h',h2⟩
 have FX:∀ {k},(bW≤k∧k<bW+nw)→On k=O' (sg.length+(k - bW)):=λ {k} h=>by
  show (if _ then _ else _)=_;rw [if_pos h]
 have hon:∀j,j<dQ.length→On (fJ (sg++iU nw bW) j)=O' j:=λ j hj=>by
  by_cases h1:j<sg.length
  ·rw [Vv j h1,Vx j h1]
  ·rw [Vw j om hj,FX ⟨by omega,by omega⟩];congr 1;omega
 have hD2:∀j,j<dQ.length→vV D bW (fJ (sg++iU nw bW) j):=λ j hj=>by
  by_cases h1:j<sg.length
  ·rw [Vv j h1]; exact .inl (agQ j h1)
  ·rw [Vw j om hj]; exact .inr ⟨by omega,by omega⟩
 have agR:∀j p,O' j=some p→j<dQ.length:=λ j p h=>hR'.used j p h;have ae5:∀b,I b→I' b:=λ b h=>hR'.G8 b (.inl h);have hI':∀b,I' b→(I b∨wU O ids b)∨w.heap.size≤b∨∃j p bo sz,j<sg.length∧O (fJ sg j)=some p∧p.pl=some (b,bo,sz):=λ b h=>by
  rcases hR'.L9 b h with h | h | h
  ·exact .inl h
  ·exact .inr (.inl h)
  ·exact .inr (.inr (hMc b h))
 have hfr:∀b,b<w.heap.size→(∀j p bo sz,j<sg.length→O (fJ sg j)=some p→p.pl≠some (b,bo,sz))→w'.heap[b]? = w.heap[b]? := λ b hb hno=>
  hR'.frame b hb (λ hm=>by obtain ⟨j,p,bo,sz,h1,h2,h3⟩:=hMc b hm; exact hno j p bo sz h1 h2 h3)
 have agS:∀b,I b→w'.heap[b]? = w.heap[b]? := λ b hb=>hfr b (hR.uw b hb) (λ j p bo sz h1 h2 h3=>hR.lu _ p b bo sz h2 h3 hb);have ae6:∀k p b bo sz,O k=some p→p.pl=some (b,bo,sz)→k ∉ sg→w'.heap[b]? = w.heap[b]? := λ k p b bo sz h1 h2 h3=>
  hfr b (hR.lt k p b bo sz h1 h2) (λ j p' kK sz' q1 q2 q3=>hR.inj k (fJ sg j) p p' b bo sz b kK sz' h1 q2 h2 q3 (λ e=>h3 (e ▸ mE sg j q1)) rfl)
 have agT:∀j p b bo sz,sg.length≤j→O' j=some p→p.pl=some (b,bo,sz)→w.heap.size≤b∨∃j' p' kK sz',j'<sg.length∧O' j'=none∧O (fJ sg j')=some p'∧p'.pl=some (b,kK,sz'):=λ j p b bo sz h1 h2 h3=>by
  rcases hR'.new _ p b bo sz h2 h3 with h | h
  ·exact .inl h
  ·obtain ⟨j',p',kK,sz',q1,q2,q3⟩:=hMc b h;rcases ae3 j' q1 with e | e
   ·exact absurd rfl (hR'.inj _ j' p p' b bo sz b kK sz' h2 (by rw [e]; exact q2) h3 q3 om)
   ·exact .inr ⟨j',p',kK,sz',q1,e,q2,q3⟩
 have hsep:∀j p b bo sz k p' b' kK sz',sg.length≤j→O' j=some p→p.pl=some (b,bo,sz)→¬ (bW≤k∧k<bW+nw)→On k=some p'→p'.pl=some (b',kK,sz')→b≠b':=λ j p b bo sz k p' b' kK sz' h1 h2 h3 h4 h5 h6 e=>by
  subst e;obtain ⟨q1,q2⟩:=Cu h4 h5;rcases agT j p b bo sz h1 h2 h3 with h | ⟨j',p2,bo2,sz2,e1,e2,e3,e4⟩
  ·have:=hR.lt k p' b kK sz' q1 h6;omega
  ·by_cases hk:k=fJ sg j'
   ·rw [hk,Vx j' e1,e2] at h5; cases h5
   ·exact hR.inj k (fJ sg j') p' p2 b kK sz' b bo2 sz2 q1 e3 h6 e4 hk rfl
 have agU:∀j,j<dQ.length→jK H (vR (sg++iU nw bW) (OO (sg++iU nw bW) dQ)++dead ids) (fJ (sg++iU nw bW) j)=(yD dQ j).map (Ro (sg++iU nw bW)):=λ j hj=>by
  obtain ⟨x,hx⟩:=abb dQ j hj;unfold jK;rw [Ct,TS _ _ j (Ro (sg++iU nw bW) x) ais (by rw [hfl]; exact hj) (by rw [Zv,hx]; rfl)];simp only;rw [adn,adk dQ j x hx]
 have abg:∀k,k ∉ sg→¬ (bW≤k∧k<bW+nw)→jK H (vR (sg++iU nw bW) (OO (sg++iU nw bW) dQ)++dead ids) k=if k∈ids then none else H k:=λ k h1 h2=>by
  have hmiss:look (vR (sg++iU nw bW) (OO (sg++iU nw bW) dQ)) k=none:=Ry _ _ _ (λ j q1 q2 e=>by
   rw [hfl] at q1;by_cases hj:j<sg.length
   ·rw [Vv j hj] at e;exact h1 (e ▸ mE sg j hj)
   ·rw [Vw j om q1] at e;exact h2 ⟨by omega,by omega⟩)
  unfold jK;rw [Ct,hmiss,Sy];by_cases h3:k∈ids<;>simp [h3]
 have abh:∀k,k∈sg∨(bW≤k∧k<bW+nw)→∃j,j<dQ.length∧fJ (sg++iU nw bW) j=k:=λ k h=>by
  rcases h with h | h
  ·obtain ⟨j,h1,h2⟩:=Pn sg k h;exact ⟨j,by omega,by rw [Vv j h1]; exact h2⟩
  ·exact ⟨sg.length+(k - bW),by omega,by rw [Vw _ om om]; omega⟩
 have hRn:Rel cfg cx (jK H (vR (sg++iU nw bW) (OO (sg++iU nw bW) dQ)++dead ids)) (vV D bW) w' I' On:={
  dom:=λ k=>by
   by_cases hk:k∈sg∨(bW≤k∧k<bW+nw)
   ·obtain ⟨j,h1,rfl⟩:=abh k hk
    rw [agU j h1,hon j h1,hR'.dom j]
    cases yD dQ j<;>simp
   ·have h1:k ∉ sg:=λ h=>hk (.inl h)
    have h2:¬ (bW≤k∧k<bW+nw):=λ h=>hk (.inr h)
    rw [abg k h1 h2]
    have:On k=if k∈ids then none else O k:=by show (if _ then _ else _)=_; rw [if_neg h2,abf k h1]
    rw [this]
    by_cases h3:k∈ids<;>simp [h3,hR.dom k]
  used:=λ k p h=>by
   by_cases hk:bW≤k∧k<bW+nw
   ·exact .inr ⟨hk.1,by omega⟩
   ·exact .inl (hR.used k p (Cu hk h).1)
  objs:=λ k ob p h h'=>by
   by_cases hk:k∈sg∨(bW≤k∧k<bW+nw)
   ·obtain ⟨j,h1,rfl⟩:=abh k hk
    rw [agU j h1] at h
    cases hx:yD dQ j with
    | none=>rw [hx] at h; cases h
    | some x=>
     rw [hx] at h
     cases h
     rw [hon j h1] at h'
     obtain ⟨hx1,hx2⟩:=Zj hx
     exact (hR'.objs j x p hx h').Ro hD2 agR hon (Zy aiq j x hx1) hx2
   ·have h1:k ∉ sg:=λ h=>hk (.inl h)
    have h2:¬ (bW≤k∧k<bW+nw):=λ h=>hk (.inr h)
    obtain ⟨q1,q2⟩:=Cu h2 h'
    rw [abg k h1 h2,if_neg q2] at h
    exact (hR.objs k ob p h q1).mono ae5 agS ae4 (λ _ h=>.inl h) hR.used (λ b bo sz hpl=>ae6 k p b bo sz q1 hpl h1)
  inj:=λ k k' p p' b bo sz b' kK sz' h1 h2 h3 h4 h5=>by
   by_cases hk:bW≤k∧k<bW+nw
   ·rw [FX hk] at h1
    by_cases hk':bW≤k'∧k'<bW+nw
    ·rw [FX hk'] at h2
     exact hR'.inj _ _ p p' b bo sz b' kK sz' h1 h2 h3 h4 om
    ·exact hsep _ p b bo sz k' p' b' kK sz' om h1 h3 hk' h2 h4
   ·by_cases hk':bW≤k'∧k'<bW+nw
    ·rw [FX hk'] at h2
     exact (hsep _ p' b' kK sz' k p b bo sz om h2 h4 hk h1 h3).symm
    ·exact hR.inj k k' p p' b bo sz b' kK sz' (Cu hk h1).1 (Cu hk' h2).1 h3 h4 h5
  lu:=λ k p b bo sz h1 h2 h3=>by
   by_cases hk:bW≤k∧k<bW+nw
   ·rw [FX hk] at h1
    exact hR'.lu _ p b bo sz h1 h2 h3
   ·obtain ⟨q1,q2⟩:=Cu hk h1
    by_cases hs:k∈sg
    ·obtain ⟨j,h4,rfl⟩:=Pn sg k hs
     exact hR'.lu j p b bo sz (by rw [← Vx j h4]; exact h1) h2 h3
    ·rcases hI' b h3 with (h | ⟨k',p',kK,sz',e1,e2,e3⟩) | h | ⟨j,p',kK,sz',e1,e2,e3⟩
     ·exact hR.lu k p b bo sz q1 h2 h
     ·exact hR.inj k k' p p' b bo sz b kK sz' q1 e2 h2 e3 (λ e=>q2 (e ▸ e1)) rfl
     ·have:=hR.lt k p b bo sz q1 h2; omega
     ·exact hR.inj k _ p p' b bo sz b kK sz' q1 e2 h2 e3 (λ e=>hs (e ▸ mE sg j e1)) rfl
  lt:=λ k p b bo sz h1 h2=>by
   by_cases hk:bW≤k∧k<bW+nw
   ·rw [FX hk] at h1
    exact hR'.lt _ p b bo sz h1 h2
   ·exact Nat.lt_of_lt_of_le (hR.lt k p b bo sz (Cu hk h1).1 h2) hR'.size
  uw:=hR'.uw
  size:=Nat.le_trans hR.size hR'.size
  env:=hR.env.step hR'.env.same
  frame:=λ b h1 h2=>by
   rw [hfr b (Nat.lt_of_lt_of_le h1 hR.size) (λ j p bo sz q1 q2 q3=>by
    rcases hR.new _ p b bo sz q2 q3 with h | h
    ·omega
    ·exact h2 h)]
   exact hR.frame b h1 h2
  new:=λ k p b bo sz h1 h2=>by
   by_cases hk:bW≤k∧k<bW+nw
   ·rw [FX hk] at h1
    rcases agT _ p b bo sz om h1 h2 with h | ⟨j',p2,bo2,sz2,e1,e2,e3,e4⟩
    ·exact .inl (Nat.le_trans hR.size h)
    ·exact hR.new _ p2 b bo2 sz2 e3 e4
   ·exact hR.new k p b bo sz (Cu hk h1).1 h2
  glob:=hR'.glob
  G8:=λ b h=>ae5 b (hR.G8 b h)
  L9:=λ b h=>by
   rcases hI' b h with (h | ⟨k',p',kK,sz',e1,e2,e3⟩) | h | ⟨j,p',kK,sz',e1,e2,e3⟩
   ·exact hR.L9 b h
   ·exact .inr (hR.new k' p' b kK sz' e2 e3)
   ·exact .inr (.inl (Nat.le_trans hR.size h))
   ·exact .inr (hR.new _ p' b kK sz' e2 e3)
  O5:=λ k h=>by
   rcases ae4 k (hR.Dm k h) with h1 | h1
   ·rw [h1]; exact hR.O5 k h
   ·exact .inr h1
  Dm:=λ k h=>.inl (hR.Dm k h) }
 exact hnx x w' I' On hRn (λ u y hu=>hu.mono ae5 agS ae4 (λ _ h=>.inl h) hR.used) (hres.acV hD2 agR hon hpr)
end
end Go.Ab
namespace Go.Ab
section
variable {w:World} {I:Nat→Prop} {O:OM} {D:Nat→Prop}
theorem vX:∀(l m:List AV),Fg l m→l.length=m.length∧∀j,j<l.length→Le (nth l j) (nth m j):=by
 intro l;induction l with
 | nil=>intro m h; cases m with
  | nil=>exact ⟨rfl,λ j hj=>by cases hj⟩
  | cons=>exact h.elim
 | cons u l ih=>intro m h; cases m with
  | nil=>exact h.elim
  | cons v m=>
   obtain ⟨h1,h2⟩:=ih m h.2
   refine ⟨by simp [h1],λ j hj=>?_⟩
   cases j with
   | zero=>exact h.1
   | succ j=>exact h2 j (by simpa using hj)
theorem Fg.refl:∀(l:List AV),Fg l l
 | []=>trivial
 | v::l=>⟨.refl v,Fg.refl l⟩
theorem Le.Kt {cs cs':List AV} (h:Fg cs cs'):Le (.agg cs) (.agg cs'):=.agg (vX _ _ h).1 (vX _ _ h).2
theorem Le.roL {cs cs':List AV} (h:Fg cs cs'):Le (.ro cs) (.ro cs'):=.ro (vX _ _ h).1 (vX _ _ h).2
theorem Xx {u v:AV} (h:Le u v):(∀x,fC w I u x→fC w I v x)∧u.cells.length=v.cells.length∧∀j,j<u.cells.length→∀x,fC w I (nth u.cells j) x→fC w I (nth v.cells j) x:=by
 have one:∀ {u v:AV},u.cells=[u]→v.cells=[v]→(∀x,fC w I u x→fC w I v x)→(∀x,fC w I u x→fC w I v x)∧u.cells.length=v.cells.length∧∀j,j<u.cells.length→∀x,fC w I (nth u.cells j) x→fC w I (nth v.cells j) x:=by
  intro u v h1 h2 h3;rw [h1,h2];refine ⟨h3,rfl,λ j hj x hx=>?_⟩;have:j=0:=by simpa using hj
  subst this;exact h3 x hx
 induction h with
 | refl v=>exact ⟨λ _ h=>h,rfl,λ _ _ _ h=>h⟩
 | @sl es es' n n' f f' g g' hn he hf h ih=>
  subst hn;refine one rfl rfl λ x hx=>?_;cases hx with
  | sl b off vs hcap hfull ha hes hm h1 hr=>
   refine .sl b off vs hcap (λ e=>hfull (hf e)) ha (λ i hi=>?_) (λ i j hi hj=>?_) (λ i j hi hj=>?_) (λ i j hi hj=>?_)
   ·rw [← (ih i hi).2.1,← he om]; exact hes i hi
   ·rw [← he om] at hj ⊢; exact hm i j hi hj
   ·rw [← he om] at hj; exact h1 i j hi hj
   ·rw [← he om] at hj; exact (ih i hi).2.2 j (by rw [hes i hi]; exact hj) _ (hr i j hi hj)
 | @ro cs cs' hl h ih=>
  refine one rfl rfl λ x hx=>?_;cases hx with
  | ro b off vs hI hm hr=>exact .ro b off vs hI (λ j hj=>hm j om) λ j hj=>(ih j om).1 _ (hr j om)
 | @agg cs cs' hl h ih=>
  refine ⟨λ x hx=>?_,hl,λ j hj x hx=>(ih j hj).1 x hx⟩;cases hx with
  | agg h1 hr=>exact .agg om λ j hj=>(ih j om).1 _ (hr j om)
 | @jg cs cs' hl h ih=>
  refine one rfl rfl λ x hx=>?_;cases hx with
  | jg h1 hr=>exact .jg om λ j hj=>(ih j om).1 _ (hr j om)
 | @fn f cs cs' hl h ih=>
  refine one rfl rfl λ x hx=>?_;cases hx with
  | fn h1 hr=>exact .fn om λ j hj=>(ih j om).1 _ (hr j om)
theorem Le.agV {u v:AV} (h:Le u v) {x:Value} (hx:fC w I u x):fC w I v x:=(Xx h).1 x hx
theorem Le.rep {u v:AV} (h:Le u v):∀ {x:Value},cO w I O D u x→cO w I O D v x:=by
 induction h with
 | refl v=>exact λ h=>h
 | sl hn he hf h ih=>intro x hx; exact .pure ((Le.sl hn he hf h).agV hx.rV)
 | ro hl h ih=>intro x hx; exact .pure ((Le.ro hl h).agV hx.O6)
 | agg hl h ih=>
  intro x hx;obtain ⟨vs,rfl,h1,h2⟩:=hx.lX;exact .agg om λ j hj=>ih j om (h2 j om)
 | jg hl h ih=>
  intro x hx;obtain ⟨vs,rfl,h1,h2⟩:=hx.zY;exact .jg om λ j hj=>ih j om (h2 j om)
 | fn hl h ih=>
  intro x hx;obtain ⟨vs,rfl,h1,h2⟩:=hx.vW;exact .fn om λ j hj=>ih j om (h2 j om)
theorem LeO.rep {p:Own} {x y:cu} (h:LeO x y) (hx:gJ w I O D p x):gJ w I O D p y:=by
 cases x with
 | map=>cases y with
  | box=>exact h.elim
  | row=>exact h.elim
  | map=>obtain ⟨rfl,rfl,rfl⟩:=h; exact hx
 | box cs=>cases y with
  | row=>exact h.elim
  | map=>exact h.elim
  | box cs'=>
   obtain ⟨h1,b,bo,sz,hp,ha,hl,hr⟩:=hx
   obtain ⟨h2,h3⟩:=vX _ _ h
   exact ⟨h1,b,bo,sz,hp,ha,by omega,λ j hj=>(h3 j om).rep (hr j om)⟩
 | row es n g=>cases y with
  | box=>exact h.elim
  | map=>exact h.elim
  | row es' n' g'=>
   obtain ⟨rfl,rfl,h⟩:=h
   obtain ⟨h1,h2,h3,h4⟩:=hx
   refine ⟨h1,h2,λ i hi=>by rw [← (Xx (w:=w) (I:=I) (h i hi)).2.1]; exact h3 i hi,?_⟩
   rcases h4 with h4 | ⟨b,bo,sz,hp,ha,hl,hr⟩
   ·exact .inl h4
   ·exact .inr ⟨b,bo,sz,hp,ha,hl,λ i j hi hj=>⟨(Xx (h i hi)).2.2 j (by rw [h3 i hi]; exact hj) _ (hr i j hi hj).1,(hr i j hi hj).2⟩⟩
theorem Zz:∀(l m:List cu),aeP l m→l.length=m.length∧∀j x y,hof l j=some x→hof m j=some y→LeO x y:=by
 intro l;induction l with
 | nil=>intro m h; cases m with
  | nil=>exact ⟨rfl,λ j x y h=>by cases h⟩
  | cons=>exact h.elim
 | cons u l ih=>intro m h; cases m with
  | nil=>exact h.elim
  | cons v m=>
   obtain ⟨h1,h2⟩:=ih m h.2
   refine ⟨by simp [h1],λ j x y hx hy=>?_⟩
   cases j with
   | zero=>cases hx; cases hy; exact h.1
   | succ j=>exact h2 j x y hx hy
theorem YD:∀(l:List cu) (j:Nat),hof l j=none↔l.length≤j:=by
 intro l;induction l with
 | nil=>intro j; simp [hof]
 | cons x l ih=>intro j; cases j with
  | zero=>simp [hof]
  | succ j=>simp [hof,ih]
theorem Spec.le {P:Program} {cfg:qz} {f:FuncId} {args args':List AV} {obs dQ:List cu} {r:AV} {ob2:List cu} (h:Ab.Spec P cfg f args' dQ r ob2) (ha:Fg args args') (ho:aeP obs dQ):Ab.Spec P cfg f args obs r ob2:=by
 obtain ⟨h1,h2,h3⟩:=h;obtain ⟨a1,a2⟩:=vX _ _ ha;obtain ⟨o1,o2⟩:=Zz _ _ ho;refine ⟨h1,by omega,λ w I O vals hR hv hrep=>?_⟩;have hR':Rel cfg (BK w I O dQ.length) (hof dQ) (λ o=>o<dQ.length) w I O:=by
  rw [← o1];exact { hR with
   dom:=λ o=>by rw [hR.dom o,YD,YD,o1]
   objs:=λ o y p hy hp=>by
    cases hx:hof obs o with
    | none=>rw [(hR.dom o).2 hx] at hp; cases hp
    | some x=>exact (o2 o x y hx hy).rep (hR.objs o x p hx hp) }
 have:=h3 w I O vals hR' om (λ j hj=>by rw [← o1]; exact (a2 j om).rep (hrep j om));rw [← o1] at this;exact this
end
end Go.Ab
namespace Go.Ab
open Go.MapKept
section
variable {P:Program} {cfg:qz} {cx:Ctx} {H:Nat→Option cu} {D:Nat→Prop} {w:World} {I:Nat→Prop} {O:OM} {Sp:kL}
variable {bW:Nat} {o:Oper} {a:Act} {ρ:Operand→AV} {v:AV} {ups:jh} {r:List Nat}
theorem ado {z:ZK} {es:Nat} {c:AV} (h:acY z es c=true):Le c (aeL z es c):=by
 unfold acY at h;split at h
 ·exact .refl _
 ·rename_i k k' n;have:k=k':=of_decide_eq_true h;subst this;exact .refl _
 ·exact .refl _
 ·rename_i es' n f g;split at h
  ·rename_i hb;have:=Nat.eq_of_beq_eq_true hb;subst this;exact .sl rfl (λ _=>rfl) nofun λ _ _=>.refl _
  ·have:=Nat.eq_of_beq_eq_true h;subst this;exact .sl rfl (λ hn=>absurd rfl hn) nofun λ _ hi=>absurd hi (Nat.not_lt_zero _)
 ·cases h
theorem ZA {zs:List ZK} {sz:Nat} {all:List AV}:∀(cs:List AV) (k:Nat),acZ zs sz all k cs=true→∀j,j<cs.length→acY (aaJ zs ((k+j).mod sz)) (Sl sz ((k+j).mod sz) 0 all) (nth cs j)=true:=by
 intro cs;induction cs with
 | nil=>intro k _ j hj; exact absurd hj (Nat.not_lt_zero _)
 | cons c cs ih=>
  intro k h j hj;unfold acZ at h;split at h
  ·rename_i hf;cases j with
   | zero=>exact hf
   | succ j=>
    have:=ih (k+1) h j (by simpa using hj);rw [show k+(j+1)=k+1+j by omega];exact this
  ·cases h
theorem abj (all:List AV) (b sz:Nat):∀(zs:List ZK) (j0 j:Nat),j<zs.length→nth (U8 all b sz j0 zs) j=aeL (aaJ zs j) (Sl sz (j0+j) 0 all) (nth all (b+(j0+j))):=by
 intro zs;induction zs with
 | nil=>intro j0 j h; exact absurd h (Nat.not_lt_zero _)
 | cons z zs ih=>
  intro j0 j h;cases j with
  | zero=>rfl
  | succ j=>
   have:=ih (j0+1) j (by simpa using h);simp only [U8,nth,aaJ];rw [this,show j0+1+j=j0+(j+1) by omega]
theorem Mg (all:List AV) (b sz:Nat):∀(zs:List ZK) (j0:Nat),(U8 all b sz j0 zs).length=zs.length:=by
 intro zs;induction zs with
 | nil=>intro _; rfl
 | cons z zs ih=>intro j0; simp only [U8,List.length_cons,ih]
variable {t:TypeId}
theorem abk (hc:fq P cfg) (hR:Rel cfg cx H D w I O) {x ix:Operand} (ho:o.op=.index t x ix) (hx:cO w I O D (ρ x) (a.eval x)) (hix:cO w I O D (ρ ix) (a.eval ix))
  (h:dK Sp H (eZ cfg bW (.index t x ix) ρ) v ups r):dG P cfg cx H D w I O bW o a v ups:=by
 simp only [eZ] at h;obtain ⟨ti,ht,h1⟩:=h.iG;obtain ⟨_,dd,_,_,hud,_,_,_,_,_,_,_,hm⟩:=(hc.ty t ti ht).ex;split at h1
 ·rename_i b k i e1 e2 e3;rw [e1] at hm;have hm:dd=.string:=hm;subst hm;rw [e2] at hx;rw [e3] at hix;have hxv:=hx.vw;have Vg:=hix.fQ;obtain ⟨⟨hn0,hn1⟩,rfl,rfl⟩:=h1.eY;refine dG.bZ (x:=.int .u8 (eX b i.toNat)) hR ?_ (.pure (.int _ _));have hlt:i.toNat<b.size:=by omega
  have hb:b[i.toNat]? = some b[i.toNat]:=by simp [hlt]
  simp [execOp,ho,hxv,Vg,Instr.index,asIntOf,bn hud,hn0,eX,hb]
 ·rename_i n et cs k i e1 e2 e3;rw [e1] at hm;have hm:dd=.array n et:=hm;subst hm;rw [e2] at hx;rw [e3] at hix;obtain ⟨vs,hxv,hl,hr⟩:=hx.lX;have Vg:=hix.fQ;obtain ⟨ei,he,h2⟩:=h1.iG;obtain ⟨ie,de,hie,agL,hde,adf⟩:=hc.agg he;unfold aaK at h2;obtain ⟨c0,h2⟩:=h2.bq;obtain ⟨z0,z1⟩:=y9 c0;obtain ⟨c1,h3⟩:=h2.bq;obtain ⟨c2,h4⟩:=h3.bq;obtain ⟨c3,h5⟩:=h4.bq;have c1:=Nat.eq_of_beq_eq_true c1;have c2:=Nat.eq_of_beq_eq_true c2;obtain ⟨⟨hn0,hn1⟩,rfl,rfl⟩:=h5.eY;have hlt:i.toNat<n:=by omega
  have hle:i.toNat*ei.size+ei.size≤cs.length:=by
   rw [c1,← Nat.succ_mul];exact Nat.mul_le_mul_right _ hlt
  have hcell:∀j,j<ei.size→cO w I O D (nth (U8 cs (i.toNat*ei.size) ei.size 0 ei.zero) j) (vs.getD (i.toNat*ei.size+j) Go.undef):=by
   intro j hj;rw [abj _ _ _ _ _ _ om,Nat.zero_add];have hf:=ZA cs 0 c3 (i.toNat*ei.size+j) om;have hmod:(0+(i.toNat*ei.size+j)).mod ei.size=j:=by
    show (0+(i.toNat*ei.size+j)) % ei.size=j;rw [Nat.zero_add,Nat.mul_comm,Nat.mul_add_mod];exact Nat.mod_eq_of_lt hj
   rw [hmod] at hf;exact (ado hf).rep (hr _ om)
  have hag:=Kh agL w;rw [hde] at hag;have hrun:∀u,(part et vs (i.toNat*ei.size)).run P w=.ok u w→(execOp a.eval o).run P w=.ok (.value u) w:=by
   intro u hu;rw [← adf] at hu;have hi':(0:Int)≤i∧i<n:=⟨hn0,hn1⟩;have hz:eB (w:=w) hie=eB (w:=w) hie:=rfl;simp only [execOp,ho,hxv,Vg,Instr.index,asIntOf,Sem.run_bind,Sem.run_pure,Result.andThen_ok,bn hud,hi',and_self,if_true,eB hie,hu]
  cases ha:ei.agg with
  | true=>
   rw [ha] at hag;have e1:(part et vs (i.toNat*ei.size)).run P w=.ok (.agg (vs.extract (i.toNat*ei.size) (i.toNat*ei.size+ei.size))) w:=by simp [part,Sem.run_bind,hag,eB hie,adf]
   refine dG.bZ hR (hrun _ e1) (.agg ?_ λ j hj=>?_)
   ·rw [Mg,c2]; simp; omega
   ·rw [Mg,c2] at hj;have h6:=hcell j hj;have h4:i.toNat*ei.size+j<vs.size:=by omega
    have h5:(vs.extract (i.toNat*ei.size) (i.toNat*ei.size+ei.size))[j]? = vs[i.toNat*ei.size+j]? := by
     rw [Array.getElem?_extract,if_pos om]
    simp only [Array.getD_eq_getD_getElem?, h5];simpa [h4] using h6
  | false=>
   rw [ha] at hag;have hs1:ei.size=1:=z1 ha;have h4:i.toNat*ei.size<vs.size:=by omega
   have e1:(part et vs (i.toNat*ei.size)).run P w=.ok (vs.getD (i.toNat*ei.size) Go.undef) w:=by simp [part,Sem.run_bind,hag,Array.getElem?_eq_getElem h4]
   exact dG.bZ hR (hrun _ e1) (hcell 0 om)
 ·exact (dK.aJ h1).elim
def Xy (cfg:qz) (kt:TypeId):TD→Prop
 | .struct [(0,a),(1,b)]=>∃ia ib,look cfg.ty a=some ia∧look cfg.ty b=some ib∧ia.desc=.int .i64∧ib.desc=.int .i64∧look cfg.eqs kt=some [.int .i64,.int .i64]
 | _=>True
theorem Po {k:Ei→Ei→Pg} (h:dK Sp H (aaH cfg t k) v ups r):∃ti kt et ki ei,look cfg.ty t=some ti∧ti.desc=.map kt et∧look cfg.ty kt=some ki∧look cfg.ty et=some ei∧ei.agg=false∧Xy cfg kt ki.desc∧dK Sp H (k ki ei) v ups r:=by
 unfold aaH at h;split at h
 ·rename_i ti ht;split at h
  ·rename_i kt et hd;obtain ⟨ki,hk,h1⟩:=h.iG;obtain ⟨ei,he,h2⟩:=h1.iG;obtain ⟨ha,h3⟩:=h2.bq;refine ⟨ti,kt,et,ki,ei,ht,hd,hk,he,by simpa using ha,?_⟩;unfold ad7 at h3;split at h3
   ·rename_i a b e;obtain ⟨ia,hia,h4⟩:=h3.iG;obtain ⟨ib,hib,h5⟩:=h4.iG;obtain ⟨c1,h6⟩:=h5.bq;obtain ⟨c2,h7⟩:=h6.bq;obtain ⟨c3,h8⟩:=h7.bq;rw [e];exact ⟨⟨ia,ib,hia,hib,of_decide_eq_true c1,of_decide_eq_true c2,of_decide_eq_true c3⟩,h8⟩
   ·rename_i hne;refine ⟨?_,h3⟩;unfold Xy;split
    ·rename_i a b e;exact absurd e (hne a b)
    ·trivial
  ·exact (dK.aJ h).elim
 ·exact (dK.aJ h).elim
theorem Xz (hR:Rel cfg cx H D w I O) (hn:¬ D bW) (ho:o.op=.makeMap t none) (h:dK Sp H (eZ cfg bW (.makeMap t none) ρ) v ups r):dG P cfg cx H D w I O bW o a v ups:=by
 simp only [eZ] at h;obtain ⟨ti,kt,et,ki,ei,ht,hd,hk,he,_,_,h1⟩:=Po h;obtain ⟨rfl,rfl⟩:=h1.iP;intro next Q hnx
 have hrun:(execOp a.eval o).run P w=.ok (.value (.map (some w.heap.size))) (w.alloc (.map #[] 0)):=by
  simp [execOp,ho,Instr.makeMap,newObj];rfl
 have hat:(w.alloc (.map #[] 0)).heap[w.heap.size]? = some (.map #[] 0):=by
  show (w.heap.push (.map #[] 0))[w.heap.size]? = _;simp
 refine nU hrun (hnx _ _ I (jy O bW ⟨0,1,some (w.heap.size,0,0)⟩) (hR.aec hn _ _ _ 0 rfl ?_) (λ u y hu=>hu.push hR _ _ hn) (.mref (p:=⟨0,1,some (w.heap.size,0,0)⟩) (by simp [jy]) rfl));exact ⟨rfl,_,_,_,#[],0,rfl,hat,⟨λ e he=>by simp at he,by simp,λ k n hk=>by cases hk⟩⟩
theorem Ku {u:AV} {k:kM} {x:Value} (h:keyOf u=some k) (hx:cO w I O D u x):x=jM k:=by
 unfold keyOf at h;split at h
 ·cases h; exact hx.vw
 ·cases h; exact hx.fQ
 ·rename_i a b;cases h;obtain ⟨vs,rfl,hl,hr⟩:=hx.lX;have h0:=(hr 0 (by simp)).fQ;have h1:=(hr 1 (by simp)).fQ;have hl:vs.size=2:=hl;have e:vs=#[.int .i64 a,.int .i64 b]:=by
   apply Array.ext
   ·simp [hl]
   ·intro i hi1 hi2;simp only [List.size_toArray,List.length_cons,List.length_nil] at hi2;have h0':vs[0]'om=.int .i64 a:=by simpa [Array.getD_eq_getD_getElem?, hl] using h0
    have h1':vs[1]'om=.int .i64 b:=by simpa [Array.getD_eq_getD_getElem?, hl] using h1
    rcases (by omega:i=0∨i=1) with rfl | rfl
    ·exact h0'
    ·exact h1'
  rw [e];rfl
 ·cases h
theorem Vy {k k':kM} (h:jM k=jM k'):k=k':=by
 cases k<;>cases k'<;>cases h<;>rfl
theorem TT (k:kM) (w:World):(Instr.keyThatStays (jM k) (jM k)).run P w=.ok (jM k) w:=by
 have h:Instr.sameBits 10000 (jM k) (jM k)=true:=by
  cases k with
  | s b=>simp [jM,Instr.sameBits,MapKept.bytes_beq]
  | i n=>simp [jM,Instr.sameBits]
  | p a b=>simp [jM,Instr.sameBits]
 simp [Instr.keyThatStays,h]
structure TU (P:Program) (kt:TypeId) (kd:TD):Prop where
 check:∀k,nu kd k=true→∀(e:Bool) (w:World),(Instr.checkKey e 10000 kt (jM k)).run P w=.ok () w
 find:∀k,nu kd k=true→∀(es:List MapEntry) (w:World),(∀e∈es,∃k',e.key=jM k'∧nu kd k'=true)→((Instr.findKey kt (jM k) es).run P w=.ok none w∧∀e∈es,e.key≠jM k)∨∃(j:Nat) (e:MapEntry),(Instr.findKey kt (jM k) es).run P w=.ok (some (j,e.val)) w∧es[j]? = some e∧e.key=jM k
variable {kt:TypeId}
theorem Hu {d:TypeDesc} {kd:TD} (hu:P.underlying kt=some d) (hk:∀k',nu kd k'=true→IsKey d (jM k')):TU P kt kd where
 check:=λ k h e w=>run_checkKey hu (hk k h) e 9999
 find:=λ k h es w hes=>by
  rcases findNow_spec (hk k h) es 0 (λ e he=>by obtain ⟨k',q1,q2⟩:=hes e he; rw [q1]; exact hk k' q2) with ⟨g1,g2⟩ | ⟨j,e,g1,g2,g3⟩
  ·exact .inl ⟨run_findKey hu g1,g2⟩
  ·refine .inr ⟨j,e,?_,g2,g3⟩;rw [Nat.zero_add] at g1;exact run_findKey hu g1
theorem Vz (hc:fq P cfg) {ki:Ei} {a b:TypeId} (hk:look cfg.ty kt=some ki) (hd:ki.desc=.struct [(0,a),(1,b)]) {ia ib:Ei} (hia:look cfg.ty a=some ia) (hib:look cfg.ty b=some ib) (ha:ia.desc=.int .i64) (hb:ib.desc=.int .i64)
  (heq:look cfg.eqs kt=some [.int .i64,.int .i64]):TU P kt ki.desc:=by
 obtain ⟨_,d,_,_,hu,_,_,_,_,_,_,_,hm⟩:=(hc.ty kt ki hk).ex;rw [hd] at hm;obtain ⟨fields,rfl,hfs⟩:=hm;have hua:P.underlying a=some (.int .i64):=by
  obtain ⟨_,da,_,_,hua,_,_,_,_,_,_,_,hma⟩:=(hc.ty a ia hia).ex;rw [ha] at hma;rw [hua,show da=.int .i64 from hma]
 have hub:P.underlying b=some (.int .i64):=by
  obtain ⟨_,db,_,_,hub,_,_,_,_,_,_,_,hmb⟩:=(hc.ty b ib hib).ex;rw [hb] at hmb;rw [hub,show db=.int .i64 from hmb]
 obtain ⟨f1,f2,hl,e1,e2,e3,e4⟩:∃f1 f2,fields.toList=[f1,f2]∧f1.offset=0∧f1.type=a∧f2.offset=1∧f2.type=b:=by
  cases hh:fields.toList with
  | nil=>rw [hh] at hfs; cases hfs
  | cons f1 l=>cases l with
   | nil=>rw [hh] at hfs; simp at hfs
   | cons f2 l=>cases l with
    | cons=>rw [hh] at hfs; simp at hfs
    | nil=>
     rw [hh] at hfs
     simp only [List.map_cons,List.map_nil,List.cons.injEq,Prod.mk.injEq,and_true] at hfs
     exact ⟨f1,f2,rfl,hfs.1.1,hfs.1.2,hfs.2.1,hfs.2.2⟩
 have key:∀k,nu ki.desc k=true→∃x y,k=.p x y:=by
  intro k h;rw [hd] at h;cases k with
  | s=>cases h
  | i=>cases h
  | p x y=>exact ⟨x,y,rfl⟩
 have aef:∀(n:Nat) (e:Bool) (t:TypeId) (x:Value) (w:World),P.underlying t=some (.int .i64)→(Instr.checkKey e (n+1) t x).run P w=.ok () w:=by
  intro n e t x w ht;unfold Instr.checkKey;simp only [Sem.run_bind,bn ht,Result.andThen];cases x<;>rfl
 have heqv:∀(x y x' y':Int) (w:World),(Op.equal kt (jM (.p x y)) (jM (.p x' y'))).run P w=.ok ((x==x')&&((y==y')&&true)) w:=by
  intro x y x' y' w;refine yE (I:=λ _=>False) (O:=λ _=>none) (D:=λ _=>False) hc heq (cs:=[.int .i64 x,.int .i64 y]) (cs':=[.int .i64 x',.int .i64 y']) rfl rfl rfl (λ j hj=>?_) (λ j hj=>?_)
  ·match j,hj with
   | 0,_=>exact .pure (.int _ _)
   | 1,_=>exact .pure (.int _ _)
  ·match j,hj with
   | 0,_=>exact .pure (.int _ _)
   | 1,_=>exact .pure (.int _ _)
 refine ⟨λ k h e w=>?_,λ k h es w hes=>?_⟩
 ·obtain ⟨x,y,rfl⟩:=key k h;have p1:=vB (P:=P) hua rfl #[Value.int .i64 x,Value.int .i64 y] 0 (by simp) w;have p2:=vB (P:=P) hub rfl #[Value.int .i64 x,Value.int .i64 y] 1 (by simp) w;have q1:∀x,(Instr.checkKey e 9999 a x).run P w=.ok () w:=λ x=>aef 9998 e a x w hua;have q2:∀x,(Instr.checkKey e 9999 b x).run P w=.ok () w:=λ x=>aef 9998 e b x w hub;show (Instr.checkKey e (9999+1) kt _).run P w=_;unfold Instr.checkKey;simp only [Sem.run_bind,bn hu,Result.andThen,jM];rw [← Array.forIn_toList,hl];simp only [List.forIn_cons,List.forIn_nil];by_cases h1:f1.name ≠ "_" <;> by_cases h2:f2.name ≠ "_" <;> simp [h1,h2,e1,e2,e3,e4,p1,p2,q1,q2,Sem.run_bind,Result.andThen]
 ·obtain ⟨x,y,rfl⟩:=key k h;have ask:∀(l:List MapEntry) (i:Nat),(∀e∈l,∃k',e.key=jM k'∧nu ki.desc k'=true)→((Instr.findAsking kt (jM (.p x y)) l i).run P w=.ok none w∧∀e∈l,e.key≠jM (.p x y))∨∃(j:Nat) (e:MapEntry),(Instr.findAsking kt (jM (.p x y)) l i).run P w=.ok (some (i+j,e.val)) w∧l[j]? = some e∧e.key=jM (.p x y):=by
   intro l;induction l with
   | nil=>intro i _; exact .inl ⟨rfl,λ e he=>by cases he⟩
   | cons e l ih=>
    intro i hes;obtain ⟨k',hk',hf'⟩:=hes e (by simp);obtain ⟨x',y',rfl⟩:=key k' hf';by_cases hxy:x=x'∧y=y'
    ·obtain ⟨rfl,rfl⟩:=hxy;refine .inr ⟨0,e,?_,rfl,hk'⟩;have hb:((x==x)&&((y==y)&&true))=true:=by simp
     rw [Instr.findAsking,hk',Sem.run_bind,heqv,hb];rfl
    ·have hb:((x==x')&&((y==y')&&true))=false:=by
      cases hq:((x==x')&&((y==y')&&true)) with
      | false=>rfl
      | true=>simp at hq; exact absurd hq hxy
     have hr:(Instr.findAsking kt (jM (.p x y)) (e::l) i).run P w=(Instr.findAsking kt (jM (.p x y)) l (i+1)).run P w:=by
      rw [Instr.findAsking,hk',Sem.run_bind,heqv,hb];rfl
     rw [hr];have hne:e.key≠jM (.p x y):=λ q=>hxy (by
      rw [hk'] at q
      have:=Vy q
      cases this
      exact ⟨rfl,rfl⟩)
     rcases ih (i+1) (λ e he=>hes e (List.mem_cons_of_mem _ he)) with ⟨g1,g2⟩ | ⟨j,e',g1,g2,g3⟩
     ·refine .inl ⟨g1,λ e' he'=>?_⟩;rcases List.mem_cons.1 he' with rfl | he'
      ·exact hne
      ·exact g2 e' he'
     ·exact .inr ⟨j+1,e',by rw [g1,show i+1+j=i+(j+1) by omega],by simpa using g2,g3⟩
  cases es with
  | nil=>
   left;refine ⟨?_,λ e he=>by cases he⟩;simp [Instr.findKey,bn hu,Result.andThen,Instr.findNow]
  | cons e l=>
   have hn:Instr.findNow (.struct fields) (jM (.p x y)) (e::l) 0=none:=by
    simp [Instr.findNow,Instr.sameNow]
   have hr:(Instr.findKey kt (jM (.p x y)) (e::l)).run P w=(Instr.findAsking kt (jM (.p x y)) (e::l) 0).run P w:=by
    simp [Instr.findKey,bn hu,Result.andThen,hn]
   rw [hr];rcases ask (e::l) 0 hes with h | ⟨j,e',g1,g2,g3⟩
   ·exact .inl h
   ·exact .inr ⟨j,e',by rw [g1,Nat.zero_add],g2,g3⟩
theorem YE (hc:fq P cfg) {ki:Ei} (hk:look cfg.ty kt=some ki) (hp:Xy cfg kt ki.desc) {k:kM} (h:nu ki.desc k=true):TU P kt ki.desc:=by
 obtain ⟨_,d,_,_,hu,_,_,_,_,_,_,_,hm⟩:=(hc.ty kt ki hk).ex;cases hdd:ki.desc with
 | str=>
  rw [hdd] at hm;have hm:d=.string:=hm;subst hm;exact Hu hu λ k' h'=>by cases k'<;>first | trivial | cases h'
 | int kk=>
  rw [hdd] at hm;have hm:d=.int kk:=hm;subst hm;exact Hu hu λ k' h'=>by
   cases k' with
   | i n=>cases kk<;>first | (cases h'; done) | rfl
   | _=>cases h'
 | struct fs=>
  rw [hdd] at h hp;cases k with
  | s=>cases h
  | i=>cases h
  | p x y=>
   have h:(match TD.struct fs with | .struct [(0,_),(1,_)]=>true | _=>false)=true:=h;split at h
   ·rename_i a b e;cases e;obtain ⟨ia,ib,h1,h2,h3,h4,h5⟩:=hp;rw [← hdd];exact Vz hc hk hdd h1 h2 h3 h4 h5
   ·cases h
 | _=>rw [hdd] at h; cases k<;>cases h
theorem VA {z:List ZK} (hz:J6 z=true) (n:Int):fC w I (WV z n) (OY z n):=by
 match z,hz with
 | [.bool],_=>exact .bool _
 | [.int k],_=>exact .int _ _
 | [.other],_=>
  match n with
  | .ofNat (m+1)=>exact .fn rfl (λ j hj=>absurd hj (Nat.not_lt_zero _))
  | .ofNat 0=>exact .undef _
  | .negSucc _=>exact .undef _
end
end Go.Ab
namespace Go.Ab
open Go.MapKept
section
variable {P:Program} {cfg:qz} {cx:Ctx} {H:Nat→Option cu} {D:Nat→Prop} {w:World} {I:Nat→Prop} {O:OM} {Sp:kL}
variable {bW:Nat} {o:Oper} {a:Act} {ρ:Operand→AV} {v:AV} {ups:jh} {r:List Nat}
variable {z:List ZK}
theorem VB {kt:TypeId} {kd:TD} {f:kM→Option Int} {es:Array MapEntry} (hm:Ke kd z f es) {k:kM} (hk:TU P kt kd) (VD:nu kd k=true) (w:World):
  ((Instr.findKey kt (jM k) es.toList).run P w=.ok none w∧f k=none∧∀e∈es.toList,e.key≠jM k)∨∃j e n,(Instr.findKey kt (jM k) es.toList).run P w=.ok (some (j,OY z n)) w∧es[j]? = some e∧e.key=jM k∧f k=some n∧e.val=OY z n:=by
 rcases hk.find k VD es.toList w (λ e he=>by
  obtain ⟨k',n',q1,q2,_⟩:=hm.keys e he;exact ⟨k',q1,q2⟩) with ⟨g1,g2⟩ | ⟨j,e,g1,g2,g3⟩
 ·refine .inl ⟨g1,?_,g2⟩;cases hf:f k with
  | none=>rfl
  | some n=>
   obtain ⟨e,he1,he2⟩:=hm.all k n hf;exact absurd he2 (g2 e he1)
 ·obtain ⟨k',n',q1,q2,q3,q4⟩:=hm.keys e (List.mem_of_getElem? g2);rw [g3] at q1;have:=Vy q1;subst this;exact .inr ⟨j,e,n',by rw [g1,q4],by simpa using g2,g3,q3,q4⟩
theorem VE (hz:J6 z=true) {x:Value} (h1:x.cells=#[x]) (hm:Cj (z.getD 0 .other) (x.cells.getD 0 Go.undef)):fC w I (WV z 0) x:=by
 rw [h1] at hm;match z,hz with
 | [.bool],_=>
  have hm:x=.bool false:=hm
  rw [hm]
  exact .bool _
 | [.int k],_=>
  have hm:x=.int k 0:=hm
  rw [hm]
  exact .int _ _
 | [.other],_=>exact .undef _
theorem ZB (hc:fq P cfg) (hR:Rel cfg cx H D w I O) {t:TypeId} {x ix:Operand} {okk:Bool} (ho:o.op=.lookup t x ix okk) (hx:cO w I O D (ρ x) (a.eval x)) (hix:cO w I O D (ρ ix) (a.eval ix))
  (h:dK Sp H (eZ cfg bW (.lookup t x ix okk) ρ) v ups r):dG P cfg cx H D w I O bW o a v ups:=by
 simp only [eZ] at h;obtain ⟨ti,kt,et,ki,ei,ht,hd,hk,he,hag,abl,h1⟩:=Po h;have main:∀(b:Nat) (kd:TD) (z:List ZK) (f:kM→Option Int) (es:Array MapEntry) (clock:Nat) (k:kM),a.eval x=.map (some b)→a.eval ix=jM k→w.heap[b]? = some (.map es clock)→Ke kd z f es→kd=ki.desc→z=ei.zero→J6 z=true→nu ki.desc k=true→dG P cfg cx H D w I O bW o a (U7 z f k okk) []:=by
  intro b kd z f es clock k hxv hkv hw hm c1 c2 c3 VD;obtain ⟨_,dd,_,_,hud,_,_,_,_,_,_,_,hmt⟩:=(hc.ty t ti ht).ex;rw [hd] at hmt;have hmt:dd=.map kt et:=hmt;subst hmt;have hko:=YE hc hk abl VD;obtain ⟨ie,_,ze,hie,_,hze,hse,_,_,hzc,hzl,GX,_⟩:=(hc.ty et ei he).ex;have hz1:=(hc.ty et ei he).one hag ie ze hie hze;rw [← c1] at hko VD;have Kv:=λ e=>hko.check k VD e w;have hrep:∀q,fC w I (U7 z f k okk) (if okk=true then Value.tuple #[OY z (vS f k),.bool q] else OY z (vS f k))∨q≠(f k).isSome:=by
   intro q;by_cases hq:q=(f k).isSome
   ·left;subst hq;cases okk with
    | false=>exact VA c3 _
    | true=>
     refine .jg rfl λ j hj=>?_;match j,hj with
     | 0,_=>exact VA c3 _
     | 1,_=>exact .bool _
   ·exact .inr hq
  rcases VB hm hko VD w with ⟨g1,g2,_⟩ | ⟨j,e,n,g1,g2,g3,g4,g5⟩
  ·have e0:vS f k=0:=by unfold vS; rw [g2]; rfl
   have hz0:fC w I (WV z 0) ze:=by
    refine VE c3 hz1 ?_;have hsz:0<ei.size:=by
     have:ze.cells.size=1:=by rw [hz1]; rfl
     omega
    have:=GX 0 hsz;rwa [← c2] at this
   have hr:fC w I (U7 z f k okk) (if okk=true then Value.tuple #[ze,.bool false] else ze):=by
    cases okk with
    | false=>
     show fC w I (WV z (vS f k)) ze;rw [e0]; exact hz0
    | true=>
     refine .jg rfl λ j hj=>?_;match j,hj with
     | 0,_=>
      show fC w I (WV z (vS f k)) ze
      rw [e0]; exact hz0
     | 1,_=>
      show fC w I (.bool (f k).isSome) (.bool false)
      rw [g2]; exact .bool _
   refine dG.bZ hR ?_ (.pure hr);simp [execOp,ho,hxv,hkv,Instr.lookup,bn hud,MapKept.run_getObj_map hw,Kv,g1,zeroValue,typeInfo,hie,hze]
  ·have e0:vS f k=n:=by unfold vS; rw [g4]; rfl
   rcases hrep true with hr | hr
   ·refine dG.bZ hR ?_ (.pure hr);simp [execOp,ho,hxv,hkv,Instr.lookup,bn hud,MapKept.run_getObj_map hw,Kv,g1,e0]
   ·rw [g4] at hr; exact absurd rfl hr
 split at h1
 ·rename_i ob k e1 e2;rw [e1] at hx;have hkv:=Ku e2 hix;obtain ⟨VD,h2⟩:=h1.bq;obtain ⟨obj,_,lg,h3⟩:=h2.jN;obtain ⟨p,hp,hO⟩:=hR.live lg;cases obj with
  | box=>exact (dK.aJ h3).elim
  | row=>exact (dK.aJ h3).elim
  | map kd z f=>
   obtain ⟨c1,h4⟩:=h3.bq;obtain ⟨c2,h5⟩:=h4.bq;obtain ⟨c3,h6⟩:=h5.bq;obtain ⟨rfl,rfl⟩:=h6.dn;obtain ⟨hn,b,bo,sz,es,clock,hpl,hw,hm⟩:=hO;obtain ⟨b',kK,sz',hpl',hxv⟩:=hx.qA hp;rw [hpl] at hpl';cases hpl';exact main b kd z f es clock k hxv hkv hw hm (of_decide_eq_true c1) (of_decide_eq_true c2) c3 VD
 ·rename_i kd z f k e1 e2;rw [e1] at hx;have hkv:=Ku e2 hix;obtain ⟨VD,h2⟩:=h1.bq;obtain ⟨c1,h4⟩:=h2.bq;obtain ⟨c2,h5⟩:=h4.bq;obtain ⟨c3,h6⟩:=h5.bq;obtain ⟨rfl,rfl⟩:=h6.dn;obtain ⟨b,es,clock,_,hw,hm,hxv⟩:=hx.aeR;exact main b kd z f es clock k hxv hkv hw hm (of_decide_eq_true c1) (of_decide_eq_true c2) c3 VD
 ·exact (dK.aJ h1).elim
theorem abm {u:AV} {n:Int} {x:Value} (h:aeK z u=some n) (hx:cO w I O D u x):x=OY z n:=by
 unfold aeK at h;split at h
 ·split at h
  ·rename_i b _;cases h;rw [hx.jr];cases b<;>rfl
  ·cases h
 ·split at h
  ·split at h
   ·rename_i k m k' _ e;cases h;have:=of_decide_eq_true e;subst this;rw [hx.fQ];rfl
   ·cases h
  ·cases h
 ·split at h
  ·cases h;obtain ⟨vs,hv,hl,_⟩:=hx.vW;rw [hv,show vs=#[] from Array.eq_empty_of_size_eq_zero hl];rfl
  ·cases h
 ·cases h
theorem SC (f:kM→Option Int) (k:kM) (n:Int):FR f k n k=some n:=by simp [FR]
theorem Ow (f:kM→Option Int) {k k':kM} (n:Int) (h:k'≠k):FR f k n k'=f k':=by simp [FR,h]
theorem Hw (hc:fq P cfg) (hR:Rel cfg cx H D w I O) {t:TypeId} {x ix y:Operand} (ho:o.op=.mapUpdate t x ix y∨o.op=.insert t x ix y) (hx:cO w I O D (ρ x) (a.eval x)) (hix:cO w I O D (ρ ix) (a.eval ix)) (hy:cO w I O D (ρ y) (a.eval y))
  (h:dK Sp H (Yu cfg t (ρ x) (ρ ix) (ρ y)) v ups r):dG P cfg cx H D w I O bW o a v ups:=by
 unfold Yu at h;obtain ⟨ti,kt,et,ki,ei,ht,hd,hk,he,hag,abl,h1⟩:=Po h;split at h1
 ·rename_i ob k n e1 e2 e3;rw [e1] at hx;have hkv:=Ku e2 hix;have hyv:=abm e3 hy;obtain ⟨VD,h2⟩:=h1.bq;obtain ⟨obj,_,lg,h3⟩:=h2.jN;obtain ⟨p,hp,hO⟩:=hR.live lg;cases obj with
  | box=>exact (dK.aJ h3).elim
  | row=>exact (dK.aJ h3).elim
  | map kd z f=>
   obtain ⟨c1,h4⟩:=h3.bq;obtain ⟨c2,h5⟩:=h4.bq;obtain ⟨c3,h6⟩:=h5.bq;obtain ⟨rfl,rfl⟩:=h6.iP;have c1:=of_decide_eq_true c1;have c2:=of_decide_eq_true c2;rw [← c2] at hyv;obtain ⟨hn,b,bo,sz,es,clock,hpl,hw,hm⟩:=hO;obtain ⟨b',kK,sz',hpl',hxv⟩:=hx.qA hp;rw [hpl] at hpl';cases hpl';obtain ⟨_,dd,_,_,hud,_,_,_,_,_,_,_,hmt⟩:=(hc.ty t ti ht).ex;rw [hd] at hmt;have hmt:dd=.map kt et:=hmt;subst hmt;have hko:=YE hc hk abl VD;rw [← c1] at hko VD;have Kv:=λ e=>hko.check k VD e w;obtain ⟨es',clock',hrun,hm'⟩:∃es' clock',(execOp a.eval o).run P w=.ok .skip { w with heap:=w.heap.setIfInBounds b (.map es' clock') }∧Ke kd z (FR f k n) es':=by
    rcases VB hm hko VD w with ⟨g1,g2,g3⟩ | ⟨j,e,m,g1,g2,g3,g4,g5⟩
    ·refine ⟨es.push { key:=jM k,val:=OY z n,born:=clock },clock+1,?_,?_⟩
     ·rcases ho with ho | ho<;>simp [execOp,ho,hxv,hkv,hyv,Instr.mapUpdate,bn hud,MapKept.run_getObj_map hw,Kv,g1,MapKept.run_setObj_map _ hw]
     ·refine ⟨λ e he=>?_,?_,λ k' n' h'=>?_⟩
      ·simp only [Array.toList_push,List.mem_append,List.mem_singleton] at he;rcases he with he | rfl
       ·obtain ⟨k',n',q1,q2,q3,q4⟩:=hm.keys e he;have hne:k'≠k:=λ e'=>g3 e he (by rw [q1,e']);exact ⟨k',n',q1,q2,by rw [Ow f n hne]; exact q3,q4⟩
       ·exact ⟨k,n,rfl,VD,SC f k n,rfl⟩
      ·simp only [Array.toList_push];refine List.pairwise_append.2 ⟨hm.uniq,by simp,λ x hx y hy=>?_⟩;simp only [List.mem_singleton] at hy;subst hy;exact g3 x hx
      ·simp only [Array.toList_push,List.mem_append,List.mem_singleton];by_cases hkk:k'=k
       ·subst hkk;exact ⟨_,.inr rfl,rfl⟩
       ·rw [Ow f n hkk] at h';obtain ⟨e,h1,h2⟩:=hm.all k' n' h';exact ⟨e,.inl h1,h2⟩
    ·have hj:j<es.size:=by
      rcases Nat.lt_or_ge j es.size with h | h
      ·exact h
      ·rw [Array.getElem?_eq_none h] at g2; cases g2
     refine ⟨es.modify j λ e=>{ e with key:=jM k,val:=OY z n },clock,?_,?_⟩
     ·rcases ho with ho | ho<;>simp [execOp,ho,hxv,hkv,hyv,Instr.mapUpdate,bn hud,MapKept.run_getObj_map hw,Kv,g1,g2,g3,TT,MapKept.run_setObj_map _ hw]
     ·have hkey:(es.modify j λ e=>{ e with key:=jM k,val:=OY z n }).toList.map (·.key)=es.toList.map (·.key):=modify_keys j _ λ e' he'=>by rw [g2] at he'; cases he'; exact g3.symm
      have agW:∀i e',es[i]? = some e'→e'.key=jM k→i=j:=by
       intro i e' hi hk';have hpw:=List.pairwise_iff_getElem.1 hm.uniq;obtain ⟨hi1,hi2⟩:=Array.getElem?_eq_some_iff.1 hi;obtain ⟨hj1,hj2⟩:=Array.getElem?_eq_some_iff.1 g2;rcases Nat.lt_trichotomy i j with h | h | h
       ·exact absurd (show es.toList[i].key=es.toList[j].key by rw [Array.getElem_toList,Array.getElem_toList,hi2,hj2,hk',g3]) (hpw i j (by simpa using hi1) (by simpa using hj1) h)
       ·exact h
       ·exact absurd (show es.toList[j].key=es.toList[i].key by rw [Array.getElem_toList,Array.getElem_toList,hi2,hj2,hk',g3]) (hpw j i (by simpa using hj1) (by simpa using hi1) h)
      refine ⟨λ e' he'=>?_,?_,λ k' n' h'=>?_⟩
      ·obtain ⟨i,hi,hie⟩:=List.getElem_of_mem he';have hi2:(es.modify j λ e=>{ e with key:=jM k,val:=OY z n })[i]? = some e':=by
        rw [← Array.getElem?_toList,List.getElem?_eq_getElem hi,hie]
       rw [Array.getElem?_modify] at hi2;by_cases hij:j=i
       ·subst hij;rw [if_pos rfl,g2] at hi2;simp only [Option.map_some,Option.some.injEq] at hi2;subst hi2;exact ⟨k,n,rfl,VD,SC f k n,rfl⟩
       ·rw [if_neg hij] at hi2;obtain ⟨k',n',q1,q2,q3,q4⟩:=hm.keys e' (Array.mem_toList_iff.2 (Array.mem_of_getElem? hi2));have hne:k'≠k:=λ e''=>hij (agW i e' hi2 (by rw [q1,e''])).symm;exact ⟨k',n',q1,q2,by rw [Ow f n hne]; exact q3,q4⟩
      ·have h1:(es.toList.map (·.key)).Pairwise (· ≠ ·):=List.pairwise_map.2 hm.uniq;rw [← hkey] at h1;exact List.pairwise_map.1 h1
      ·have hmem:jM k'∈es.toList.map (·.key):=by
        by_cases hkk:k'=k
        ·subst hkk;exact List.mem_map.2 ⟨e,Array.mem_toList_iff.2 (Array.mem_of_getElem? g2),g3⟩
        ·rw [Ow f n hkk] at h';obtain ⟨e',h1,h2⟩:=hm.all k' n' h';exact List.mem_map.2 ⟨e',h1,h2⟩
       rw [← hkey] at hmem;obtain ⟨e',h1,h2⟩:=List.mem_map.1 hmem;exact ⟨e',h1,h2⟩
   obtain ⟨Zp,Rn⟩:=MapKept.heap_set (o':=.map es' clock') hw;have hsz:({ w with heap:=w.heap.setIfInBounds b (.map es' clock') }:World).heap.size=w.heap.size:=by simp
   intro next Q hnx
   have aiu:y7 cx { w with heap:=w.heap.setIfInBounds b (.map es' clock') }:=by
    refine ⟨⟨hR.env.same.os,hR.env.same.tape,hR.env.same.output,λ i ob hi ho=>?_⟩,λ i ob hi=>?_⟩
    ·have h1:=hR.env.same.keep i ob hi ho;have hne:i≠b:=λ e=>by
      subst e;rw [hw] at h1;cases h1;cases ho
     show (w.heap.setIfInBounds b _)[i]? = _;rw [Rn i hne];exact h1
    ·obtain ⟨h1,h2⟩:=hR.env.kept i ob hi;have hne:i≠b:=λ e=>by
      subst e;rw [hw] at h1;cases h1;cases h2
     refine ⟨?_,h2⟩;show (w.heap.setIfInBounds b _)[i]? = _;rw [Rn i hne];exact h1
   have hR':=hR.aa4 aiu (.map kd z (FR f k n)) hp hpl (λ b' hb'=>Rn b' hb') hsz ⟨hn,b,bo,sz,es',clock',hpl,Zp,hm'⟩;have Km:∀b',I b'→({ w with heap:=w.heap.setIfInBounds b (.map es' clock') }:World).heap[b']? = w.heap[b']? := λ b' h=>Rn b' (λ e=>hR.lu ob p b bo sz hp hpl (e ▸ h));have hkeep:∀u y,cO w I O D u y→cO { w with heap:=w.heap.setIfInBounds b (.map es' clock') } I O D u y:=λ u y hu=>hu.mono (λ _ h=>h) Km (λ _ _=>.inl rfl) (λ _ h=>h) hR.used;exact Hl hrun (hnx Go.undef _ I O (hR'.qV bW) (λ u y hu=>(hkeep u y hu).qV hR' bW) (.pure (.undef _)))
 ·exact (dK.aJ h1).elim
end
end Go.Ab
namespace Go.Ab
section
variable {P:Program} {cfg:qz} {cx:Ctx} {H:Nat→Option cu} {D:Nat→Prop} {w:World} {I:Nat→Prop} {O:OM}
variable {bW:Nat} {o:Oper} {a:Act} {ρ:Operand→AV} {v:AV} {ups:jh} {r:List Nat}
theorem Pp (hR:Rel cfg cx H D w I O) {f:FuncId} {args:List AV} {vals:Array Value} (hrun:∀fn,P.funcs[f]? = some fn→fn.body.isNone=false→(fn.name == "runtime.NumGoroutine")=false→(execOp a.eval o).run P w=.ok (.enter f vals) w)
  (hvl:vals.size=args.length) (hva:∀j,j<args.length→cO w I O D (nth args j) (vals.getD j Go.undef))
  (h:dK (Spec P cfg) H (yY [] args λ args' _=>.call f args' [] λ r dQ=>match dQ with | []=>dV (aaC r) (gT r) | _::_=>.fail) v ups r):dG P cfg cx H D w I O bW o a v ups:=by
 obtain ⟨args',ids,r2,h4,hal,abe⟩:=Cr hR (sg:=[]) (λ j hj=>by cases hj) args _ _ h;cases h4 with
 | @call _ _ _ _ res dQ _ _ _ hspec h6=>
 cases dQ with
 | cons=>exact (dK.aJ h6).elim
 | nil=>
  obtain ⟨hm,h7⟩:=h6.bq;obtain ⟨rfl,rfl⟩:=h7.dn;clear h h6 h7;obtain ⟨⟨fn,hf1,hf2,hf3⟩,hle,hcall⟩:=hspec;have hRs:=hR.sub (sg:=[]) (ids:=ids) (obs:=[]) rfl (by
   have:∀l,Cg l []=true:=by
    intro l
    induction l with
    | nil=>rfl
    | cons x l ih=>unfold Cg; simp [vv,ih]
   exact this ids) rfl (λ j hj=>by cases hj)
  intro next Q hnx
  refine Vr (hrun fn hf1 hf2 hf3) ((hcall w _ _ vals hRs om (λ j hj=>abe j om _ (hva j om))).mono ?_);rintro e w' ⟨x,I',O',rfl,hR',hres⟩;refine ⟨x,rfl,?_⟩;have hfr:∀b,b<w.heap.size→w'.heap[b]? = w.heap[b]? := λ b hb=>hR'.frame b hb (by
   rintro ⟨j,p,bo,sz,h1,h2⟩
   simp [lD] at h1)
  have Hg:=hR.qV bW;refine hnx x w' I O ?_ (λ u y hu=>hu.mono (λ _ h=>h) (λ b hb=>hfr b (hR.uw b hb)) (λ _ _=>.inl rfl) (λ _ h=>.inl h) hR.used) (.pure (Xr hres hm));rw [tH];exact { Hg with
   objs:=λ o ob p h1 h2=>(Hg.objs o ob p h1 h2).mono (λ _ h=>h) (λ b hb=>hfr b (hR.uw b hb)) (λ _ _=>.inl rfl) (λ _ h=>h) Hg.used (λ b bo sz hpl=>hfr b (hR.lt o p b bo sz h2 hpl))
   lt:=λ o p b bo sz h1 h2=>Nat.lt_of_lt_of_le (hR.lt o p b bo sz h1 h2) hR'.size
   uw:=λ b h=>Nat.lt_of_lt_of_le (hR.uw b h) hR'.size
   size:=Nat.le_trans hR.size hR'.size
   env:=hR.env.step hR'.env.same
   frame:=λ b h1 h2=>by rw [hfr b (Nat.lt_of_lt_of_le h1 hR.size)]; exact hR.frame b h1 h2
   glob:=λ g cs h=>(hR.glob g cs h).mono (λ _ h=>h) (λ b hb=>hfr b (hR.uw b hb)) }
theorem TV (l m:List AV) (j:Nat) (h:j<l.length):nth (l++m) j=nth l j:=by
 rw [pq,pq]; simp [List.getElem?_append_left h]
theorem TW (l m:List AV) (j:Nat) (h:l.length≤j):nth (l++m) j=nth m (j - l.length):=by
 rw [pq,pq]; simp [List.getElem?_append_right h]
theorem adq (hR:Rel cfg cx H D w I O) (hn:G9 D bW) {c:Call} {f:Operand} (ho:o.op=.call c) (hcl:c.callee=.value f) (hf:cO w I O D (ρ f) (a.eval f)) (hx:∀x∈c.args.toList,cO w I O D (ρ x) (a.eval x))
  (h:dK (Spec P cfg) H (eZ cfg bW (.call c) ρ) v ups r):dG P cfg cx H D w I O bW o a v ups:=by
 simp only [eZ,hcl] at h;split at h
 ·rename_i g caps e;rw [e] at hf;obtain ⟨hlt,h⟩:=h.bq;obtain ⟨XA,hfv,ae8,hcr⟩:=hf.vW;have hfv:=hfv.trans (G7 hlt);have hrun:∀fn,P.funcs[g]? = some fn→fn.body.isNone=false→(fn.name == "runtime.NumGoroutine")=false→(execOp a.eval o).run P w=.ok (.enter g (c.args.map a.eval++XA)) w:=by
   intro fn h1 h2 h3;simp only [execOp,ho,hcl,resolve,hfv,Deferred.ofValue,Sem.run_bind,Sem.run_pure,Result.andThen_ok,invoke,callFunc,program,Sem.run,h1,h2,h3,Bool.false_eq_true,if_false];simp
  have hvl:(c.args.map a.eval++XA).size=(c.args.toList.map ρ++caps).length:=by simp [ae8]
  have hva:∀j,j<(c.args.toList.map ρ++caps).length→cO w I O D (nth (c.args.toList.map ρ++caps) j) ((c.args.map a.eval++XA).getD j Go.undef):=by
   intro j hj;by_cases hlt:j<(c.args.toList.map ρ).length
   ·rw [TV _ _ _ hlt];have h1:=TJ (a:=a) hx j hlt;have hlt':j<(c.args.map a.eval).size:=by simpa using hlt
    have e1:(c.args.map a.eval++XA).getD j Go.undef=(c.args.map a.eval).getD j Go.undef:=by
     simp only [Array.getD_eq_getD_getElem?, Array.getElem?_append_left hlt']
    rw [e1];simpa using h1
   ·have hge:(c.args.toList.map ρ).length≤j:=by omega
    rw [TW _ _ _ hge];have hge':(c.args.map a.eval).size≤j:=by simpa using hge
    have e1:(c.args.map a.eval++XA).getD j Go.undef=XA.getD (j - (c.args.map a.eval).size) Go.undef:=by
     simp only [Array.getD_eq_getD_getElem?, Array.getElem?_append_right hge']
    rw [e1];have e2:(c.args.map a.eval).size=(c.args.toList.map ρ).length:=by simp
    rw [e2];exact hcr _ (by simp at hj hge ⊢; omega)
  unfold TA at h;split at h
  ·split at h
   ·exact Pp hR hrun hvl hva h
   ·exact Ht hR hn hrun hvl hva h
  ·exact Ht hR hn hrun hvl hva h
 ·exact (dK.aJ h).elim
theorem ZC (hc:fq P cfg) (hR:Rel cfg cx H D w I O) (hn:G9 D bW) {c:Call} {f:Operand} {m:String} (ho:o.op=.call c) (hcl:c.callee=.invoke f m) (hf:cO w I O D (ρ f) (a.eval f)) (hx:∀x∈c.args.toList,cO w I O D (ρ x) (a.eval x))
  (h:dK (Spec P cfg) H (eZ cfg bW (.call c) ρ) v ups r):dG P cfg cx H D w I O bW o a v ups:=by
 simp only [eZ,hcl] at h;split at h
 ·rename_i g caps e;rw [e] at hf;obtain ⟨hlt,h⟩:=h.bq;obtain ⟨XA,hfv,ae8,hcr⟩:=hf.vW;have hge:FN≤g:=Nat.le_of_ble_eq_true hlt;have hfv:a.eval f=.iface (g - FN) (.agg XA):=hfv.trans (Vb hge);split at h
  ·rename_i k hk;have hd:=hc.Zb _ _ _ hk;have hrun:∀fn,P.funcs[k]? = some fn→fn.body.isNone=false→(fn.name == "runtime.NumGoroutine")=false→(execOp a.eval o).run P w=.ok (.enter k (#[Value.agg XA]++c.args.map a.eval)) w:=by
    intro fn h1 h2 h3;have h4:(execOp a.eval o).run P w=(callMethod (.iface (g - FN) (.agg XA)) m (c.args.map a.eval)).run P w:=by
     have e0:∀(x:Value) (A:Array Value),(#[x]++A)[0]? = some x:=λ x A=>by rw [Array.getElem?_append_left (by simp)]; rfl
     have e1:∀(x:Value) (A:Array Value),(#[x]++A).extract 1 (#[x]++A).size=A:=λ x A=>by
      apply Array.toList_inj.1;simp
     simp only [execOp,ho,hcl,resolve,hfv,Sem.run_bind,Sem.run_pure,Result.andThen_ok,invoke,e0,e1]
    rw [h4,hd];simp only [callFunc,program,Sem.run_bind,Sem.run_pure,Result.andThen_ok,Sem.run,h1,h2,h3,Bool.false_eq_true,if_false]
   have hvl:(#[Value.agg XA]++c.args.map a.eval).size=(AV.agg caps::c.args.toList.map ρ).length:=by simp [Nat.add_comm]
   have hva:∀j,j<(AV.agg caps::c.args.toList.map ρ).length→cO w I O D (nth (AV.agg caps::c.args.toList.map ρ) j) ((#[Value.agg XA]++c.args.map a.eval).getD j Go.undef):=by
    intro j hj;cases j with
    | zero=>
     have:(#[Value.agg XA]++c.args.map a.eval).getD 0 Go.undef=.agg XA:=by rw [Array.getD_eq_getD_getElem?, Array.getElem?_append_left (by simp)]; rfl
     rw [this];exact .agg ae8 hcr
    | succ j=>
     have hlt:j<(c.args.toList.map ρ).length:=by simpa using hj
     have h1:=TJ (a:=a) hx j hlt;have e1:(#[Value.agg XA]++c.args.map a.eval).getD (j+1) Go.undef=(c.args.map a.eval).getD j Go.undef:=by
      simp [Array.getD_eq_getD_getElem?, Array.getElem?_append_right]
     rw [e1];simpa [nth] using h1
   unfold TA at h;split at h
   ·split at h
    ·exact Pp hR hrun hvl hva h
    ·exact Ht hR hn hrun hvl hva h
   ·exact Ht hR hn hrun hvl hva h
  ·exact (dK.aJ h).elim
 ·exact (dK.aJ h).elim
variable {t:TypeId} {x:Operand}
theorem Kw (hc:fq P cfg) (hR:Rel cfg cx H D w I O) (ho:o.op=.makeInterface t x) (hx:cO w I O D (ρ x) (a.eval x))
  (h:dK (Spec P cfg) H (eZ cfg bW (.makeInterface t x) ρ) v ups r):dG P cfg cx H D w I O bW o a v ups:=by
 simp only [eZ] at h;obtain ⟨ti,hti,h⟩:=h.iG;split at h
 ·rename_i cs ha e;rw [e] at hx;obtain ⟨rfl,rfl⟩:=h.dn;obtain ⟨vs,h1,h2,h3⟩:=hx.lX;obtain ⟨i,d,z,_,hd,_,_,_,hrow,_⟩:=(hc.ty t ti hti).ex;refine dG.bZ (x:=fnVal (FN+t) vs) hR ?_ (.fn h2 h3);rw [OZ];have hu:(underlying t).run P w=.ok d w:=by simp [underlying,program,Sem.run,hd]
  cases d<;>first | (rw [ha] at hrow; cases hrow) | skip
  all_goals simp [execOp,ho,h1,Instr.makeInterface,hu]
 ·exact (dK.aJ h).elim
variable {t':TypeId}
theorem adr {u:TypeId} {vs:Array Value} {d:TypeDesc} {i:TypeInfo} {z:Value} (ho:o.op=.typeAssert x t' t true) (hx1:a.eval x=.iface u (.agg vs)) (ha:d.isRow=true) (hd:P.underlying t=some d)
  (hi:P.info? t=some i) (hz:i.zero=some z) (hne:u≠t):(execOp a.eval o).run P w=.ok (.value (.tuple #[z,.bool false])) w:=by
 have hu:(underlying t).run P w=.ok d w:=by simp [underlying,program,Sem.run,hd]
 have hzz:(zeroValue t).run P w=.ok z w:=by simp [zeroValue,typeInfo,program,Sem.run,hi,hz]
 cases d<;>first | (cases ha; done) | skip
 all_goals simp [execOp,ho,hx1,Instr.typeAssert,hu,hne,hzz]
theorem RA (hc:fq P cfg) (hR:Rel cfg cx H D w I O) (ho:o.op=.typeAssert x t' t true) (hx:cO w I O D (ρ x) (a.eval x))
  (h:dK (Spec P cfg) H (eZ cfg bW (.typeAssert x t' t true) ρ) v ups r):dG P cfg cx H D w I O bW o a v ups:=by
 simp only [eZ] at h;obtain ⟨ti,hti,h⟩:=h.iG;split at h
 ·rename_i f cs ha e;rw [e] at hx;obtain ⟨vs,h1,h2,h3⟩:=hx.vW;obtain ⟨i,d,z,hi,hd,hz,hsz,hby,hrow,hcs,hzl,GX,_⟩:=(hc.ty t ti hti).ex;have hu:(underlying t).run P w=.ok d w:=by simp [underlying,program,Sem.run,hd]
  generalize hk:FN+t=k at h;cases hb:Nat.beq f k with
  | true=>
   rw [hb] at h;have hf:=Nat.eq_of_beq_eq_true hb;subst hf;rw [← hk] at h1;obtain ⟨rfl,rfl⟩:=h.dn;refine dG.bZ (x:=.tuple #[.agg vs,.bool true]) hR ?_ (.jg rfl λ j hj=>?_)
   ·rw [OZ] at h1;cases d<;>first | (rw [ha] at hrow; cases hrow) | skip
    all_goals simp [execOp,ho,h1,Instr.typeAssert,hu]
   ·match j,hj with
    | 0,_=>exact .agg h2 h3
    | 1,_=>exact .pure (.bool true)
  | false=>
   rw [hb] at h;obtain ⟨hge,h⟩:=h.bq;have hge:FN≤f:=Nat.le_of_ble_eq_true hge;have hne:f - FN≠t:=by
    intro e2;have e3:f=k:=by have:=Nat.add_sub_cancel' hge; rw [e2] at this; exact this.symm.trans hk
    have e4:Nat.beq f k=true:=by rw [e3]; exact Nat.beq_refl _
    rw [e4] at hb; cases hb
   obtain ⟨rfl,rfl⟩:=h.dn;have hx1:a.eval x=.iface (f - FN) (.agg vs):=h1.trans (Vb hge);refine dG.bZ (x:=.tuple #[z,.bool false]) hR (adr ho hx1 (hrow.trans ha) hd hi hz hne) (.jg rfl λ j hj=>?_)
   ·match j,hj with
    | 0,_=>exact .pure (.undef z)
    | 1,_=>exact .pure (.bool false)
 ·exact (dK.aJ h).elim
def YF (w:World) (I:Nat→Prop) (O:OM) (D:Nat→Prop) (a:Act) (ρ:Operand→AV) (op:Op):Prop:=
 match op with
 | .pick c x y=>cO w I O D (ρ c) (a.eval c)∧(∀b,ρ c=.bool b→b=true→cO w I O D (ρ x) (a.eval x))∧(∀b,ρ c=.bool b→b=false→cO w I O D (ρ y) (a.eval y))
 | op=>∀x∈op.operands.toList,cO w I O D (ρ x) (a.eval x)
theorem abn (hc:fq P cfg) (hR:Rel cfg cx H D w I O) (hF:G9 D bW) (hρ:∀c,ρ (.const c)=ofConst c) (hx:YF w I O D a ρ o.op) (h:dK (Spec P cfg) H (eZ cfg bW o.op ρ) v ups r):dG P cfg cx H D w I O bW o a v ups:=by
 have hn:=hF.one;generalize ho:o.op=op at hx h;cases op with
 | move x=>obtain ⟨rfl,rfl⟩:=h.dn; exact Yy hR ho (hx x (by simp [Op.operands]))
 | assign x=>obtain ⟨rfl,rfl⟩:=h.dn; exact Sq hR ho (hx x (by simp [Op.operands]))
 | pick c x y=>
  obtain ⟨h1,h2,h3⟩:=hx;exact ac4 hR ho h1 h2 h3 (λ c e=>by subst e; exact ⟨hρ c,rfl⟩) (λ c e=>by subst e; exact ⟨hρ c,rfl⟩) h
 | alloc t=>exact aaZ hc hR hn ho h
 | box t x=>exact aeX hR hn ho (hx x (by simp [Op.operands])) h
 | build t parts=>
  refine aa2 hc hR ho (λ p hp=>hx p.2 ?_) h;simp only [Op.operands,List.mem_map];exact ⟨p,hp,rfl⟩
 | buildSlice t len parts=>
  refine Rv hc hR hn ho (λ p hp=>hx p.2 ?_) h;simp only [Op.operands,List.mem_map];exact ⟨p,hp,rfl⟩
 | load t x=>exact ac9 hc hR ho (hx x (by simp [Op.operands])) h
 | store t x y=>exact aa5 hc hR ho (hx x (by simp [Op.operands])) (hx y (by simp [Op.operands])) h
 | nilCheck x=>exact Ve hR ho (hx x (by simp [Op.operands])) h
 | binOp op t x y t'=>exact aaS hc hR ho (hx x (by simp [Op.operands])) (hx y (by simp [Op.operands])) h
 | unOp op t x=>exact ac8 hR ho (hx x (by simp [Op.operands])) h
 | convert s d x=>exact Xl hc hR ho (hx x (by simp [Op.operands])) h
 | makeFunc fn first cap=>exact Vf hR ho (λ x hm=>hx x (by simp only [Op.operands,Array.toList_append,List.mem_append]; exact .inr hm)) h
 | makeSlice t l c=>exact TP hc hR hn ho (hx l (by simp [Op.operands])) (hx c (by simp [Op.operands])) h
 | slice t x lo hi mx=>
  refine aaX hc hR ho (hx x (by simp [Op.operands])) (λ y e=>hx y ?_) (λ y e=>hx y ?_) (λ y e=>hx y ?_) h
  ·subst e; simp [Op.operands]
  ·subst e; simp [Op.operands]
  ·subst e; simp [Op.operands]
 | fieldAddr s x f=>exact TK hc hR ho (hx x (by simp [Op.operands])) h
 | field s x f=>exact aaT hc hR ho (hx x (by simp [Op.operands])) h
 | indexAddr t x ix=>exact TM hc hR ho (hx x (by simp [Op.operands])) (hx ix (by simp [Op.operands])) h
 | extract t i=>exact Xd hR ho (hx t (by simp [Op.operands])) h
 | index t x ix=>exact abk hc hR ho (hx x (by simp [Op.operands])) (hx ix (by simp [Op.operands])) h
 | makeMap t r=>
  cases r with
  | none=>exact Xz hR hn ho h
  | some r=>exact (dK.aJ h).elim
 | lookup t x ix ok=>exact ZB hc hR ho (hx x (by simp [Op.operands])) (hx ix (by simp [Op.operands])) h
 | insert t x ix y=>exact Hw hc hR (.inr ho) (hx x (by simp [Op.operands])) (hx ix (by simp [Op.operands])) (hx y (by simp [Op.operands])) h
 | mapUpdate t x ix y=>exact Hw hc hR (.inl ho) (hx x (by simp [Op.operands])) (hx ix (by simp [Op.operands])) (hx y (by simp [Op.operands])) h
 | call c=>
  have TY:∀x∈c.args.toList,cO w I O D (ρ x) (a.eval x):=λ x hm=>hx x (by simp only [Op.operands,Call.operands,Array.toList_append,List.mem_append]; exact .inr hm);cases hcl:c.callee with
  | value f=>exact adq hR hF ho hcl (hx f (by simp [Op.operands,Call.operands,hcl])) TY h
  | invoke x m=>exact ZC hc hR hF ho hcl (hx x (by simp [Op.operands,Call.operands,hcl])) TY h
  | builtin b=>
   cases b with
   | len=>exact aeT hc hR ho hcl TY h
   | cap=>exact aeS hc hR ho hcl TY h
   | append=>exact Zt hc hR hn ho hcl TY h
   | copy=>exact adj hc hR ho hcl TY h
   | clear=>exact aa9 hc hR ho hcl TY h
   | min=>exact aeU hR ho hcl TY h
   | max=>exact aeV hR ho hcl TY h
   | _=>simp only [eZ,hcl] at h; exact (dK.aJ h).elim
 | makeInterface t x=>exact Kw hc hR ho (hx x (by simp [Op.operands])) h
 | typeAssert x t' t ok=>
  cases ok with
  | true=>exact RA hc hR ho (hx x (by simp [Op.operands])) h
  | false=>exact (dK.aJ h).elim
 | _=>exact (dK.aJ h).elim
theorem Es {v:AV} {x:Value} (h:cO w I O D v x):cO w I O D (Fb v) x:=by
 cases v with
 | iK=>cases h with | pure h=>cases h; exact .pure Vd
 | _=>exact h
theorem Pq {v:AV} {b:Bool} (h:Fb v=.bool b):v=.bool b:=by
 cases v with
 | iK=>cases h
 | _=>exact h
theorem SE (h:J9 x=true):x=.const (.slice none 0 0):=by
 unfold J9 at h;split at h
 ·rfl
 ·cases h
theorem abo (hc:fq P cfg) (hR:Rel cfg cx H D w I O) {op:BinOp} (ho:o.op=.binOp op t x (.const (.slice none 0 0)) t') (hx:cO w I O D (ρ x) (a.eval x))
  (h:dK (Spec P cfg) H (tF cfg t λ _=>aaM op (ρ x)) v ups r):dG P cfg cx H D w I O bW o a v ups:=by
 obtain ⟨tt,e,ti,h1,h2,h3,h4⟩:=h.kr;obtain ⟨hu,_⟩:=hc.slice h1 h2 h3;have key:∀(aa:Option Addr) (n cap:Nat) (b:Bool),a.eval x=.slice aa n cap→aa.isNone=b→(op=.eql→dG P cfg cx H D w I O bW o a (.bool b) [])∧(op=.neq→dG P cfg cx H D w I O bW o a (.bool (!b)) []):=by
  intro aa n cap b e1 eb;have e2:=run_equal_slice_nil (P:=P) w t e aa n cap hu;have e3:a.eval (.const (.slice none 0 0))=.slice none 0 0:=rfl;have hg:∀op,(eqGuard op t x (.const (.slice none 0 0)) (.slice aa n cap) (.slice none 0 0)).run P w=.ok () w:=λ op=>by unfold eqGuard; cases op<;>simp
  rw [eb] at e2;refine ⟨λ e=>?_,λ e=>?_⟩
  ·subst e;refine dG.bZ hR ?_ (.pure (.bool b));simp only [execOp,ho];rw [e1,e3];simp [hg,binOp,e2]
  ·subst e;refine dG.bZ hR ?_ (.pure (.bool (!b)));simp only [execOp,ho];rw [e1,e3];simp [hg,binOp,e2]
 unfold aaM at h4;split at h4
 ·rename_i ex;rw [ex] at hx;have e1:a.eval x=.slice none 0 0:=by
   generalize a.eval x=y at hx;cases hx with | pure h=>cases h; rfl
  obtain ⟨k1,k2⟩:=key none 0 0 true e1 rfl;split at h4
  ·obtain ⟨rfl,rfl⟩:=h4.dn; exact k1 rfl
  ·obtain ⟨rfl,rfl⟩:=h4.dn; exact k2 rfl
  ·exact (dK.aJ h4).elim
 ·rename_i es n f g ex;rw [ex] at hx;have hs:0<n→∃aa cap,a.eval x=.slice aa n cap∧aa.isNone=false:=λ h0=>by
   have hx:=hx.rV;generalize a.eval x=y at hx;cases hx with | sl b off vs hcap hfull ha=>exact ⟨_,_,rfl,by rw [(ha om).1]; rfl⟩
  split at h4
  ·obtain ⟨h0,rfl,rfl⟩:=h4.eY;obtain ⟨aa,cap,e1,e2⟩:=hs h0;exact (key aa n cap false e1 e2).1 rfl
  ·obtain ⟨h0,rfl,rfl⟩:=h4.eY;obtain ⟨aa,cap,e1,e2⟩:=hs h0;exact (key aa n cap false e1 e2).2 rfl
  ·exact (dK.aJ h4).elim
 ·rename_i ob i n f ex;rw [ex] at hx;obtain ⟨obj,_,lg,h5⟩:=h4.jN;obtain ⟨p,hp,hO⟩:=hR.live lg;obtain ⟨aa,cap,hxv,hjm,hcap,hfull,hpl⟩:=hx.jH hp;have hs:0<n→aa.isNone=false:=λ h0=>by
   obtain ⟨b,bo,sz,TN,rfl,hle⟩:=hpl om;rfl
  split at h5
  ·obtain ⟨h0,rfl,rfl⟩:=h5.eY;exact (key aa n cap false hxv (hs h0)).1 rfl
  ·obtain ⟨h0,rfl,rfl⟩:=h5.eY;exact (key aa n cap false hxv (hs h0)).2 rfl
  ·exact (dK.aJ h5).elim
 ·exact (dK.aJ h4).elim
theorem ZE (hc:fq P cfg) (hR:Rel cfg cx H D w I O) (hF:G9 D bW) (hρ:∀c,ρ (.const c)=ofConst c) (hx:YF w I O D a ρ o.op) (h:dK (Spec P cfg) H (pR cfg bW o.op ρ) v ups r):dG P cfg cx H D w I O bW o a v ups:=by
 have hc2:∀c,(λ x=>Fb (ρ x)) (.const c)=ofConst c:=λ c=>by
  show Fb (ρ (.const c))=ofConst c;rw [hρ c];unfold ofConst;split<;>rfl
 have hx2:YF w I O D a (λ x=>Fb (ρ x)) o.op:=by
  revert hx;generalize o.op=op;intro hx;cases op with
  | pick c x y=>exact ⟨Es hx.1,λ b h1 h2=>Es (hx.2.1 b (Pq h1) h2),λ b h1 h2=>Es (hx.2.2 b (Pq h1) h2)⟩
  | _=>exact λ x hm=>Es (hx x hm)
 have hs:dK (Spec P cfg) H (eZ cfg bW o.op (λ x=>Fb (ρ x))) v ups r→dG P cfg cx H D w I O bW o a v ups:=λ h=>abn hc hR hF hc2 hx2 h;generalize ho:o.op=op at hx h hs;cases op with
 | move x=>obtain ⟨rfl,rfl⟩:=h.dn; exact Yy hR ho (hx x (by simp [Op.operands]))
 | assign x=>
  simp only [pR] at h;cases hn:J9 x with
  | true=>
   rw [hn] at h;obtain ⟨rfl,rfl⟩:=h.dn;obtain rfl:=SE hn;exact dG.bZ (x:=.slice none 0 0) hR (by simp [execOp,ho,Act.eval]) (.pure .iK)
  | false=>rw [hn] at h; obtain ⟨rfl,rfl⟩:=h.dn; exact Sq hR ho (hx x (by simp [Op.operands]))
 | binOp b t x y t'=>
  simp only [pR] at h;cases hn:J9 y with
  | true=>
   rw [hn] at h;obtain rfl:=SE hn;exact abo hc hR ho (hx x (by simp [Op.operands])) h
  | false=>rw [hn] at h; exact hs h
 | _=>exact hs h
end
end Go.Ab
namespace Go.Ab
structure TE where
 ex:Bool
 v:AV
 ups:jh
 rT:List Nat
def jA {α:Type} (T:Nat→α) (d:Option Nat) (v:α):Nat→α:=match d with
 | some k=>λ t=>if t=k then v else T t
 | none=>T
def isB (b:Bool):AV→Bool
 | .bool c=>c==b
 | _=>false
def iy (all:List Oper) (T:Nat→AV) (V:Nat→Bool) (o:Oper):Bool:=match o.guard with
 | none=>true
 | some (j,b)=>match L6 all j with
  | some d=>V d&&isB b (T d)
  | none=>false
def jP (all:List Oper) (T:Nat→AV) (o:Oper):Prop:=match o.guard with
 | none=>True
 | some (j,_)=>∃d c,L6 all j=some d∧T d=.bool c
def Tr (cfg:qz) (Sp:kL) (all:List Oper) (nx:Nat):List Oper→Nat→(Nat→AV)→(Nat→Bool)→(Nat→Option cu)→List TE→Prop
 | [],_,_,_,_,[]=>True
 | o::rest,i,T,V,H,e::tr=>jP all T o∧e.ex=iy all T V o∧(e.ex=true→dK Sp H (pR cfg (nx+stride*i) o.op (J8 cfg T)) e.v e.ups e.rT)∧(e.ex=false→e.ups=[])∧
   Tr cfg Sp all nx rest (i+1) (jA T o.dst e.v) (jA V o.dst e.ex) (jK H e.ups) tr
 | _,_,_,_,_,_=>False
section
variable {P:Program} {cfg:qz} {cx:Ctx} {N:Nat} {ds:List Deferred}
structure tN (N:Nat) (ds:List Deferred) (T:Nat→AV) (V:Nat→Bool) (a:Act) (w:World) (I:Nat→Prop) (O:OM) (D:Nat→Prop):Prop where
 defers:a.defers=ds
 size:a.tmps.size=N
 rep:∀t,V t=true→cO w I O D (T t) (a.tmps.getD t Go.undef)
 gone:∀t,V t=false→a.tmps.getD t Go.undef=Go.undef
theorem Hy (tm:Array Value) (d t:Nat) (x:Value) (h:d<tm.size):(tm.setIfInBounds d x).getD t Go.undef=if t=d then x else tm.getD t Go.undef:=by
 by_cases e:t=d
 ·subst e; simp [h]
 ·rw [if_neg e];have:d≠t:=λ h=>e h.symm;simp [Array.getElem?_setIfInBounds_ne this]
variable {T:Nat→AV} {V:Nat→Bool} {a:Act} {w:World} {I:Nat→Prop} {O:OM} {D:Nat→Prop}
theorem tN.put {w':World} {I':Nat→Prop} {O':OM} {D':Nat→Prop} (h:tN N ds T V a w I O D) (keep:∀u y,cO w I O D u y→cO w' I' O' D' u y) (d:Option Nat) (hd:∀k,d=some k→k<N)
  (v:AV) (x:Value) (ex:Bool) (hx:ex=true→cO w' I' O' D' v x) (hx':ex=false→x=Go.undef):tN N ds (jA T d v) (jA V d ex) (a.put d x) w' I' O' D':=by
 cases d with
 | none=>exact ⟨h.defers,h.size,λ t ht=>keep _ _ (h.rep t ht),h.gone⟩
 | some k=>
  have hk:=hd k rfl;have hs:=h.size;refine ⟨h.defers,by simp [Act.put,hs],λ t ht=>?_,λ t ht=>?_⟩
  ·show cO _ _ _ _ (if t=k then v else T t) ((a.tmps.setIfInBounds k x).getD t Go.undef);rw [Hy _ _ _ _ om];simp only [jA] at ht;by_cases e:t=k
   ·rw [if_pos e,if_pos e]; exact hx (by simpa [e] using ht)
   ·rw [if_neg e,if_neg e]; exact keep _ _ (h.rep t (by simpa [e] using ht))
  ·show (a.tmps.setIfInBounds k x).getD t Go.undef=_;rw [Hy _ _ _ _ om];simp only [jA] at ht;by_cases e:t=k
   ·rw [if_pos e]; exact hx' (by simpa [e] using ht)
   ·rw [if_neg e]; exact h.gone t (by simpa [e] using ht)
variable {H:Nat→Option cu}
theorem pW (hR:Rel cfg cx H D w I O) (hT:tN N ds T V a w I O D) (x:Operand) (hv:∀t,x=.tmp t→V t=true):cO w I O D (J8 cfg T x) (a.eval x):=by
 cases x with
 | tmp t=>exact hT.rep t (hv t rfl)
 | const c=>exact Xb c
 | global g=>
  simp only [J8,Act.eval];cases hg:look cfg.glob g with
  | some cs=>exact .pure (hR.glob g cs hg)
  | none=>exact .pure (.undef _)
 | func f=>
  simp only [J8,Act.eval];cases hf:Nat.blt f FN with
  | true=>exact .pure (G7 hf ▸ .fn (vs:=#[]) (by simp) (λ j hj=>by simp at hj))
  | false=>exact .pure (.undef _)
def xD (T:Nat→AV) (V:Nat→Bool) (op:Op):Prop:=match op with
 | .pick c x y=>(∀t,c=.tmp t→V t=true)∧(T9 T c=some true→∀t,x=.tmp t→V t=true)∧(T9 T c=some false→∀t,y=.tmp t→V t=true)
 | op=>∀t,Operand.tmp t∈op.operands.toList→V t=true
 where T9 (T:Nat→AV):Operand→Option Bool
 | .tmp t=>match T t with | .bool b=>some b | _=>none
 | .const (.bool b)=>some b
 | _=>none
theorem Ua {k:Value} {b:Bool} (h:ofConst k=.bool b):k=.bool b:=by
 unfold ofConst at h;split at h<;>first | (cases h; rfl) | cases h
theorem abq (hR:Rel cfg cx H D w I O) (hT:tN N ds T V a w I O D) {op:Op} (h:xD T V op):YF w I O D a (J8 cfg T) op:=by
 have hb:∀(c:Operand) (b:Bool),J8 cfg T c=.bool b→xD.T9 T c=some b:=by
  intro c b e;cases c with
  | tmp t=>simp only [J8] at e; simp [xD.T9,e]
  | const k=>simp only [J8] at e; rw [Ua e]; rfl
  | global g=>simp only [J8] at e; split at e<;>cases e
  | func f=>simp only [J8] at e; split at e<;>cases e
 cases op with
 | pick c x y=>
  obtain ⟨h1,h2,h3⟩:=h;exact ⟨pW hR hT c h1,λ b e e'=>pW hR hT x (h2 (by rw [hb c b e,e'])),λ b e e'=>pW hR hT y (h3 (by rw [hb c b e,e']))⟩
 | _=>exact λ x hx=>pW hR hT x (λ t e=>h t (e ▸ hx))
theorem ZF (hc:fq P cfg) {H:Nat→Option cu} {D:Nat→Prop} {w:World} {I:Nat→Prop} {O:OM} {T:Nat→AV} {V:Nat→Bool} {a:Act} {bW:Nat} {o:Oper} {v:AV} {ups:jh} {rT:List Nat}
  (hR:Rel cfg cx H D w I O) (hT:tN N ds T V a w I O D) (hn:G9 D bW) (hval:xD T V o.op) (hd:∀k,o.dst=some k→k<N) (hev:dK (Spec P cfg) H (pR cfg bW o.op (J8 cfg T)) v ups rT)
  {next:Act→World→Prop} {Q:Exit→Act→World→Prop} (hnx:∀a' w' I' O',Rel cfg cx (jK H ups) (vV D bW) w' I' O'→tN N ds (jA T o.dst v) (jA V o.dst true) a' w' I' O' (vV D bW)→next a' w'):o.wp P a w next Q:=by
 refine ZE hc hR hn (λ _=>rfl) (abq hR hT hval) hev next Q λ x w' I' O' hR' hk hv=>hnx _ w' I' O' hR' (hT.put hk o.dst hd v x true (λ _=>hv) (λ h=>by cases h))
theorem Pt (l:List Oper) (j:Nat):Sm l j=l[j]? := by
 induction l generalizing j with
 | nil=>rfl
 | cons o l ih=>cases j with
  | zero=>rfl
  | succ j=>simpa [Sm] using ih j
theorem ZG {ops:Array Oper} (hT:tN N ds T V a w I O D) (o:Oper) (hg:jP ops.toList T o):Region.wanted o (yielded ops a.tmps)=iy ops.toList T V o:=by
 unfold Region.wanted iy;unfold jP at hg;cases hgu:o.guard with
 | none=>rfl
 | some g=>
  obtain ⟨j,b⟩:=g;rw [hgu] at hg;simp only at hg;obtain ⟨d,c,h1,h2⟩:=hg;simp only [h1,h2,isB];have hd:((ops[j]?).bind (·.dst))=some d:=by
   unfold L6 at h1;rw [Pt] at h1;have e:ops.toList[j]? = ops[j]? := by simp
   rw [e] at h1;cases ho:ops[j]? with
   | none=>rw [ho] at h1; cases h1
   | some o'=>rw [ho] at h1; simpa using h1
  have hy:yielded ops a.tmps j=if V d then some c else none:=by
   unfold yielded;rw [hd];simp only [Option.bind_some];cases hv:V d with
   | true=>
    have:=hT.rep d hv;rw [h2] at this;have hx:=this.jr;rcases Nat.lt_or_ge d a.tmps.size with hlt | hge
    ·simp [hlt] at hx; simp [hlt,hx]
    ·simp [Array.getElem?_eq_none hge,Go.undef] at hx
   | false=>
    have:=hT.gone d hv;rcases Nat.lt_or_ge d a.tmps.size with hlt | hge
    ·simp [hlt] at this; simp [hlt,this,Go.undef]
    ·simp [Array.getElem?_eq_none hge]
  rw [hy];cases V d<;>simp
theorem Ky (t:Nat):∀(l:List Oper) (i k:Nat),k∈pU t l i↔∃o,i≤k∧l[k - i]? = some o∧o.dst=some t:=by
 intro l;induction l with
 | nil=>intro i k; simp [pU]
 | cons o l ih=>
  intro i k;have hd:Yw o.dst t=true↔o.dst=some t:=by
   unfold Yw;cases o.dst with
   | none=>simp
   | some x=>simp
  unfold pU;cases hb:Yw o.dst t with
  | true=>
   simp only [List.mem_cons,ih];constructor
   ·rintro (h | ⟨o',h1,h2,h3⟩)
    ·subst h; exact ⟨o,Nat.le_refl _,by simp,hd.1 hb⟩
    ·refine ⟨o',by omega,?_,h3⟩;have:k - i=(k - (i+1))+1:=by omega
     rw [this]; simpa using h2
   ·rintro ⟨o',h1,h2,h3⟩;by_cases hk:k=i
    ·exact .inl hk
    ·refine .inr ⟨o',by omega,?_,h3⟩;have:k - i=(k - (i+1))+1:=by omega
     rw [this] at h2; simpa using h2
  | false=>
   simp only [ih];constructor
   ·rintro ⟨o',h1,h2,h3⟩;refine ⟨o',by omega,?_,h3⟩;have:k - i=(k - (i+1))+1:=by omega
    rw [this]; simpa using h2
   ·rintro ⟨o',h1,h2,h3⟩;by_cases hk:k=i
    ·subst hk;simp at h2;subst h2;rw [hd.2 h3] at hb;cases hb
    ·refine ⟨o',by omega,?_,h3⟩;have:k - i=(k - (i+1))+1:=by omega
     rw [this] at h2; simpa using h2
theorem qE (all:List Oper) (t k:Nat):k∈writers all t↔∃o,all[k]? = some o∧o.dst=some t:=by
 unfold writers;rw [Ky];simp
structure Known (all:List Oper) (k:Nat) (T:Nat→AV) (V:Nat→Bool) (ex:Nat→Bool) (val:Nat→AV):Prop where
 one:∀i t,i<k→writers all t=[i]→V t=ex i∧T t=val i
 free:∀t,(∀i,i<k→i∈writers all t→OT all i=none)→V t=true
 guard:∀i j b,i<k→OT all i=some (j,b)→j<i∧ex i=(ex j&&isB b (val j))
variable {all:List Oper}
theorem Known.chain {k:Nat} {ex:Nat→Bool} {val:Nat→AV} (hK:Known all k T V ex val):∀(f:Nat) (g:Option (Nat×Bool)),(∀j b,g=some (j,b)→j<k∧ex j=true∧isB b (val j)=true)→
  ∀j b,ac1 j b (Ab.chain all f g)=true→j<k∧ex j=true∧isB b (val j)=true:=by
 intro f;induction f with
 | zero=>intro g _ j b h; cases h
 | succ f ih=>
  intro g hg j b h;cases g with
  | none=>cases h
  | some g=>
   obtain ⟨j',b'⟩:=g;obtain ⟨h1,h2,h3⟩:=hg j' b' rfl;simp only [Ab.chain,ac1] at h;split at h
   ·rename_i e1 e2;have e1:=Nat.eq_of_beq_eq_true e1;subst e1;have:b=b':=by cases b<;>cases b'<;>simp [eqB] at e2<;>rfl
    subst this;exact ⟨h1,h2,h3⟩
   ·refine ih _ (λ j2 b2 e=>?_) j b h;obtain ⟨q1,q2⟩:=hK.guard j' j2 b2 h1 e;rw [h2] at q2;simp at q2;exact ⟨by omega,q2.1,q2.2⟩
theorem Ub {l:List Nat} (h:Ot all l=true):∀i∈l,OT all i=none:=by
 induction l with
 | nil=>intro i hi; cases hi
 | cons x l ih=>
  intro i hi;unfold Ot at h;cases hg:OT all x with
  | some g=>simp [hg] at h
  | none=>
   simp only [hg] at h;rcases List.mem_cons.1 hi with e | e
   ·subst e; exact hg
   ·exact ih h i e
theorem Hz {k:Nat} {ex:Nat→Bool} {val:Nat→AV} (hK:Known all k T V ex val) {g:Option (Nat×Bool)} (hg:∀j b,g=some (j,b)→j<k∧ex j=true∧isB b (val j)=true) {t:Nat} (h:TF all k g t=true):V t=true:=by
 unfold TF at h;split at h
 ·rename_i i hw;cases hgi:OT all i with
  | none=>exact hK.free t λ i' _ hi'=>by rw [hw] at hi'; simp at hi'; subst hi'; exact hgi
  | some q=>
   obtain ⟨j,b⟩:=q;simp only [hgi] at h;cases hlt:Nat.blt i k with
   | false=>simp [hlt] at h
   | true=>
    simp only [hlt] at h;have hik:i<k:=by simpa using hlt
    obtain ⟨h1,h2,h3⟩:=hK.chain 20 g hg j b h;rw [(hK.one i t hik hw).1,(hK.guard i j b hik hgi).2,h2,h3];rfl
 ·exact hK.free t λ i _ hi=>Ub h i hi
end
end Go.Ab
namespace Go.Ab
section
variable {P:Program} {cfg:qz} {cx:Ctx} {N:Nat}
variable {all:List Oper}
theorem FY {N:Nat} :∀(l:List Oper) (i:Nat),ny N all l i=true→∀k o,l[k]? = some o→U9 all (i+k) o=true∧∀d,o.dst=some d→d<N:=by
 intro l;induction l with
 | nil=>intro i _ k o h; simp at h
 | cons x l ih=>
  intro i h k o hk;unfold ny at h;split at h
  ·rename_i h1 h2;cases k with
   | zero=>
    simp at hk;subst hk;refine ⟨h1,λ d hd=>?_⟩;rw [hd] at h2;simpa using h2
   | succ k=>
    have:=ih (i+1) h k o (by simpa using hk);rwa [Nat.add_assoc,Nat.add_comm 1 k] at this
  ·cases h
variable {T:Nat→AV} {V:Nat→Bool} {ex:Nat→Bool} {val:Nat→AV}
theorem Mh {k:Nat} (hK:Known all k T V ex val) {o:Oper} (hok:U9 all k o=true):
  (iy all T V o=true→∀j b,o.guard=some (j,b)→j<k∧ex j=true∧isB b (val j)=true)∧(∀j b,o.guard=some (j,b)→j<k∧iy all T V o=(ex j&&isB b (val j))):=by
 have key:∀j b,o.guard=some (j,b)→j<k∧iy all T V o=(ex j&&isB b (val j)):=by
  intro j b hg;unfold U9 at hok;rw [hg] at hok;simp only at hok;split at hok
  ·rename_i h1;split at h1
   ·rename_i hlt;split at h1
    ·rename_i d hd;split at h1
     ·rename_i j' hw;have hjk:j<k:=by simpa using hlt
      have e:=Nat.eq_of_beq_eq_true h1;subst e;refine ⟨hjk,?_⟩;obtain ⟨q1,q2⟩:=hK.one j' d hjk hw;unfold iy;rw [hg];simp only [hd];rw [q1,q2]
     ·cases h1
    ·cases h1
   ·cases h1
  ·cases hok
 refine ⟨λ h j b hg=>?_,key⟩;obtain ⟨h1,h2⟩:=key j b hg;rw [h] at h2;have:=h2.symm;simp at this;exact ⟨h1,this.1,this.2⟩
theorem XB {k:Nat} (hK:Known all k T V ex val) {o:Oper} (hok:U9 all k o=true) (hg:iy all T V o=true):xD T V o.op:=by
 have hgs:=(Mh hK hok).1 hg;have agY:∀x,Em all k o.guard x=true→∀t,x=.tmp t→V t=true:=by
  intro x h t e;subst e;exact Hz hK hgs h
 unfold U9 at hok;split at hok
 ·split at hok
  ·rename_i c x y hop;rw [hop];split at hok
   ·rename_i hc hx;have hcv:=agY c hc;have arm:∀(pol:Bool) (z:Operand),Yx all k o.guard c pol z=true→xD.T9 T c=some pol→∀t,z=.tmp t→V t=true:=by
     intro pol z hz hb t e;subst e;unfold Yx at hz;simp only at hz;split at hz
     ·rename_i hr;exact Hz hK hgs hr
     ·split at hz
      ·rename_i ct i hwt;split at hz
       ·rename_i j b jc hgi hwc hlt;split at hz
        ·rename_i e1 e2;have e1:=Nat.eq_of_beq_eq_true e1;subst e1;have hik:i<k:=by simpa using hlt
         have hjk:j<k:=by simpa using e2
         obtain ⟨q1,q2⟩:=hK.one i t hik hwt;obtain ⟨q3,q4⟩:=hK.one j ct hjk hwc;have q5:=(hK.guard i j b hik hgi).2;have hbp:b=pol:=by cases b<;>cases pol<;>simp [eqB] at hz<;>rfl
         subst hbp;have hT:T ct=.bool b:=by
          simp only [xD.T9] at hb;split at hb
          ·rename_i b' hb'; cases hb; exact hb'
          ·cases hb
         rw [q1,q5,← q3,hcv ct rfl,← q4,hT];simp [isB]
        ·cases hz
       ·cases hz
      ·cases hz
    exact ⟨hcv,arm true x hx,arm false y hok⟩
   ·cases hok
  ·rename_i hnp;have hall:∀(l:List Operand),zW all k o.guard l=true→∀x∈l,Em all k o.guard x=true:=by
    intro l;induction l with
    | nil=>intro _ x hx; cases hx
    | cons y l ih=>
     intro h x hx;unfold zW at h;split at h
     ·rename_i hy;rcases List.mem_cons.1 hx with e | e
      ·subst e; exact hy
      ·exact ih h x e
     ·cases h
   have main:∀t,Operand.tmp t∈o.op.operands.toList→V t=true:=λ t ht=>agY _ (hall _ hok _ ht) t rfl;unfold xD;split
   ·rename_i c x y hop;exact absurd hop (hnp c x y)
   ·exact main
 ·cases hok
theorem Known.step {k:Nat} (hK:Known all k T V ex val) {o:Oper} (hk:all[k]? = some o) (hok:U9 all k o=true) (e:TE) (he:e.ex=iy all T V o):
  Known all (k+1) (jA T o.dst e.v) (jA V o.dst e.ex) (λ i=>if i=k then e.ex else ex i) (λ i=>if i=k then e.v else val i):=by
 have hgl:OT all k=o.guard:=by unfold OT; rw [Pt,hk]
 have upd:∀ {α:Type} (F:Nat→α) (x:α) (t:Nat),jA F o.dst x t=if o.dst=some t then x else F t:=by
  intro α F x t;unfold jA;cases hd:o.dst with
  | none=>simp
  | some d=>
   by_cases h:t=d
   ·subst h; simp
   ·have:¬ d=t:=λ e=>h e.symm;simp [h,this]
 refine ⟨λ i t hi hw=>?_,λ t ht=>?_,λ i j b hi hg=>?_⟩
 ·rw [upd,upd];by_cases hik:i=k
  ·subst hik;have:i∈writers all t:=by rw [hw]; simp
   obtain ⟨o',h1,h2⟩:=(qE all t i).1 this;rw [hk] at h1;cases h1;simp [h2]
  ·have hne:¬ o.dst=some t:=λ h=>by
    have:k∈writers all t:=(qE all t k).2 ⟨o,hk,h⟩;rw [hw] at this;simp at this;omega
   simp only [if_neg hne,if_neg hik];exact hK.one i t om hw
 ·rw [upd];by_cases hd:o.dst=some t
  ·rw [if_pos hd,he];have:=ht k om ((qE all t k).2 ⟨o,hk,hd⟩);rw [hgl] at this;unfold iy;rw [this]
  ·rw [if_neg hd];exact hK.free t λ i hi hw=>ht i om hw
 ·by_cases hik:i=k
  ·subst hik;rw [hgl] at hg;obtain ⟨h1,h2⟩:=(Mh hK hok).2 j b hg;refine ⟨h1,?_⟩;rw [if_pos rfl,if_neg om,if_neg om,he,h2]
  ·obtain ⟨h1,h2⟩:=hK.guard i j b om hg;refine ⟨h1,?_⟩;rw [if_neg hik,if_neg om,if_neg om,h2]
section sel
variable {α:Type} (wr:Nat→Nat→Bool) (g:Nat→Nat→α)
def sel (p:Nat→Bool):Nat→(Nat→α)→Nat→α
 | 0,F,t=>F t
 | m+1,F,t=>if p m&&wr m t then g m t else sel p m F t
theorem Pw (p:Nat→Bool) (m:Nat) (F:Nat→α) (t:Nat):sel wr g p (m+1) F t=if p m&&wr m t then g m t else sel wr g p m F t:=rfl
theorem zh (p q:Nat→Bool) (F:Nat→α) (t:Nat):∀m,(∀k,k<m→wr k t=true→p k=q k)→sel wr g p m F t=sel wr g q m F t:=by
 intro m;induction m with
 | zero=>intro _; rfl
 | succ m ih=>
  intro h;unfold sel;rw [ih λ k hk=>h k om];cases hw:wr m t with
  | false=>simp
  | true=>rw [h m om hw]
theorem nC (F:Nat→α) (t k:Nat):∀m,k≤m→sel wr g (λ j=>decide (j<k)) m F t=sel wr g (λ _=>true) k F t:=by
 intro m;induction m with
 | zero=>
  intro h; have:k=0:=by omega
  subst this; rfl
 | succ m ih=>
  intro h;by_cases hk:k=m+1
  ·subst hk;exact zh wr g _ _ F t _ λ j hj _=>by simp [hj]
  ·rw [Pw,ih om];simp [show ¬ m<k by omega]
theorem Uc (p:Nat→Bool) (F:Nat→α) (t i:Nat) (hi:wr i t=true→∀k,i<k→p k=true→wr k t=false):∀m,i<m→sel wr g (λ j=>p j||decide (j=i)) m F t=if wr i t then g i t else sel wr g p m F t:=by
 intro m;induction m with
 | zero=>intro h; omega
 | succ m ih=>
  intro h;by_cases him:i=m
  ·subst him;unfold sel;have e:sel wr g (λ j=>p j||decide (j=i)) i F t=sel wr g p i F t:=zh wr g _ _ F t _ λ j hj _=>by simp [show ¬ j=i by omega]
   rw [e];cases hw:wr i t with
   | true=>simp
   | false=>simp
  ·have:=ih om;unfold sel;rw [this];cases hw:wr i t with
   | true=>
    have hne:¬ m=i:=λ e=>him e.symm;simp only [hne,decide_false,Bool.or_false,if_true];cases hp:p m with
    | false=>simp
    | true=>simp [hi hw m om hp]
   | false=>
    have hne:¬ m=i:=λ e=>him e.symm;simp [hne]
end sel
end
end Go.Ab
namespace Go.Ab
section
variable {P:Program} {cfg:qz} {cx:Ctx} {N:Nat} {ds:List Deferred}
def YG (all:List Oper) (k t:Nat):Bool:=match all[k]? with
 | some o=>decide (o.dst=some t)
 | none=>false
def wrH (ent:Nat→TE) (k o:Nat):Bool:=(look (ent k).ups o).isSome
def gH (ent:Nat→TE) (k o:Nat):Option cu:=match look (ent k).ups o with
 | some x=>x
 | none=>none
def zi (all:List Oper) (ent:Nat→TE) (p:Nat→Bool) (m:Nat) (T0:Nat→AV):Nat→AV:=sel (YG all) (λ k _=>(ent k).v) p m T0
def EI (all:List Oper) (ent:Nat→TE) (p:Nat→Bool) (m:Nat):Nat→Bool:=sel (YG all) (λ k _=>(ent k).ex) p m (λ _=>true)
def GY (ent:Nat→TE) (p:Nat→Bool) (m:Nat) (H0:Nat→Option cu):Nat→Option cu:=sel (wrH ent) (gH ent) p m H0
def yes:Nat→Bool:=λ _=>true
def TrI (cfg:qz) (Sp:kL) (all:List Oper) (nx:Nat) (T0:Nat→AV) (H0:Nat→Option cu) (ent:Nat→TE):Prop:=
 ∀k o,all[k]? = some o→jP all (zi all ent yes k T0) o∧(ent k).ex=iy all (zi all ent yes k T0) (EI all ent yes k) o∧
  ((ent k).ex=true→dK Sp (GY ent yes k H0) (pR cfg (nx+stride*k) o.op (J8 cfg (zi all ent yes k T0))) (ent k).v (ent k).ups (ent k).rT)∧((ent k).ex=false→(ent k).ups=[])
variable {all:List Oper}
theorem Et {α:Type} {o:Oper} {k:Nat} (hk:all[k]? = some o) (g:Nat→Nat→α) (p:Nat→Bool) (hp:p k=true) (F:Nat→α) (v:α) (hg:∀t,g k t=v):jA (sel (YG all) g p k F) o.dst v=sel (YG all) g p (k+1) F:=by
 funext t;have hw:YG all k t=decide (o.dst=some t):=by unfold YG; rw [hk]
 rw [Pw,hp,hg,hw];cases hd:o.dst with
 | none=>simp [jA]
 | some d=>
  by_cases h:t=d
  ·subst h; simp [jA]
  ·have:¬ d=t:=λ e=>h e.symm;simp [jA,h,this]
variable {ent:Nat→TE}
theorem VF {k:Nat} (p:Nat→Bool) (hp:p k=true) (H:Nat→Option cu):jK (sel (wrH ent) (gH ent) p k H) (ent k).ups=sel (wrH ent) (gH ent) p (k+1) H:=by
 funext o;have hw:wrH ent k o=(look (ent k).ups o).isSome:=rfl;have hg:gH ent k o=match look (ent k).ups o with | some x=>x | none=>none:=rfl
 rw [Pw,hp,hw,hg];unfold jK;cases look (ent k).ups o<;>simp
theorem TrI.ads {Sp:kL} {nx:Nat} {T0:Nat→AV} {H0:Nat→Option cu} :∀(rest:List Oper) (i:Nat) (tr:List TE),(∀j,rest[j]? = all[i+j]?)→(∀j e,tr[j]? = some e→ent (i+j)=e)→
  Tr cfg Sp all nx rest i (zi all ent yes i T0) (EI all ent yes i) (GY ent yes i H0) tr→∀k o,i≤k→all[k]? = some o→jP all (zi all ent yes k T0) o∧(ent k).ex=iy all (zi all ent yes k T0) (EI all ent yes k) o∧
  ((ent k).ex=true→dK Sp (GY ent yes k H0) (pR cfg (nx+stride*k) o.op (J8 cfg (zi all ent yes k T0))) (ent k).v (ent k).ups (ent k).rT)∧((ent k).ex=false→(ent k).ups=[]):=by
 intro rest;induction rest with
 | nil=>
  intro i tr hr _ _ k o hik hk;have:=hr (k - i);rw [show i+(k - i)=k by omega,hk] at this;simp at this
 | cons x rest ih=>
  intro i tr hr he h k o hik hk;cases tr with
  | nil=>exact h.elim
  | cons e tr=>
   obtain ⟨h1,h2,h3,h4,h5⟩:=h;have hx:all[i]? = some x:=by simpa using (hr 0).symm
   have he0:ent i=e:=by simpa using he 0 e rfl
   by_cases hki:k=i
   ·subst hki;rw [hx] at hk;cases hk;subst he0;exact ⟨h1,h2,h3,h4⟩
   ·subst he0;have e1:jA (zi all ent yes i T0) x.dst (ent i).v=zi all ent yes (i+1) T0:=Et hx _ yes rfl T0 _ λ _=>rfl;have e2:jA (EI all ent yes i) x.dst (ent i).ex=EI all ent yes (i+1):=Et hx _ yes rfl _ _ λ _=>rfl;have e3:jK (GY ent yes i H0) (ent i).ups=GY ent yes (i+1) H0:=VF yes rfl H0;rw [e1,e2,e3] at h5;refine ih (i+1) tr (λ j=>?_) (λ j e' hj=>?_) h5 k o om hk
    ·have:=hr (j+1);rw [show i+(j+1)=i+1+j by omega] at this;simpa using this
    ·have:=he (j+1) e' (by simpa using hj);rwa [show i+(j+1)=i+1+j by omega] at this
theorem TrI.known {Sp:kL} {nx:Nat} {T0:Nat→AV} {H0:Nat→Option cu} (h:TrI cfg Sp all nx T0 H0 ent) {N:Nat} (hok:ny N all all 0=true):∀k,k≤all.length→Known all k (zi all ent yes k T0) (EI all ent yes k) (λ i=>(ent i).ex) (λ i=>(ent i).v):=by
 intro k;induction k with
 | zero=>exact λ _=>⟨λ i t hi=>by omega,λ t _=>rfl,λ i j b hi=>by omega⟩
 | succ k ih=>
  intro hk;have hlt:k<all.length:=by omega
  have hx:all[k]? = some all[k]:=List.getElem?_eq_getElem hlt;obtain ⟨h1,h2,_,_⟩:=h k _ hx;have hop:=(FY all 0 hok k _ hx).1;rw [Nat.zero_add] at hop;have:=(ih om).step hx hop (ent k) h2;have e1:jA (zi all ent yes k T0) (all[k]).dst (ent k).v=zi all ent yes (k+1) T0:=Et hx _ yes rfl T0 _ λ _=>rfl;have e2:jA (EI all ent yes k) (all[k]).dst (ent k).ex=EI all ent yes (k+1):=Et hx _ yes rfl _ _ λ _=>rfl;rw [e1,e2] at this;have e4:(λ i=>if i=k then (ent k).ex else (ent i).ex)=λ i=>(ent i).ex:=by
   funext i;by_cases hi:i=k<;>simp [hi]
  have e5:(λ i=>if i=k then (ent k).v else (ent i).v)=λ i=>(ent i).v:=by
   funext i;by_cases hi:i=k<;>simp [hi]
  rw [e4,e5] at this;exact this
def Dat (nx m:Nat) (p:Nat→Bool):Nat→Prop:=λ o=>o<nx∨∃k,k<m∧p k=true∧nx+stride*k≤o∧o<nx+stride*k+stride
variable {H:Nat→Option cu}
theorem Rel.zk {D D':Nat→Prop} {w:World} {I:Nat→Prop} {O:OM} (h:∀o,D o→D' o) (hR:Rel cfg cx H D w I O):Rel cfg cx H D' w I O:=
 { hR with
  used:=λ o p hp=>h o (hR.used o p hp)
  objs:=λ o ob p h1 h2=>(hR.objs o ob p h1 h2).mono (λ _ h=>h) (λ _ _=>rfl) (λ _ _=>.inl rfl) h hR.used (λ _ _ _ _=>rfl)
  Dm:=λ o ho=>h o (hR.Dm o ho) }
theorem tN.zk {D D':Nat→Prop} {w:World} {I:Nat→Prop} {O:OM} {T:Nat→AV} {V:Nat→Bool} {a:Act} (h:∀o,D o→D' o) (hR:Rel cfg cx H D w I O) (hT:tN N ds T V a w I O D):tN N ds T V a w I O D':=
 ⟨hT.defers,hT.size,λ t ht=>(hT.rep t ht).mono (λ _ h=>h) (λ _ _=>rfl) (λ _ _=>.inl rfl) h hR.used,hT.gone⟩
theorem VG {T T':Nat→AV} {V V':Nat→Bool} {op:Op} (h:∀t,Operand.tmp t∈op.operands.toList→T' t=T t∧V' t=V t) (hv:xD T V op):xD T' V' op:=by
 cases op with
 | pick c x y=>
  obtain ⟨h1,h2,h3⟩:=hv;have hc:xD.T9 T' c=xD.T9 T c:=by
   cases c with
   | tmp t=>simp only [xD.T9]; rw [(h t (by simp [Op.operands])).1]
   | const k=>cases k<;>rfl
   | _=>rfl
  refine ⟨λ t e=>?_,λ hb t e=>?_,λ hb t e=>?_⟩
  ·rw [(h t (by subst e; simp [Op.operands])).2]; exact h1 t e
  ·rw [(h t (by subst e; simp [Op.operands])).2]; rw [hc] at hb; exact h2 hb t e
  ·rw [(h t (by subst e; simp [Op.operands])).2]; rw [hc] at hb; exact h3 hb t e
 | _=>exact λ t ht=>by rw [(h t ht).2]; exact hv t ht
theorem dK.ae9 {Sp:kL} {H':Nat→Option cu} {pg:Pg} {v:AV} {ups:jh} {r:List Nat} (h:dK Sp H pg v ups r):(∀o,o∈r→H' o=H o)→dK Sp H' pg v ups r:=by
 induction h with
 | ret v ups=>exact λ _=>.ret v ups
 | need hp _ ih=>exact λ hr=>.need hp (ih hr)
 | rd ho _ ih=>exact λ hr=>.rd ((hr _ (by simp)).trans ho) (ih λ o ho=>hr o (List.mem_cons_of_mem _ ho))
 | call hs _ ih=>exact λ hr=>.call hs (ih hr)
theorem XC {bW:Nat} {op:Op} {ρ ρ':Operand→AV} (h:∀x∈op.operands.toList,ρ' x=ρ x):eZ cfg bW op ρ'=eZ cfg bW op ρ:=by
 have pairs:∀ps:List (Nat×Operand),(∀p∈ps,ρ' p.2=ρ p.2)→(ps.map λ p=>(p.1,ρ' p.2))=ps.map λ p=>(p.1,ρ p.2):=λ ps hp=>List.map_congr_left λ p hm=>by rw [hp p hm]
 cases op with
 | move x=>simp only [eZ]; rw [h x (by simp [Op.operands])]
 | assign x=>simp only [eZ]; rw [h x (by simp [Op.operands])]
 | pick c x y=>simp only [eZ]; rw [h x (by simp [Op.operands]),h y (by simp [Op.operands]),h c (by simp [Op.operands])]
 | box t x=>simp only [eZ]; rw [h x (by simp [Op.operands])]
 | build t parts=>simp only [eZ]; rw [pairs parts.toList λ p hp=>h p.2 (by simp only [Op.operands,List.mem_map]; exact ⟨p,hp,rfl⟩)]
 | buildSlice t len parts=>simp only [eZ]; rw [pairs parts.toList λ p hp=>h p.2 (by simp only [Op.operands,List.mem_map]; exact ⟨p,hp,rfl⟩)]
 | load t x=>simp only [eZ]; rw [h x (by simp [Op.operands])]
 | store t x y=>simp only [eZ]; rw [h x (by simp [Op.operands]),h y (by simp [Op.operands])]
 | nilCheck x=>simp only [eZ]; rw [h x (by simp [Op.operands])]
 | binOp op t x y t'=>simp only [eZ]; rw [h x (by simp [Op.operands]),h y (by simp [Op.operands])]
 | unOp op t x=>simp only [eZ]; rw [h x (by simp [Op.operands])]
 | convert s d x=>simp only [eZ]; rw [h x (by simp [Op.operands])]
 | makeFunc fn first cap=>
  simp only [eZ];have:cap.toList.map ρ'=cap.toList.map ρ:=List.map_congr_left λ x hx=>h x (by simp only [Op.operands,Array.toList_append,List.mem_append]; exact .inr hx);rw [this]
 | makeSlice t l c=>simp only [eZ]; rw [h l (by simp [Op.operands]),h c (by simp [Op.operands])]
 | slice t x lo hi mx=>
  have h1:lo.map ρ'=lo.map ρ:=by
   cases lo with
   | none=>rfl
   | some y=>simp only [Option.map_some]; rw [h y (by simp [Op.operands])]
  have h2:hi.map ρ'=hi.map ρ:=by
   cases hi with
   | none=>rfl
   | some y=>simp only [Option.map_some]; rw [h y (by simp [Op.operands])]
  have h3:∀k,Zd ρ' hi mx k=Zd ρ hi mx k:=λ k=>by
   unfold Zd;cases mx with
   | none=>rfl
   | some m=>cases hi with
    | none=>rfl
    | some y=>
     simp only
     rw [h y (by simp [Op.operands]),h m (by simp [Op.operands])]
  have h4:mx.map ρ'=mx.map ρ:=by
   cases mx with
   | none=>rfl
   | some y=>simp only [Option.map_some]; rw [h y (by simp [Op.operands])]
  simp only [eZ];rw [h x (by simp [Op.operands]),h1,h2,h4];simp only [h3]
 | fieldAddr s x f=>simp only [eZ]; rw [h x (by simp [Op.operands])]
 | field s x f=>simp only [eZ]; rw [h x (by simp [Op.operands])]
 | indexAddr t x ix=>simp only [eZ]; rw [h x (by simp [Op.operands]),h ix (by simp [Op.operands])]
 | extract t i=>simp only [eZ]; rw [h t (by simp [Op.operands])]
 | index t x ix=>simp only [eZ]; rw [h x (by simp [Op.operands]),h ix (by simp [Op.operands])]
 | makeMap t r=>cases r<;>rfl
 | lookup t x ix ok=>simp only [eZ]; rw [h x (by simp [Op.operands]),h ix (by simp [Op.operands])]
 | insert t x ix y=>simp only [eZ]; rw [h x (by simp [Op.operands]),h ix (by simp [Op.operands]),h y (by simp [Op.operands])]
 | mapUpdate t x ix y=>simp only [eZ]; rw [h x (by simp [Op.operands]),h ix (by simp [Op.operands]),h y (by simp [Op.operands])]
 | call c=>
  have h1:c.args.toList.map ρ'=c.args.toList.map ρ:=List.map_congr_left λ x hx=>h x (by simp only [Op.operands,Call.operands,Array.toList_append,List.mem_append]; exact .inr hx);simp only [eZ];rw [h1];cases hc:c.callee with
  | value f=>simp only; rw [h f (by simp [Op.operands,Call.operands,hc])]
  | builtin b=>cases b<;>rfl
  | invoke x m=>simp only; rw [h x (by simp [Op.operands,Call.operands,hc])]
 | makeInterface t x=>simp only [eZ]; rw [h x (by simp [Op.operands])]
 | typeAssert x t' t ok=>cases ok<;>first | rfl | (simp only [eZ]; rw [h x (by simp [Op.operands])])
 | _=>rfl
theorem VH {bW:Nat} {op:Op} {ρ ρ':Operand→AV} (h:∀x∈op.operands.toList,ρ' x=ρ x):pR cfg bW op ρ'=pR cfg bW op ρ:=by
 have key:eZ cfg bW op (λ x=>Fb (ρ' x))=eZ cfg bW op (λ x=>Fb (ρ x)):=XC λ x hx=>by rw [h x hx]
 cases op with
 | move x=>simp only [pR]; rw [h x (by simp [Op.operands])]
 | assign x=>simp only [pR]; rw [h x (by simp [Op.operands])]
 | binOp b t x y t'=>
  simp only [pR];rw [h x (by simp [Op.operands]),key]
 | _=>exact key
end
end Go.Ab
namespace Go.Ab
section
variable {P:Program} {cfg:qz} {cx:Ctx} {N:Nat} {ds:List Deferred}
def FW (r:Option Nat):Fence:={ Fence.wide with round:=r }
variable {r:Option Nat}
theorem FZ {n:Nat} {f:FuncId} {args:Array Value} {w:World} {R:Ending→World→Prop} (h:Calls P f args w R):CallsIn (FW r) n P f args w R:=(callsIn_wide (n:=n)).2 h
theorem ZH {n:Nat} {row:String} {args:Array Value} {w:World} {R:Value→World→Prop} (h:Rows P row args w R):RowsIn (FW r) n P row args w R:=by
 intro c cs _;obtain ⟨v,w',h1,h2⟩:=h c cs;exact ⟨v,w',h1,stepsIn_wide.2 h2⟩
theorem Ud {n:Nat} {o:Oper} {a:Act} {w:World} {K:Act→World→Prop} {Q:Exit→Act→World→Prop} (ho:∀c,o.op≠.defer c) (h:o.wp P a w K Q):o.wpIn (FW r) n P a w K Q:=by
 refine ⟨λ _ _=>trivial,?_⟩;rw [Oper.semAt_eq _ _ _ ho];unfold Oper.wp at h;generalize (execOp a.eval o).run P w=res at h;cases res with
 | ok x w'=>
  cases x with
  | value v=>exact h
  | skip=>exact h
  | defer d=>exact h
  | enter f args=>exact ⟨(λ h=>by cases h),FZ h⟩
  | row s args=>exact ⟨(λ h=>by cases h),ZH h⟩
  | _=>exact h.elim
 | halt x w'=>
  cases x with
  | panic v=>exact h
  | _=>exact h.elim
theorem VI (hc:fq P cfg) {r:Option Nat} {n0:Nat} {ops:Array Oper} {nx:Nat} {T0:Nat→AV} {H0:Nat→Option cu} {ent:Nat→TE} (htr:TrI cfg (Spec P cfg) ops.toList nx T0 H0 ent) (hok:ny N ops.toList ops.toList 0=true)
  {p:Nat→Bool} {i:Nat} {o:Oper} (hi:ops[i]? = some o) (hpi:p i=false)
  (hT:∀t,t∈looks ops.toList o→zi ops.toList ent p ops.size T0 t=zi ops.toList ent yes i T0 t∧EI ops.toList ent p ops.size t=EI ops.toList ent yes i t)
  (hH:(ent i).ex=true→∀b,b∈(ent i).rT→GY ent p ops.size H0 b=GY ent yes i H0 b)
  (hTa:∀t,YG ops.toList i t=true→∀k,i<k→p k=true→YG ops.toList k t=false) (hHa:∀b,wrH ent i b=true→∀k,i<k→p k=true→wrH ent k b=false)
  {a:Act} {w:World} {I:Nat→Prop} {O:OM} (hR:Rel cfg cx (GY ent p ops.size H0) (Dat nx ops.size p) w I O) (hTR:tN N ds (zi ops.toList ent p ops.size T0) (EI ops.toList ent p ops.size) a w I O (Dat nx ops.size p))
  {K:Act→World→Prop} {Q:Exit→Act→World→Prop}
  (hK:∀a' w' I' O',Rel cfg cx (GY ent (λ j=>p j||decide (j=i)) ops.size H0) (Dat nx ops.size (λ j=>p j||decide (j=i))) w' I' O'→
    tN N ds (zi ops.toList ent (λ j=>p j||decide (j=i)) ops.size T0) (EI ops.toList ent (λ j=>p j||decide (j=i)) ops.size) a' w' I' O' (Dat nx ops.size (λ j=>p j||decide (j=i)))→K a' w'):
  wpOpIn (FW r) n0 P ops Q i K a w:=by
 have hlt:i<ops.size:=(Array.getElem?_eq_some_iff.1 hi).1;have hil:ops.toList[i]? = some o:=by simpa using hi
 obtain ⟨h1,h2,h3,h4⟩:=htr i o hil;obtain ⟨hop,hdN⟩:=FY ops.toList 0 hok i o hil;rw [Nat.zero_add] at hop;have hKn:=htr.known hok i (by simp; omega);have hTT:∀t,YG ops.toList i t=decide (o.dst=some t):=λ t=>by unfold YG; rw [hil]
 have e1:zi ops.toList ent (λ j=>p j||decide (j=i)) ops.size T0=jA (zi ops.toList ent p ops.size T0) o.dst (ent i).v:=by
  funext t;unfold zi;rw [Uc _ _ p T0 t i (hTa t) ops.size hlt,hTT];cases hd:o.dst with
  | none=>simp [jA]
  | some d=>
   by_cases h:t=d
   ·subst h; simp [jA]
   ·have:¬ d=t:=λ e=>h e.symm;simp [jA,h,this]
 have e2:EI ops.toList ent (λ j=>p j||decide (j=i)) ops.size=jA (EI ops.toList ent p ops.size) o.dst (ent i).ex:=by
  funext t;unfold EI;rw [Uc _ _ p _ t i (hTa t) ops.size hlt,hTT];cases hd:o.dst with
  | none=>simp [jA]
  | some d=>
   by_cases h:t=d
   ·subst h; simp [jA]
   ·have:¬ d=t:=λ e=>h e.symm;simp [jA,h,this]
 have e3:GY ent (λ j=>p j||decide (j=i)) ops.size H0=jK (GY ent p ops.size H0) (ent i).ups:=by
  funext b;unfold GY;rw [Uc _ _ p H0 b i (hHa b) ops.size hlt];have hw:wrH ent i b=(look (ent i).ups b).isSome:=rfl;have hg:gH ent i b=match look (ent i).ups b with | some x=>x | none=>none:=rfl
  rw [hw,hg];unfold jK;cases look (ent i).ups b<;>simp
 have hD:∀b,vV (Dat nx ops.size p) (nx+stride*i) b→Dat nx ops.size (λ j=>p j||decide (j=i)) b:=by
  rintro b ((h | ⟨k,q1,q2,q3⟩) | h)
  ·exact .inl h
  ·exact .inr ⟨k,q1,by simp [q2],q3⟩
  ·exact .inr ⟨i,hlt,by simp,h⟩
 have hnD:G9 (Dat nx ops.size p) (nx+stride*i):=by
  rintro b hb1 hb2 (h | ⟨k,q1,q2,q3,q4⟩)
  ·omega
  ·have:k=i:=by
    rcases Nat.lt_trichotomy k i with e | e | e
    ·have:=Nat.mul_le_mul_left stride (show k+1≤i from e);rw [Nat.mul_add,Nat.mul_one] at this;omega
    ·exact e
    ·have:=Nat.mul_le_mul_left stride (show i+1≤k from e);rw [Nat.mul_add,Nat.mul_one] at this;omega
   subst this;rw [hpi] at q2;cases q2
 have agZ:jP ops.toList (zi ops.toList ent p ops.size T0) o:=by
  unfold jP at h1 ⊢;cases hg:o.guard with
  | none=>trivial
  | some g=>
   obtain ⟨j,b⟩:=g;rw [hg] at h1;obtain ⟨d,c,q1,q2⟩:=h1;refine ⟨d,c,q1,?_⟩;rw [(hT d (by unfold looks; rw [hg]; simp [q1])).1];exact q2
 have aiv:iy ops.toList (zi ops.toList ent p ops.size T0) (EI ops.toList ent p ops.size) o=(ent i).ex:=by
  rw [h2];unfold iy;cases hg:o.guard with
  | none=>rfl
  | some g=>
   obtain ⟨j,b⟩:=g;simp only;cases hd:L6 ops.toList j with
   | none=>rfl
   | some d=>
    simp only;obtain ⟨q1,q2⟩:=hT d (by unfold looks; rw [hg]; simp [hd]);rw [q1,q2]
 unfold wpOpIn;rw [hi];simp only;rw [ZG hTR o agZ,aiv];cases hex:(ent i).ex with
 | true=>
  rw [if_pos rfl];have hnd:∀c,o.op≠.defer c:=λ c hc=>by
   have:=h3 hex;rw [hc] at this;exact (dK.aJ this).elim
  refine Ud hnd ?_;have ag0:∀t,Operand.tmp t∈o.op.operands.toList→t∈looks ops.toList o:=λ t ht=>by
   unfold looks;rw [List.mem_append];exact .inl (List.mem_filterMap.2 ⟨.tmp t,ht,rfl⟩)
  have hval:xD (zi ops.toList ent p ops.size T0) (EI ops.toList ent p ops.size) o.op:=
   VG (λ t ht=>hT t (ag0 t ht)) (XB hKn hop (by rw [← h2]; exact hex))
  have hev:dK (Spec P cfg) (GY ent p ops.size H0) (pR cfg (nx+stride*i) o.op (J8 cfg (zi ops.toList ent p ops.size T0))) (ent i).v (ent i).ups (ent i).rT:=by
   have ag1:pR cfg (nx+stride*i) o.op (J8 cfg (zi ops.toList ent p ops.size T0))=pR cfg (nx+stride*i) o.op (J8 cfg (zi ops.toList ent yes i T0)):=VH λ x hx=>by
    cases x with
    | tmp t=>exact (hT t (ag0 t hx)).1
    | _=>rfl
   rw [ag1];exact (h3 hex).ae9 (hH hex)
  refine ZF hc hR hTR hnD hval hdN hev λ a' w' I' O' hR' hT'=>hK a' w' I' O' ?_ ?_
  ·rw [e3]; exact hR'.zk hD
  ·rw [e1,e2,hex]; exact hT'.zk hD hR'
 | false=>
  rw [if_neg (by simp)];have hu:=h4 hex;have hR2:Rel cfg cx (GY ent (λ j=>p j||decide (j=i)) ops.size H0) (Dat nx ops.size (λ j=>p j||decide (j=i))) w I O:=by
   rw [e3,hu,tH];exact hR.zk λ b h=>hD b (.inl h)
  refine ⟨λ _ _=>trivial,hK _ w I O hR2 ?_⟩;rw [e1,e2,hex];refine tN.put (hTR.zk (λ b h=>hD b (.inl h)) hR) (λ _ _ h=>h) o.dst hdN _ _ false (λ h=>by cases h) (λ _=>rfl)
theorem VJ (hc:fq P cfg) {r:Option Nat} {n0:Nat} {ops:Array Oper} {id nx:Nat} {T0:Nat→AV} {H0:Nat→Option cu} {ent:Nat→TE} (htr:TrI cfg (Spec P cfg) ops.toList nx T0 H0 ent) (hok:ny N ops.toList ops.toList 0=true)
  {a:Act} {w:World} {I:Nat→Prop} {O:OM} (hR:Rel cfg cx H0 (λ o=>o<nx) w I O) (hTR:tN N ds T0 (λ _=>true) a w I O (λ o=>o<nx)) {Q:Exit→Act→World→Prop}
  (hQ:∀a' w' I' O',Rel cfg cx (GY ent yes ops.size H0) (λ o=>o<nx+stride*ops.size) w' I' O'→tN N ds (zi ops.toList ent yes ops.size T0) (EI ops.toList ent yes ops.size) a' w' I' O' (λ o=>o<nx+stride*ops.size)→Q .normal a' w'):
  (Code.region id ops false).wpIn (FW r) n0 P Q a w:=by
 refine wpIn_region ?_;have key:∀(n k:Nat),k+n=ops.size→∀(a:Act) (w:World) (I:Nat→Prop) (O:OM),Rel cfg cx (GY ent (λ j=>decide (j<k)) ops.size H0) (Dat nx ops.size (λ j=>decide (j<k))) w I O→
   tN N ds (zi ops.toList ent (λ j=>decide (j<k)) ops.size T0) (EI ops.toList ent (λ j=>decide (j<k)) ops.size) a w I O (Dat nx ops.size (λ j=>decide (j<k)))→wpOpsIn (FW r) n0 P ops Q (List.range' k n) a w:=by
  intro n
  induction n with
  | zero=>
   intro k hk a w I O hR hT
   have hkn:k=ops.size:=by omega
   subst hkn
   have e1:GY ent (λ j=>decide (j<ops.size)) ops.size H0=GY ent yes ops.size H0:=funext λ t=>nC _ _ _ t _ _ (Nat.le_refl _)
   have e2:zi ops.toList ent (λ j=>decide (j<ops.size)) ops.size T0=zi ops.toList ent yes ops.size T0:=funext λ t=>nC _ _ _ t _ _ (Nat.le_refl _)
   have e3:EI ops.toList ent (λ j=>decide (j<ops.size)) ops.size=EI ops.toList ent yes ops.size:=funext λ t=>nC _ _ _ t _ _ (Nat.le_refl _)
   rw [e1] at hR
   rw [e2,e3] at hT
   have hD:∀o,Dat nx ops.size (λ j=>decide (j<ops.size)) o→o<nx+stride*ops.size:=by
    rintro o (h | ⟨k,q1,_,q3,q4⟩)
    ·omega
    ·have:=Nat.mul_le_mul_left stride (show k+1≤ops.size from q1)
     rw [Nat.mul_add,Nat.mul_one] at this
     omega
   exact hQ a w I O (hR.zk hD) (hT.zk hD hR)
  | succ n ih=>
   intro k hk a w I O hR hT
   have hlt:k<ops.size:=by omega
   rw [List.range'_succ,wpOpsIn_cons]
   have hp:(λ j=>decide (j<k)||decide (j=k))=λ j=>decide (j<k+1):=by
    funext j
    by_cases h1:j<k
    ·simp [h1,show j<k+1 by omega]
    ·by_cases h2:j=k
     ·simp [h2]
     ·simp [h1,h2,show ¬ j<k+1 by omega]
   refine VI hc htr hok (Array.getElem?_eq_getElem hlt) (p:=λ j=>decide (j<k)) (by simp) (λ t _=>⟨nC _ _ _ t _ _ om,nC _ _ _ t _ _ om⟩) (λ _ b _=>nC _ _ _ b _ _ om)
    (λ t _ j hj hpj=>by simp at hpj; omega) (λ b _ j hj hpj=>by simp at hpj; omega) hR hT λ a' w' I' O' hR' hT'=>?_
   rw [hp] at hR' hT'
   exact ih (k+1) om a' w' I' O' hR' hT'
 have e0:∀ {α:Type} (wr:Nat→Nat→Bool) (g:Nat→Nat→α) (F:Nat→α),sel wr g (λ j=>decide (j<0)) ops.size F=F:=λ wr g F=>funext λ t=>nC wr g F t 0 ops.size (Nat.zero_le _);rw [List.range_eq_range'];refine key ops.size 0 om a w I O ?_ ?_
 ·unfold GY;rw [e0];exact hR.zk λ o h=>.inl h
 ·unfold zi EI;rw [e0,e0];exact hTR.zk (λ o h=>.inl h) hR
end
end Go.Ab
namespace Go.Ab
section
variable {P:Program} {cfg:qz} {cx:Ctx} {N:Nat} {ds:List Deferred}
def Closed (ops:Array Oper) (listed:Array Bool):Prop:=∀(j:Nat) (o:Oper),ops[j]? = some o→listed.getD j false=true→∀e∈o.after,Region.binds .any e=true→listed.getD e.on false=true
theorem Fp {ops:Array Oper} {listed:Array Bool} (hcl:Closed ops listed):∀(f i j:Nat),before ops.toList f i j=true→(∀o,ops[j]? = some o→∀e∈o.after,Region.binds .any e=true→listed.getD e.on false=true)→listed.getD i false=true:=by
 intro f;induction f with
 | zero=>intro i j h; cases h
 | succ f ih=>
  intro i j h hj;unfold before at h;rw [Pt] at h;cases ho:ops[j]? with
  | none=>rw [show ops.toList[j]? = none by simpa using ho] at h; cases h
  | some o=>
   rw [show ops.toList[j]? = some o by simpa using ho] at h;simp only [List.any_eq_true,Bool.and_eq_true,Bool.or_eq_true] at h;obtain ⟨e,he,⟨hb,_⟩,h2⟩:=h;have hl:=hj o ho e (by simpa using he) hb;rcases h2 with h2 | h2
   ·rw [← Nat.eq_of_beq_eq_true h2]; exact hl
   ·exact ih i e.on h2 λ o' ho'=>hcl e.on o' ho' hl
variable {all:List Oper}
theorem Mi:∀(l:List Oper) (i:Nat),Ka all l i=true→∀k o,l[k]? = some o→TG o (i+k)=true∧Ci all (i+k) o all 0=true:=by
 intro l;induction l with
 | nil=>intro i _ k o h; simp at h
 | cons x l ih=>
  intro i h k o hk;simp only [Ka,Bool.and_eq_true] at h;cases k with
  | zero=>simp at hk; subst hk; exact h.1
  | succ k=>
   have:=ih (i+1) h.2 k o (by simpa using hk);rwa [Nat.add_assoc,Nat.add_comm 1 k] at this
theorem RB {j:Nat} {oj:Oper}:∀(l:List Oper) (i:Nat),Ci all j oj l i=true→∀k o,l[k]? = some o→i+k<j→OU all o oj=true∨before all 40 (i+k) j=true:=by
 intro l;induction l with
 | nil=>intro i _ k o h; simp at h
 | cons x l ih=>
  intro i h k o hk hlt;unfold Ci at h;have hij:Nat.blt i j=true:=by simp; omega
  simp only [hij,Bool.and_eq_true,Bool.or_eq_true] at h;cases k with
  | zero=>simp at hk; subst hk; exact h.1
  | succ k=>
   have:=ih (i+1) h.2 k o (by simpa using hk) om;rwa [Nat.add_assoc,Nat.add_comm 1 k] at this
theorem SF {x:Nat} {l:List Nat} (h:x∈l):vv x l=true:=by
 induction l with
 | nil=>cases h
 | cons b l ih=>
  unfold vv;cases hb:Nat.beq x b with
  | true=>rfl
  | false=>
   rcases List.mem_cons.1 h with e | e
   ·subst e; simp at hb
   ·exact ih e
theorem Cv {x y:Oper} (h:OU all x y=true):(∀d,x.dst=some d→d ∉ looks all y)∧(∀d,y.dst=some d→d ∉ looks all x)∧(∀d,x.dst=some d→y.dst≠some d):=by
 unfold OU at h;simp only [Bool.and_eq_true,Bool.not_eq_true'] at h;obtain ⟨⟨h1,h2⟩,h3⟩:=h;refine ⟨λ d hd hm=>?_,λ d hd hm=>?_,λ d hd hm=>?_⟩
 ·rw [hd] at h1; simp only [isIn] at h1; rw [SF hm] at h1; cases h1
 ·rw [hd] at h2; simp only [isIn] at h2; rw [SF hm] at h2; cases h2
 ·rw [hd,hm] at h3; simp [isIn,vv] at h3
theorem VK {l:List Nat} {p:Nat→Bool} {i:Nat} (hi:i∈l) (hp:p i=true):(l.filter λ k=>p k&&!decide (k=i)).length<(l.filter p).length:=by
 have le:∀l:List Nat,(l.filter λ k=>p k&&!decide (k=i)).length≤(l.filter p).length:=by
  intro l;induction l with
  | nil=>exact Nat.le_refl _
  | cons x l ih=>
   rw [List.filter_cons,List.filter_cons];cases hx:p x with
   | true=>
    rw [if_pos rfl];split
    ·simp only [List.length_cons]; omega
    ·simp only [List.length_cons]; omega
   | false=>simpa using ih
 induction l with
 | nil=>cases hi
 | cons x l ih=>
  rw [List.filter_cons,List.filter_cons];by_cases hxi:x=i
  ·subst hxi;rw [hp,if_pos rfl,if_neg (by simp)];have:=le l;simp only [List.length_cons];omega
  ·have hil:i∈l:=by rcases List.mem_cons.1 hi with e | e; exact absurd e.symm hxi; exact e
   have:=ih hil;cases hx:p x with
   | true=>
    rw [if_pos rfl,if_pos (by simp [hxi])];simp only [List.length_cons];omega
   | false=>simpa using this
def aeh (ops:Array Oper) (ent:Nat→TE):Prop:=∀i j,i<j→j<ops.size→before ops.toList 40 i j=true∨
 ((∀b,wrH ent i b=true→(ent j).ex=true→b ∉ (ent j).rT)∧(∀b,wrH ent j b=true→(ent i).ex=true→b ∉ (ent i).rT)∧(∀b,wrH ent i b=true→wrH ent j b=false))
theorem VL (hc:fq P cfg) {r:Option Nat} {n0:Nat} {ops:Array Oper} {id nx:Nat} {T0:Nat→AV} {H0:Nat→Option cu} {ent:Nat→TE} (htr:TrI cfg (Spec P cfg) ops.toList nx T0 H0 ent) (hok:ny N ops.toList ops.toList 0=true)
  (hdr:Ka ops.toList ops.toList 0=true) (hdyn:aeh ops ent)
  {a:Act} {w:World} {I:Nat→Prop} {O:OM} (hR:Rel cfg cx H0 (λ o=>o<nx) w I O) (hTR:tN N ds T0 (λ _=>true) a w I O (λ o=>o<nx)) {Q:Exit→Act→World→Prop}
  (hQ:∀a' w' I' O',Rel cfg cx (GY ent yes ops.size H0) (λ o=>o<nx+stride*ops.size) w' I' O'→tN N ds (zi ops.toList ent yes ops.size T0) (EI ops.toList ent yes ops.size) a' w' I' O' (λ o=>o<nx+stride*ops.size)→Q .normal a' w'):
  (Code.region id ops true).wpIn (FW r) n0 P Q a w:=by
 refine wpIn_region_any hc.mixed ?_;have edges:∀k o,ops[k]? = some o→∀e∈o.after,Region.binds .any e=true→e.on<k:=by
  intro k o ho e he hb;obtain ⟨h1,_⟩:=Mi ops.toList 0 hdr k o (by simpa using ho);unfold TG at h1;rw [Nat.zero_add,List.all_eq_true] at h1;have:=h1 e (by simpa using he);simpa [hb] using this
 have tmps:∀i j oi oj,i<j→ops[i]? = some oi→ops[j]? = some oj→OU ops.toList oi oj=true∨before ops.toList 40 i j=true:=by
  intro i j oi oj hij hi hj;obtain ⟨_,h2⟩:=Mi ops.toList 0 hdr j oj (by simpa using hj);rw [Nat.zero_add] at h2;have:=RB ops.toList 0 h2 i oi (by simpa using hi) om;rwa [Nat.zero_add] at this
 have afa:∀k t,YG ops.toList k t=true→∃o,ops[k]? = some o∧o.dst=some t:=by
  intro k t h;unfold YG at h;split at h
  ·rename_i o ho;exact ⟨o,by simpa using ho,by simpa using h⟩
  ·cases h
 have key:∀(fuel:Nat) (listed:Array Bool) (a:Act) (w:World) (I:Nat→Prop) (O:OM),listed.size=ops.size→Closed ops listed→((List.range ops.size).filter λ k=>!listed.getD k false).length≤fuel→
   Rel cfg cx (GY ent (λ k=>listed.getD k false) ops.size H0) (Dat nx ops.size (λ k=>listed.getD k false)) w I O→
   tN N ds (zi ops.toList ent (λ k=>listed.getD k false) ops.size T0) (EI ops.toList ent (λ k=>listed.getD k false) ops.size) a w I O (Dat nx ops.size (λ k=>listed.getD k false))→wpAnyIn (FW r) n0 P .any ops Q fuel listed a w:=by
  intro fuel
  have done:∀(listed:Array Bool) (a:Act) (w:World) (I:Nat→Prop) (O:OM),(∀k,k<ops.size→listed.getD k false=true)→
    Rel cfg cx (GY ent (λ k=>listed.getD k false) ops.size H0) (Dat nx ops.size (λ k=>listed.getD k false)) w I O→
    tN N ds (zi ops.toList ent (λ k=>listed.getD k false) ops.size T0) (EI ops.toList ent (λ k=>listed.getD k false) ops.size) a w I O (Dat nx ops.size (λ k=>listed.getD k false))→Q .normal a w:=by
   intro listed a w I O hall hR hT
   have e:∀ {α:Type} (wr:Nat→Nat→Bool) (g:Nat→Nat→α) (F:Nat→α),sel wr g (λ k=>listed.getD k false) ops.size F=sel wr g yes ops.size F:=λ wr g F=>funext λ t=>zh wr g _ _ F t _ λ k hk _=>hall k hk
   unfold GY at hR
   unfold zi EI at hT
   rw [e] at hR
   rw [e,e] at hT
   have hD:∀o,Dat nx ops.size (λ k=>listed.getD k false) o→o<nx+stride*ops.size:=by
    rintro o (h | ⟨k,q1,_,q3,q4⟩)
    ·omega
    ·have:=Nat.mul_le_mul_left stride (show k+1≤ops.size from q1)
     rw [Nat.mul_add,Nat.mul_one] at this
     omega
   exact hQ a w I O (hR.zk hD) (hT.zk hD hR)
  have full:∀(listed:Array Bool),listed.size=ops.size→Region.ready .any ops listed=[]→∀k,k<ops.size→listed.getD k false=true:=by
   intro listed hls hr k
   induction k using Nat.strongRecOn with
   | _ k ih=>
    intro hk
    cases hl:listed.getD k false with
    | true=>rfl
    | false=>
     have:k∈Region.ready .any ops listed:=mem_ready.2 ⟨by
      have hlt:k<listed.size:=by omega
      simp [hlt] at hl ⊢; exact hl,ops[k],Array.getElem?_eq_getElem hk,λ e he hb=>ih e.on (edges k _ (Array.getElem?_eq_getElem hk) e he hb) (Nat.lt_trans (edges k _ (Array.getElem?_eq_getElem hk) e he hb) hk)⟩
     rw [hr] at this
     cases this
  induction fuel with
  | zero=>
   intro listed a w I O hls hcl hcnt hR hT
   have hall:∀k,k<ops.size→listed.getD k false=true:=by
    intro k hk
    cases hl:listed.getD k false with
    | true=>rfl
    | false=>
     have:k∈(List.range ops.size).filter λ k=>!listed.getD k false:=List.mem_filter.2 ⟨List.mem_range.2 hk,by rw [hl]; rfl⟩
     have:=List.length_pos_of_mem this
     omega
   refine ⟨?_,done listed a w I O hall hR hT⟩
   rw [List.eq_nil_iff_forall_not_mem]
   intro k hk
   obtain ⟨h1,o,h2,_⟩:=mem_ready.1 hk
   have hlt:k<ops.size:=(Array.getElem?_eq_some_iff.1 h2).1
   have:=hall k hlt
   have hlt':k<listed.size:=by omega
   simp [hlt'] at this h1
   rw [this] at h1
   cases h1
  | succ fuel ih=>
   intro listed a w I O hls hcl hcnt hR hT
   refine ⟨λ hr=>done listed a w I O (full listed hls hr) hR hT,λ i hi=>?_⟩
   obtain ⟨h1,o,ho,hed⟩:=mem_ready.1 hi
   have hlt:i<ops.size:=(Array.getElem?_eq_some_iff.1 ho).1
   have hpi:listed.getD i false=false:=by
    have hlt':i<listed.size:=by omega
    simp [hlt'] at h1 ⊢; exact h1
   have aix:∀o',ops[i]? = some o'→∀e∈o'.after,Region.binds .any e=true→listed.getD e.on false=true:=λ o' ho'=>by rw [ho] at ho'; cases ho'; exact hed
   have abr:∀k,before ops.toList 40 k i=true→listed.getD k false=true:=λ k h=>Fp hcl 40 k i h aix
   have Ue:∀k,before ops.toList 40 i k=true→listed.getD k false=false:=λ k h=>by
    cases hk:listed.getD k false with
    | false=>rfl
    | true=>
     have:=Fp hcl 40 i k h λ o' ho'=>hcl k o' ho' hk
     rw [hpi] at this
     cases this
   have hp:(λ j=>listed.getD j false||decide (j=i))=λ j=>(listed.setIfInBounds i true).getD j false:=by
    funext j
    by_cases hj:j=i
    ·subst hj
     have:j<listed.size:=by omega
     simp [this]
    ·rw [getD_set_ne false (λ e=>hj e.symm)]
     simp [hj]
   have afb:∀ {α:Type} (wr:Nat→Nat→Bool) (g:Nat→Nat→α) (F:Nat→α) (t:Nat),(∀k,k<ops.size→wr k t=true→k≠i→before ops.toList 40 (min k i) (max k i)=true)→
     sel wr g (λ j=>listed.getD j false) ops.size F t=sel wr g yes i F t:=by
    intro α wr g F t h
    refine (zh wr g _ (λ j=>decide (j<i)) F t _ λ k hk hw=>?_).trans (nC wr g F t i ops.size om)
    by_cases hki:k=i
    ·subst hki; simpa using hpi
    ·have hb:=h k hk hw hki
     rcases Nat.lt_or_gt_of_ne hki with hlt' | hgt
     ·rw [Nat.min_eq_left om,Nat.max_eq_right om] at hb
      rw [abr k hb]; simp [hlt']
     ·rw [Nat.min_eq_right om,Nat.max_eq_left om] at hb
      rw [Ue k hb]; simp; omega
   refine VI hc htr hok ho (p:=λ j=>listed.getD j false) hpi (λ t ht=>?_) (λ hex b hb=>?_) (λ t ht k hik hpk=>?_) (λ b hb k hik hpk=>?_) hR hT λ a' w' I' O' hR' hT'=>?_
   ·have cond:∀k,k<ops.size→YG ops.toList k t=true→k≠i→before ops.toList 40 (min k i) (max k i)=true:=by
     intro k hk hw hki
     obtain ⟨ok,hok',hdk⟩:=afa k t hw
     rcases Nat.lt_or_gt_of_ne hki with hlt' | hgt
     ·rw [Nat.min_eq_left om,Nat.max_eq_right om]
      rcases tmps k i ok o hlt' hok' ho with h | h
      ·exact absurd ht ((Cv h).1 t hdk)
      ·exact h
     ·rw [Nat.min_eq_right om,Nat.max_eq_left om]
      rcases tmps i k o ok hgt ho hok' with h | h
      ·exact absurd ht ((Cv h).2.1 t hdk)
      ·exact h
    exact ⟨afb _ _ _ t cond,afb _ _ _ t cond⟩
   ·refine afb _ _ _ b λ k hk hw hki=>?_
    rcases Nat.lt_or_gt_of_ne hki with hlt' | hgt
    ·rw [Nat.min_eq_left om,Nat.max_eq_right om]
     rcases hdyn k i hlt' hlt with h | h
     ·exact h
     ·exact absurd hb (h.1 b hw hex)
    ·rw [Nat.min_eq_right om,Nat.max_eq_left om]
     rcases hdyn i k hgt hk with h | h
     ·exact h
     ·exact absurd hb (h.2.1 b hw hex)
   ·cases hw:YG ops.toList k t with
    | false=>rfl
    | true=>
     obtain ⟨oi,hoi,hdi⟩:=afa i t ht
     obtain ⟨ok,hok',hdk⟩:=afa k t hw
     rcases tmps i k oi ok hik hoi hok' with h | h
     ·exact absurd hdk ((Cv h).2.2 t hdi)
     ·rw [Ue k h] at hpk; cases hpk
   ·by_cases hk:k<ops.size
    ·rcases hdyn i k hik hk with h | h
     ·rw [Ue k h] at hpk; cases hpk
     ·exact h.2.2 b hb
    ·have:listed.getD k false=false:=by simp [Array.getElem?_eq_none (show listed.size≤k by omega)]
     rw [this] at hpk; cases hpk
   ·rw [hp] at hR' hT'
    refine ih (listed.setIfInBounds i true) a' w' I' O' (by simp [hls]) ?_ ?_ hR' hT'
    ·intro j oj hj hl e he hb
     by_cases hji:j=i
     ·subst hji
      rw [ho] at hj
      cases hj
      exact getD_set_true (hed e he hb)
     ·rw [getD_set_ne false (λ e=>hji e.symm)] at hl
      exact getD_set_true (hcl j oj hj hl e he hb)
    ·have hlt':i<listed.size:=by omega
     have:=VK (l:=List.range ops.size) (p:=λ k=>!listed.getD k false) (i:=i) (List.mem_range.2 hlt) (by rw [hpi]; rfl)
     have e2:((List.range ops.size).filter λ k=>!(listed.setIfInBounds i true).getD k false)=(List.range ops.size).filter λ k=>!listed.getD k false&&!decide (k=i):=by
      congr 1
      funext k
      rw [← congrFun hp k]
      simp
     rw [e2]
     omega
 have e0:(λ k=>(Array.replicate ops.size false).getD k false)=λ _=>false:=by
  funext k;rcases Nat.lt_or_ge k ops.size with h | h
  ·simp [h]
  ·simp [h]
 have e1:∀ {α:Type} (wr:Nat→Nat→Bool) (g:Nat→Nat→α) (F:Nat→α),sel wr g (λ _=>false) ops.size F=F:=λ wr g F=>funext λ t=>by
  have:=nC wr g F t 0 ops.size (Nat.zero_le _);refine (zh wr g _ (λ j=>decide (j<0)) F t _ λ k _ _=>?_).trans this;simp
 refine key ops.size (Array.replicate ops.size false) a { w with drawn:=w.drawn+1 } I O (by simp) ?_ ?_ ?_ ?_
 ·intro j o _ h;rw [congrFun e0 j] at h;cases h
 ·exact Nat.le_trans (List.length_filter_le _ _) (by simp)
 ·rw [e0];unfold GY;rw [e1];exact (Rel.z8 (w:=w) (w':={ w with drawn:=w.drawn+1 }) rfl (fP.heap rfl rfl rfl rfl) hR).zk λ o h=>.inl h
 ·rw [e0];unfold zi EI;rw [e1,e1];have Hg:=Rel.z8 (w:=w) (w':={ w with drawn:=w.drawn+1 }) rfl (fP.heap rfl rfl rfl rfl) hR;have:tN N ds T0 (λ _=>true) a { w with drawn:=w.drawn+1 } I O (λ o=>o<nx):=⟨hTR.defers,hTR.size,λ t ht=>cO.z8 (w:=w) (w':={ w with drawn:=w.drawn+1 }) rfl hR (hTR.rep t ht),hTR.gone⟩;exact this.zk (λ o h=>.inl h) Hg
end
end Go.Ab
namespace Go.Ab
section
variable {P:Program} {cfg:qz} {cx:Ctx} {N:Nat} {Sp:kL}
theorem SG:∀(l:List AV) (K:List AV→Prop),Cc l K↔K l:=by
 intro l;induction l with
 | nil=>intro K; exact Iff.rfl
 | cons v l ih=>
  intro K;unfold Cc;rw [ih];cases v<;>exact Iff.rfl
theorem force_eq (v:AV) (K:AV→Prop):force v K↔K v:=by
 cases v<;>first | exact Iff.rfl | exact SG _ _
theorem VN:∀(l:jh) (K:jh→Prop),vQ l K↔K l:=by
 intro l;induction l with
 | nil=>intro K; exact Iff.rfl
 | cons u l ih=>
  intro K;obtain ⟨o,x⟩:=u;cases x with
  | none=>exact ih _
  | some x=>cases x with
   | box cs=>simp only [vQ]; rw [SG]; exact ih _
   | row es n g=>exact ih _
   | map kd z f=>exact ih _
theorem Uf (H:jh):∀(ups:jh) (K:jh→Prop),Zi ups H K↔K (ups++H):=by
 intro ups;induction ups with
 | nil=>intro K; exact Iff.rfl
 | cons u l ih=>intro K; unfold Zi; exact ih _
theorem vM (p:PC):∀(l:List PC) (K:List PC→Prop),zV l p K↔K (l++[p]):=by
 intro l;induction l with
 | nil=>intro K; exact Iff.rfl
 | cons q l ih=>intro K; unfold zV; exact ih _
theorem ZI:∀(l:List PC) (j:Nat) (K:PC→Prop),W9 l j K↔K (Ch l j):=by
 intro l;induction l with
 | nil=>intro j K; exact Iff.rfl
 | cons p l ih=>intro j K; cases j with
  | zero=>exact Iff.rfl
  | succ j=>exact ih j K
def holds (pc:PC):Prop:=∀q∈pc,q.1=q.2
theorem Eu:∀(pc:PC) (p:Prop) (K:Prop→Prop),Zh pc p K→∃q:Prop,K q∧(q→holds pc→p):=by
 intro pc;induction pc with
 | nil=>intro p K h; exact ⟨p,h,λ h _=>h⟩
 | cons x l ih=>
  intro p K h;obtain ⟨c,b⟩:=x;obtain ⟨q,h1,h2⟩:=ih _ _ h;exact ⟨q,h1,λ hq hh=>h2 hq (λ y hy=>hh y (List.mem_cons_of_mem _ hy)) (hh (c,b) (by simp))⟩
theorem HV (pc:PC) (H:Nat→Option cu):∀(pg:Pg) (rT:List Nat) (K:AV→jh→List Nat→Prop),ev Sp pc H pg rT K→∃v ups Kz,K v ups Kz∧(∀x∈rT,x∈Kz)∧(holds pc→∃r,dK Sp H pg v ups r∧∀x∈r,x∈Kz):=by
 intro pg;induction pg with
 | ret v ups=>
  intro rT K h;unfold ev at h;rw [force_eq,VN] at h;exact ⟨v,ups,rT,h,λ _ h=>h,λ _=>⟨[],.ret v ups,λ x hx=>by cases hx⟩⟩
 | need p k ih=>
  intro rT K h;unfold ev at h;obtain ⟨q,⟨h1,h2⟩,h3⟩:=Eu pc p _ h;obtain ⟨v,ups,Kz,h4,h5,h6⟩:=ih rT K h2;refine ⟨v,ups,Kz,h4,h5,λ hh=>?_⟩;obtain ⟨r,h7,h8⟩:=h6 hh;exact ⟨r,.need (h3 h1 hh) h7,h8⟩
 | rd o k ih=>
  intro rT K h;unfold ev at h;split at h
  ·rename_i x hx;obtain ⟨v,ups,Kz,h4,h5,h6⟩:=ih x (o::rT) K h;refine ⟨v,ups,Kz,h4,λ y hy=>h5 y (List.mem_cons_of_mem _ hy),λ hh=>?_⟩;obtain ⟨r,h7,h8⟩:=h6 hh;refine ⟨o::r,.rd hx h7,λ y hy=>?_⟩;rcases List.mem_cons.1 hy with e | e
   ·subst e; exact h5 y (by simp)
   ·exact h8 y e
  ·obtain ⟨q,⟨h1,h2⟩,h3⟩:=Eu pc False _ h;exact ⟨_,_,rT,h2,λ _ h=>h,λ hh=>(h3 h1 hh).elim⟩
 | call f args obs k ih=>
  intro rT K h;unfold ev at h;obtain ⟨r,dQ,h⟩:=h;obtain ⟨q,⟨h1,h2⟩,h3⟩:=Eu pc _ _ h;obtain ⟨v,ups,Kz,h4,h5,h6⟩:=ih r dQ rT K h2;refine ⟨v,ups,Kz,h4,h5,λ hh=>?_⟩;obtain ⟨r',h7,h8⟩:=h6 hh;exact ⟨r',.call (h3 h1 hh) h7,h8⟩
 | fail=>
  intro rT K h;unfold ev at h;obtain ⟨q,⟨h1,h2⟩,h3⟩:=Eu pc False _ h;exact ⟨_,_,rT,h2,λ _ h=>h,λ hh=>(h3 h1 hh).elim⟩
def ZJ:List Oper→List TE→(Nat→AV)→Nat→AV
 | o::rest,e::tr,T=>ZJ rest tr (jA T o.dst e.v)
 | _,_,T=>T
def ZL:List Oper→List TE→(Nat→Bool)→Nat→Bool
 | o::rest,e::tr,V=>ZL rest tr (jA V o.dst e.ex)
 | _,_,V=>V
def ZM:List TE→(Nat→Option cu)→Nat→Option cu
 | e::tr,H=>ZM tr (jK H e.ups)
 | [],H=>H
theorem lS (T:List (Nat×AV)) (d:Nat) (v:AV):fV ((d,v)::T)=jA (fV T) (some d) v:=by
 funext t;unfold fV jA;simp only [look];cases hb:Nat.beq d t with
 | true=>have:=Nat.eq_of_beq_eq_true hb; subst this; simp
 | false=>
  have:t≠d:=λ e=>by subst e; simp at hb
  simp [this]
theorem Cw (ups H:jh):hget (ups++H)=jK (hget H) ups:=by
 funext o;unfold hget jK;rw [Ct];cases look ups o with
 | none=>rfl
 | some x=>cases x<;>rfl
theorem Ev (dst:Option Nat) (v u:AV) (T U:List (Nat×AV)) (K:List (Nat×AV)→List (Nat×AV)→Prop) (h:WZ dst v u T U K):∃T' U',K T' U'∧fV T'=jA (fV T) dst v∧fV U'=jA (fV U) dst u:=by
 cases dst with
 | none=>exact ⟨T,U,h,rfl,rfl⟩
 | some d=>exact ⟨_,_,h,lS T d v,lS U d u⟩
def YH:List TE→List Log→List Log→Prop
 | [],l,l0=>l=l0
 | e::tr,l,l0=>∃g:Log,(e.ex=true→(∀x∈e.rT,x∈g.rT))∧(∀x,(look e.ups x).isSome=true→x∈g.WX)∧YH tr l (g::l0)
theorem Px (ups:jh) (x:Nat) (h:(look ups x).isSome=true):x∈ids ups:=by
 induction ups with
 | nil=>cases h
 | cons u l ih=>
  obtain ⟨o,y⟩:=u;simp only [look] at h;simp only [ids,List.mem_cons];cases hb:Nat.beq o x with
  | true=>exact .inl (Nat.eq_of_beq_eq_true hb).symm
  | false=>simp only [hb] at h; exact .inr (ih h)
theorem XD (l:List PC) (p:PC) (j:Nat):Ch (l++[p]) j=if j<l.length then Ch l j else if j=l.length then p else []:=by
 induction l generalizing j with
 | nil=>cases j<;>simp [Ch]
 | cons q l ih=>
  cases j with
  | zero=>simp [Ch]
  | succ j=>
   simp only [List.cons_append,Ch,ih,List.length_cons];by_cases h1:j<l.length
   ·simp [h1]
   ·by_cases h2:j=l.length
    ·simp [h2]
    ·simp [h1,h2]
theorem upd_ne {α:Type} (F:Nat→α) (d:Option Nat) (x:α) (t:Nat) (h:d≠some t):jA F d x t=F t:=by
 cases d with
 | none=>rfl
 | some k=>
  have:t≠k:=λ e=>h (by rw [e]);simp [jA,this]
theorem Ug {α:Type} (F:Nat→α) (t:Nat) (x:α):jA F (some t) x t=x:=by simp [jA]
theorem Py:∀ {l:PC},WY l=true↔holds l
 | []=>⟨λ _ q hq=>by (cases hq),λ _=>rfl⟩
 | (c,b)::l=>by
  simp only [WY,Bool.and_eq_true,beq_iff_eq,Py (l:=l)];constructor
  ·rintro ⟨h1,h2⟩ q hq;rcases List.mem_cons.1 hq with e | e
   ·subst e; exact h1
   ·exact h2 q e
  ·intro h;exact ⟨h (c,b) (by simp),λ q hq=>h q (List.mem_cons_of_mem _ hq)⟩
theorem XE {all:List Oper} {nx:Nat} (hok:ny N all all 0=true):∀(rest:List Oper) (i:Nat) (T U:List (Nat×AV)) (H:jh) (UU:List PC) (log:List Log) (K:St→List Log→Prop) (V:Nat→Bool),
  (∀j,rest[j]? = all[i+j]?)→UU.length=i→(∀j d,j<i→writers all d=[j]→(V d=true↔holds (Ch UU j)))→(∀t,fV U t=.undef∨(V t=true∧fV U t=fV T t))→
  Rp cfg Sp all nx rest i T U H UU log K→∃tr s Uh,Tr cfg Sp all nx rest i (fV T) V (hget H) tr∧tr.length=rest.length∧K s Uh∧s.nx=nx+stride*(i+rest.length)∧hget s.heap=ZM tr (hget H)∧
   (∀t,fV s.tmps t=.undef∨(ZL rest tr V t=true∧fV s.tmps t=ZJ rest tr (fV T) t))∧YH tr Uh log:=by
 intro rest;induction rest with
 | nil=>
  intro i T U H UU log K V _ _ _ hU h;exact ⟨[],_,log,trivial,rfl,h,rfl,rfl,hU,rfl⟩
 | cons o rest ih=>
  intro i T U H UU log K V hr hpl hpc hU h;have hi:all[i]? = some o:=by simpa using (hr 0).symm
  have hop:=(FY all 0 hok i o hi).1;rw [Nat.zero_add] at hop;have hr':∀j,rest[j]? = all[i+1+j]? := λ j=>by
   have:=hr (j+1);rw [show i+(j+1)=i+1+j by omega] at this;simpa using this
  have go:∀(v u:AV) (ups:jh) (ex:Bool) (r:List Nat) (g:Log) (pc:PC) (T' U':List (Nat×AV)) (H':jh),jP all (fV T) o→ex=iy all (fV T) V o→(ex=true→dK Sp (hget H) (pR cfg (nx+stride*i) o.op (J8 cfg (fV T))) v ups r)→(ex=false→ups=[])→
    fV T'=jA (fV T) o.dst v→fV U'=jA (fV U) o.dst u→hget H'=jK (hget H) ups→(u=.undef∨(ex=true∧u=v))→(ex=true↔holds pc)→(ex=true→(∀x∈r,x∈g.rT))→(∀x,(look ups x).isSome=true→x∈g.WX)→
    Rp cfg Sp all nx rest (i+1) T' U' H' (UU++[pc]) (g::log) K→∃tr s Uh,Tr cfg Sp all nx (o::rest) i (fV T) V (hget H) tr∧tr.length=(o::rest).length∧K s Uh∧s.nx=nx+stride*(i+(o::rest).length)∧hget s.heap=ZM tr (hget H)∧
     (∀t,fV s.tmps t=.undef∨(ZL (o::rest) tr V t=true∧fV s.tmps t=ZJ (o::rest) tr (fV T) t))∧YH tr Uh log:=by
   intro v u ups ex r g pc T' U' H' g1 g2 g3 g4 g5 g6 g7 g8 g9 g10 g11 g12
   have aiy:∀j d,j<i+1→writers all d=[j]→(jA V o.dst ex d=true↔holds (Ch (UU++[pc]) j)):=by
    intro j d hj hw
    rw [XD,hpl]
    by_cases hji:j=i
    ·subst hji
     have:j∈writers all d:=by rw [hw]; simp
     obtain ⟨o',h1,h2⟩:=(qE all d j).1 this
     rw [hi] at h1
     cases h1
     rw [h2,Ug]
     simpa using g9
    ·have hne:o.dst≠some d:=λ e=>by
      have:i∈writers all d:=(qE all d i).2 ⟨o,hi,e⟩
      rw [hw] at this
      simp at this
      omega
     rw [upd_ne _ _ _ _ hne,if_pos om]
     exact hpc j d om hw
   have hU':∀t,fV U' t=.undef∨(jA V o.dst ex t=true∧fV U' t=fV T' t):=by
    intro t
    rw [g5,g6]
    by_cases hd:o.dst=some t
    ·rw [hd,Ug,Ug,Ug]
     rcases g8 with e | ⟨e1,e2⟩
     ·exact .inl e
     ·exact .inr ⟨e1,e2⟩
    ·rw [upd_ne _ _ _ _ hd,upd_ne _ _ _ _ hd,upd_ne _ _ _ _ hd]
     exact hU t
   obtain ⟨tr,s,Uh,q1,q2,q3,q4,q5,q6,q7⟩:=ih (i+1) T' U' H' (UU++[pc]) (g::log) K (jA V o.dst ex) hr' (by simp [hpl]) aiy hU' g12
   rw [g5,g7] at q1
   rw [g7] at q5
   rw [g5] at q6
   exact ⟨⟨ex,v,ups,r⟩::tr,s,Uh,⟨g1,g2,g3,g4,q1⟩,by simp [q2],q3,by rw [q4,show i+1+rest.length=i+(o::rest).length by simp; omega],q5,q6,g,g10,g11,q7⟩
  unfold Rp at h;cases hg:o.guard with
  | none=>
   rw [hg] at h;simp only at h;obtain ⟨v,ups,Kz,h1,_,h2⟩:=HV _ _ _ _ _ h;obtain ⟨r,h3,h4⟩:=h2 (λ q hq=>by cases hq);obtain ⟨T',U',h5,h6,h7⟩:=Ev _ _ _ _ _ _ h1;rw [Uf,vM] at h5;have hs:jP all (fV T) o:=by unfold jP; rw [hg]; trivial
   have hon:iy all (fV T) V o=true:=by unfold iy; rw [hg]
   exact go v v ups true r _ [] T' U' _ hs hon.symm (λ _=>h3) (λ e=>by cases e) h6 h7 (Cw ups H) (.inr ⟨rfl,rfl⟩) ⟨λ _ q hq=>by (cases hq),λ _=>rfl⟩ (λ _=>h4) (λ x hx=>Px ups x hx) h5
  | some gu=>
   obtain ⟨j,b⟩:=gu;rw [hg] at h;simp only at h;cases hd:L6 all j with
   | none=>rw [hd] at h; exact h.elim
   | some d=>
    rw [hd] at h;simp only at h;cases hT:fV T d with
    | bool c=>
     rw [hT] at h;simp only at h;have hjd:j<i∧writers all d=[j]:=by
      unfold U9 at hop;rw [hg] at hop;simp only at hop;split at hop
      ·rename_i h1;split at h1
       ·rename_i hlt;rw [hd] at h1;simp only at h1;split at h1
        ·rename_i j' hw;have e:=Nat.eq_of_beq_eq_true h1;subst e;exact ⟨by simpa using hlt,hw⟩
        ·cases h1
       ·cases h1
      ·cases hop
     have hVd:=hpc j d hjd.1 hjd.2;have hs:jP all (fV T) o:=by unfold jP; rw [hg]; exact ⟨d,c,hd,hT⟩
     have hon:iy all (fV T) V o=(V d&&(c==b)):=by unfold iy; rw [hg]; simp only [hd,hT,isB]
     cases hq:Yv cfg o.op with
     | true=>
      rw [hq] at h;simp only at h;rw [ZI] at h;obtain ⟨v,ups,Kz,h1,_,h2⟩:=HV _ _ _ _ _ h;cases ups with
      | cons u l=>exact h1.elim
      | nil=>
       simp only at h1;obtain ⟨T',U',h5,h6,h7⟩:=Ev _ _ _ _ _ _ h1;rw [vM] at h5;have hiff:iy all (fV T) V o=true↔holds ((c,b)::Ch UU j):=by
        rw [hon];simp only [Bool.and_eq_true,beq_iff_eq,hVd];constructor
        ·rintro ⟨q1,q2⟩ q hq;rcases List.mem_cons.1 hq with e | e
         ·subst e; exact q2
         ·exact q1 q e
        ·intro q;exact ⟨λ y hy=>q y (List.mem_cons_of_mem _ hy),q (c,b) (by simp)⟩
       cases hex:iy all (fV T) V o with
       | true=>
        obtain ⟨r,h3,h4⟩:=h2 (hiff.1 hex);exact go v .undef [] true r _ _ T' U' H hs hex.symm (λ _=>h3) (λ e=>by cases e) h6 h7 (by rw [tH]) (.inl rfl) ⟨λ _=>hiff.1 hex,λ _=>rfl⟩ (λ _=>h4) (λ x hx=>by cases hx) h5
       | false=>
        exact go v .undef [] false [] _ _ T' U' H hs hex.symm (λ e=>by cases e) (λ _=>rfl) h6 h7 (by rw [tH]) (.inl rfl) (by rw [← hex]; exact hiff) (λ e=>by cases e) (λ x hx=>by cases hx) h5
     | false=>
      rw [hq] at h;simp only at h;split at h
      ·rename_i hnil;have hV:V d=true:=hVd.2 (by rw [hnil]; exact λ q hq=>by cases hq);rw [hV,Bool.true_and] at hon;cases hcb:(c==b) with
       | true=>
        rw [hcb] at h;simp only [Fe] at h;obtain ⟨v,ups,Kz,h1,_,h2⟩:=HV _ _ _ _ _ h;obtain ⟨r,h3,h4⟩:=h2 (λ q hq=>by cases hq);obtain ⟨T',U',h5,h6,h7⟩:=Ev _ _ _ _ _ _ h1;rw [Uf,vM] at h5;exact go v v ups true r _ [] T' U' _ hs (by rw [hon,hcb]) (λ _=>h3) (λ e=>by cases e) h6 h7 (Cw ups H) (.inr ⟨rfl,rfl⟩) ⟨λ _ q hq=>by (cases hq),λ _=>rfl⟩ (λ _=>h4) (λ x hx=>Px ups x hx) h5
       | false=>
        rw [hcb] at h;simp only [Fe] at h;obtain ⟨T',U',h5,h6,h7⟩:=Ev _ _ _ _ _ _ h;rw [vM] at h5;refine go .undef .undef [] false [] _ _ T' U' H hs (by rw [hon,hcb]) (λ e=>by cases e) (λ _=>rfl) h6 h7 (by rw [tH]) (.inl rfl) ⟨λ e=>by (cases e),λ q=>?_⟩ (λ e=>by cases e) (λ x hx=>by cases hx) h5;have:=q (c,b) (by simp);simp at hcb;exact absurd this hcb
      ·rename_i q pcj ag2;have hiff:iy all (fV T) V o=true↔((c==b)&&WY (q::pcj))=true:=by
        rw [hon];simp only [Bool.and_eq_true,Py,hVd,ag2];exact And.comm
       cases hcb:((c==b)&&WY (q::pcj)) with
       | true=>
        rw [hcb] at h;simp only [Fe] at h;obtain ⟨v,ups,Kz,h1,_,h2⟩:=HV _ _ _ _ _ h;obtain ⟨r,h3,h4⟩:=h2 (λ q hq=>by cases hq);obtain ⟨T',U',h5,h6,h7⟩:=Ev _ _ _ _ _ _ h1;rw [Uf,vM] at h5;exact go v v ups true r _ [] T' U' _ hs (hiff.2 hcb).symm (λ _=>h3) (λ e=>by cases e) h6 h7 (Cw ups H) (.inr ⟨rfl,rfl⟩) ⟨λ _ q hq=>by (cases hq),λ _=>rfl⟩ (λ _=>h4) (λ x hx=>Px ups x hx) h5
       | false=>
        have hex:iy all (fV T) V o=false:=by
         cases hg2:iy all (fV T) V o with
         | false=>rfl
         | true=>rw [hiff.1 hg2] at hcb; cases hcb
        rw [hcb] at h;simp only [Fe] at h;obtain ⟨T',U',h5,h6,h7⟩:=Ev _ _ _ _ _ _ h;rw [vM] at h5;refine go .undef .undef [] false [] _ _ T' U' H hs hex.symm (λ e=>by cases e) (λ _=>rfl) h6 h7 (by rw [tH]) (.inl rfl) ⟨λ e=>by (cases e),λ q'=>?_⟩ (λ e=>by cases e) (λ x hx=>by cases hx) h5;have h8:WY (q::pcj)=true:=Py.2 λ y hy=>q' y (List.mem_cons_of_mem _ hy);have h9:=q' (c,b) (by simp);rw [h8,Bool.and_true] at hcb;simp at hcb;exact absurd h9 hcb
    | _=>rw [hT] at h; exact h.elim
end
end Go.Ab

/-
  Proved: the law bringuplaw31.RulesCut returns true at every input and leaves its arguments as they were; the card ties the package variable clock.off to the program's text. No condition beyond the card's own.
-/
import Derived.Test.YtfblhejmclcdmaaGreatDoorA8
import Derived.Test.YtfblhejmclcdmaaGreatDoorProg
import Derived.Test.YtfblhejmclcdmaaGreatDoorA3
import Derived.Test.YtfblhejmclcdmaaGreatDoorA7
set_option linter.unusedVariables false
set_option linter.unusedSimpArgs false

namespace Go.Ab
noncomputable def tgX (T:kR AV) (t:Nat):AV:=match T.get t with
 | some v=>v
 | none=>.undef
structure SX where
 tmps:kR AV
 heap:kR aW
 nx:Nat
noncomputable def SX.st (s:SX):St:=⟨s.tmps.TN 1 0,(s.heap.TN 1 0).map fun p=>(p.1,some p.2),s.nx⟩
theorem lI (s:SX):tget s.st.tmps=tgX s.tmps:=by
 funext t;show (match look (s.tmps.TN 1 0) t with | some v=>v | none=>AV.undef)=_;rw [kR.Fp];rfl
theorem Vs {α:Type} (l:List (Nat×α)) (k:Nat):look (l.map fun p=>(p.1,some p.2)) k=(look l k).map some:=by
 induction l with
 | nil=>rfl
 | cons p l ih=>
  obtain ⟨j,y⟩:=p;simp only [List.map_cons,look];cases Nat.beq j k with
  | true=>rfl
  | false=>exact ih
theorem nX (s:SX):hget s.st.heap=s.heap.get:=by
 funext o;show hget ((s.heap.TN 1 0).map fun p=>(p.1,some p.2)) o=_;unfold hget;rw [Vs,kR.Fp];cases s.heap.get o<;>rfl
section
variable {β:Type}
noncomputable def fLs (h:AV→(AV→β)→β) (l:List AV):(List AV→β)→β:=
 List.rec (motive:=fun _=>(List AV→β)→β) (fun K=>K []) (fun v _ ih K=>h v fun v=>ih fun l=>K (v::l)) l
def fB (b:Bool) (K:Bool→β):β:=match b with
 | true=>K true
 | false=>K false
noncomputable def fV1 (v:AV) (K:AV→β):β:=match v with
  | .undef=>K .undef
  | .bool b=>fB b fun b=>K (.bool b)
  | .int k n=>fI n fun n=>K (.int k n)
  | .str s=>K (.str s)
  | .sl es n fl g=>fN n fun n=>K (.sl es n fl g)
  | .agg cs=>K (.agg cs)
  | .iT cs=>K (.iT cs)
  | .ro cs=>K (.ro cs)
  | .fn g cs=>K (.fn g cs)
  | .ptr o i off=>fN o fun o=>fN i fun i=>fN off fun off=>K (.ptr o i off)
  | .bP o i n fl=>fN o fun o=>fN i fun i=>fN n fun n=>K (.bP o i n fl)
  | .nZ=>K .nZ
  | .mref o=>fN o fun o=>K (.mref o)
noncomputable def fV2 (v:AV) (K:AV→β):β:=match v with
  | .agg cs=>fLs fV1 cs fun cs=>K (.agg cs)
  | .ro cs=>fLs fV1 cs fun cs=>K (.ro cs)
  | .fn g cs=>fLs fV1 cs fun cs=>K (.fn g cs)
  | v=>fV1 v K
noncomputable def fV (v:AV) (K:AV→β):β:=match v with
  | .iT cs=>fLs fV2 cs fun cs=>K (.iT cs)
  | v=>fV2 v K
theorem Vt {h:AV→(AV→β)→β} (hh:∀v K,h v K=K v):∀(l:List AV) (K:List AV→β),fLs h l K=K l:=by
 intro l;induction l with
 | nil=>intro K; rfl
 | cons v l ih=>intro K; show h v (fun v=>fLs h l fun l=>K (v::l))=_; rw [hh,ih]
theorem aby (b:Bool) (K:Bool→β):fB b K=K b:=by cases b<;>rfl
theorem ZB (v:AV) (K:AV→β):fV1 v K=K v:=by
 cases v<;>unfold fV1<;>simp only [aby,abr,Gs]
theorem Vu (v:AV) (K:AV→β):fV2 v K=K v:=by
 cases v<;>unfold fV2<;>simp only [ZB,Vt ZB]
theorem acW (v:AV) (K:AV→β):fV v K=K v:=by
 cases v<;>unfold fV<;>simp only [Vu,Vt Vu]
noncomputable def fO (x:Option aW) (K:Option aW→β):β:=match x with
 | some (.box cs)=>fLs fV2 cs fun cs=>K (some (.box cs))
 | some (.row es n g)=>fN n fun n=>K (some (.row es n g))
 | some (.map kd z h)=>K (some (.map kd z h))
 | none=>K none
theorem acX (x:Option aW) (K:Option aW→β):fO x K=K x:=by
 cases x with
 | none=>rfl
 | some x=>cases x<;>unfold fO<;>simp only [Vt Vu,Gs]
end
noncomputable def Vv:gI→kR aW→kR aW
 | [],H=>H
 | (o,x)::l,H=>fN o fun o=>fO x fun x=>(Vv l H).set x 41 o
def ltU:gI→Bool
 | []=>true
 | (o,_)::l=>match Nat.blt o 1099511627776 with
  | true=>ltU l
  | false=>false
noncomputable def Og (dst:Option Nat) (v:AV) (T:kR AV):kR AV:=match dst with
 | some d=>T.set (some v) 41 d
 | none=>T
theorem Wy:(2:Nat) ^ 40=1099511627776:=by decide
theorem ZC (H:kR aW):∀(ups:gI),ltU ups=true→(Vv ups H).get=iY H.get ups:=by
 intro ups;induction ups with
 | nil=>intro _; rfl
 | cons p l ih=>
  intro h;obtain ⟨o,x⟩:=p;unfold ltU at h;split at h
  ·rename_i hlt;have hlt:o<2 ^ 40:=by rw [Wy]; simpa using hlt
   funext j;have e:Vv ((o,x)::l) H=(Vv l H).set x 41 o:=by
    show fN o (fun o=>fO x fun x=>(Vv l H).set x 41 o)=_;rw [Gs,acX]
   rw [e,kR.Jt x 40 _ o j hlt,ih h];unfold iY;simp only [look];cases hb:Nat.beq o j with
   | true=>have:=Nat.eq_of_beq_eq_true hb; subst this; simp
   | false=>
    have:j≠o:=fun e=>by subst e; simp at hb
    simp [this]
  ·cases h
theorem sZ (dst:Option Nat) (v:AV) (T:kR AV) (h:∀d,dst=some d→d<2 ^ 40):tgX (Og dst v T)=updO (tgX T) dst v:=by
 cases dst with
 | none=>rfl
 | some d=>
  funext t;show (match (T.set (some v) 41 d).get t with | some v=>v | none=>AV.undef)=if t=d then v else tgX T t
  rw [kR.Jt _ 40 _ d t (h d rfl)];by_cases e:t=d
  ·simp [e]
  ·simp only [if_neg e]; rfl
section
variable (x:KX) (call:wQ)
noncomputable def acd (all:List Oper) (i:Nat) (T:kR AV) (exs:List Bool):Option (Nat×Bool)→Option Bool
 | none=>some true
 | some (j,b)=>match FP all j with
  | some d=>match tgX T d with
   | .bool c=>fB (Po exs (i - 1 - j)) fun e=>match e with
    | true=>some (c==b)
    | false=>some false
   | _=>none
  | none=>none
noncomputable def Gu (all:List Oper) (nx:Nat):List Oper→Nat→kR AV→kR AV→kR aW→List Bool→List Log→List Nat→Rz (SX×List Log×List Nat)
 | [],i,_,U,H,_,log,dd=>.ok (⟨U,H,nx+stride*i⟩,log,dd)
 | o::rest,i,T,U,H,exs,log,dd=>
  match acd all i T exs o.guard with
  | some true=>match evX call H.get (ZQ x (Hz x.cfg (tgX T)) (nx+stride*i) o.op) [] with
   | .ok (v,ups,rds)=>fV v fun v=>match ltU ups with
    | true=>Gu all nx rest (i+1) (Og o.dst v T) (Og o.dst v U) (Vv ups H) (true::exs) (⟨rds,ids ups⟩::log) (Wp o.op ups++dd)
    | false=>.err [19]
   | .err l=>.err (i::l)
  | some false=>Gu all nx rest (i+1) (Og o.dst (.bool false) T) (Og o.dst .undef U) H (false::exs) (⟨[],[]⟩::log) dd
  | none=>.err [i,4]
end
section
variable {P:Program} {x:KX} {cx:Ctx} {N:Nat} {Sp:jM} {call:wQ}
theorem ZE (l:List Bool) (b:Bool) (j:Nat) (h:j≤l.length):Po (b::l) (l.length - j)=if j=l.length then b else Po l (l.length - 1 - j):=by
 by_cases e:j=l.length
 ·subst e; simp [Po]
 ·rw [if_neg e];obtain ⟨k,hk⟩:∃k,l.length - j=k+1:=⟨l.length - j - 1,by omega⟩;rw [hk,show l.length - 1 - j=k by omega];rfl
theorem TV (hcall:∀f a o r o',call f a o=.ok (r,o')→Sp f a o r o') {all:List Oper} {nx:Nat} (hN:N<2 ^ 40) (hok:kW N all all 0=true):∀(rest:List Oper) (i:Nat) (T U:kR AV) (H:kR aW) (exs:List Bool) (log:List Log) (dd:List Nat) (V:Nat→Bool) (s:SX) (log':List Log) (dd':List Nat),
  (∀j,rest[j]? = all[i+j]?)→exs.length=i→(∀j d,j<i→writers all d=[j]→(V d=true↔Po exs (i - 1 - j)=true))→(∀t,tgX U t=.undef∨(V t=true∧tgX U t=tgX T t))→
  Gu x call all nx rest i T U H exs log dd=.ok (s,log',dd')→∃tr,Tr x.cfg Sp all nx rest i (tgX T) V H.get tr∧tr.length=rest.length∧s.nx=nx+stride*(i+rest.length)∧s.heap.get=OB tr H.get∧
   (∀t,tgX s.tmps t=.undef∨(OA rest tr V t=true∧tgX s.tmps t=Oz rest tr (tgX T) t))∧MX tr log' log:=by
 intro rest;induction rest with
 | nil=>
  intro i T U H exs log dd V s log' dd' _ _ _ hU h;unfold Gu at h;cases h;exact ⟨[],trivial,rfl,rfl,rfl,hU,rfl⟩
 | cons o rest ih=>
  intro i T U H exs log dd V s log' dd' hr hpl hpc hU h;have hi:all[i]? = some o:=by simpa using (hr 0).symm
  have hop2:=Ak all 0 hok i o hi;have hop:=hop2.1;rw [Nat.zero_add] at hop;have hdst:∀d,o.dst=some d→d<2 ^ 40:=fun d hd=>Nat.lt_trans (hop2.2 d hd) hN;have hr':∀j,rest[j]? = all[i+1+j]? := fun j=>by
   have:=hr (j+1);rw [show i+(j+1)=i+1+j by omega] at this;simpa using this
  have go:∀(v u:AV) (ups:gI) (ex:Bool) (r:List Nat) (g:Log) (T' U':kR AV) (H':kR aW) (dd1:List Nat),gy all (tgX T) o→ex=fG all (tgX T) V o→(ex=true→dh Sp H.get (dD x.cfg (nx+stride*i) o.op (Hz x.cfg (tgX T))) v ups r)→(ex=false→ups=[])→
    tgX T'=updO (tgX T) o.dst v→tgX U'=updO (tgX U) o.dst u→H'.get=iY H.get ups→(u=.undef∨(ex=true∧u=v))→(ex=true→(∀x∈r,x∈g.rds))→(∀x,(look ups x).isSome=true→x∈g.Rx)→
    Gu x call all nx rest (i+1) T' U' H' (ex::exs) (g::log) dd1=.ok (s,log',dd')→∃tr,Tr x.cfg Sp all nx (o::rest) i (tgX T) V H.get tr∧tr.length=(o::rest).length∧s.nx=nx+stride*(i+(o::rest).length)∧s.heap.get=OB tr H.get∧
     (∀t,tgX s.tmps t=.undef∨(OA (o::rest) tr V t=true∧tgX s.tmps t=Oz (o::rest) tr (tgX T) t))∧MX tr log' log:=by
   intro v u ups ex r g T' U' H' dd1 g1 g2 g3 g4 g5 g6 g7 g8 g10 g11 g12
   have hpc':∀j d,j<i+1→writers all d=[j]→(updO V o.dst ex d=true↔Po (ex::exs) (i+1 - 1 - j)=true):=by
    intro j d hj hw
    rw [show i+1 - 1 - j=exs.length - j by omega,ZE exs ex j (by omega),hpl]
    by_cases hji:j=i
    ·subst hji
     have:j∈writers all d:=by rw [hw]; simp
     obtain ⟨o',h1,h2⟩:=(kF all d j).1 this
     rw [hi] at h1
     cases h1
     rw [h2,Df]
     simp
    ·have hne:o.dst≠some d:=fun e=>by
      have:i∈writers all d:=(kF all d i).2 ⟨o,hi,e⟩
      rw [hw] at this
      simp at this
      omega
     rw [upd_ne _ _ _ _ hne,if_neg hji]
     exact hpc j d (by omega) hw
   have hU':∀t,tgX U' t=.undef∨(updO V o.dst ex t=true∧tgX U' t=tgX T' t):=by
    intro t
    rw [g5,g6]
    by_cases hd:o.dst=some t
    ·rw [hd,Df,Df,Df]
     rcases g8 with e | ⟨e1,e2⟩
     ·exact .inl e
     ·exact .inr ⟨e1,e2⟩
    ·rw [upd_ne _ _ _ _ hd,upd_ne _ _ _ _ hd,upd_ne _ _ _ _ hd]
     exact hU t
   obtain ⟨tr,q1,q2,q4,q5,q6,q7⟩:=ih (i+1) T' U' H' (ex::exs) (g::log) dd1 (updO V o.dst ex) s log' dd' hr' (by simp [hpl]) hpc' hU' g12
   rw [g5,g7] at q1
   rw [g7] at q5
   rw [g5] at q6
   exact ⟨⟨ex,v,ups,r⟩::tr,⟨g1,g2,g3,g4,q1⟩,by simp [q2],by rw [q4,show i+1+rest.length=i+(o::rest).length by simp; omega],q5,q6,g,g10,g11,q7⟩
  have main:∀b:Bool,gy all (tgX T) o→fG all (tgX T) V o=b→(match b with
    | true=>match evX call H.get (ZQ x (Hz x.cfg (tgX T)) (nx+stride*i) o.op) [] with
     | .ok (v,ups,rds)=>fV v fun v=>match ltU ups with
      | true=>Gu x call all nx rest (i+1) (Og o.dst v T) (Og o.dst v U) (Vv ups H) (true::exs) (⟨rds,ids ups⟩::log) (Wp o.op ups++dd)
      | false=>.err [19]
     | .err l=>.err (i::l)
    | false=>Gu x call all nx rest (i+1) (Og o.dst (.bool false) T) (Og o.dst .undef U) H (false::exs) (⟨[],[]⟩::log) dd)=.ok (s,log',dd')→
    ∃tr,Tr x.cfg Sp all nx (o::rest) i (tgX T) V H.get tr∧tr.length=(o::rest).length∧s.nx=nx+stride*(i+(o::rest).length)∧s.heap.get=OB tr H.get∧
     (∀t,tgX s.tmps t=.undef∨(OA (o::rest) tr V t=true∧tgX s.tmps t=Oz (o::rest) tr (tgX T) t))∧MX tr log' log:=by
   intro b hs hon h
   cases b with
   | true=>
    simp only at h
    split at h
    ·rename_i v ups rds hev
     rw [acW] at h
     split at h
     ·rename_i hlt
      rw [ab8] at hev
      obtain ⟨_,r,h3,h4⟩:=XQ hcall _ _ _ _ _ _ hev
      exact go v v ups true r _ _ _ _ _ hs hon.symm (fun _=>h3) (fun e=>by cases e) (sZ _ _ _ hdst) (sZ _ _ _ hdst) (ZC H ups hlt) (.inr ⟨rfl,rfl⟩) (fun _=>h4) (fun x hx=>MZ ups x hx) h
     ·cases h
    ·cases h
   | false=>
    simp only at h
    exact go (.bool false) .undef [] false [] _ _ _ _ _ hs hon.symm (fun e=>by cases e) (fun _=>rfl) (sZ _ _ _ hdst) (sZ _ _ _ hdst) (by rw [rY]) (.inl rfl) (fun e=>by cases e) (fun x hx=>by cases hx) h
  unfold Gu at h;cases hg:o.guard with
  | none=>
   rw [hg] at h;simp only [acd] at h;exact main true (by unfold gy; rw [hg]; trivial) (by unfold fG; rw [hg]) h
  | some gu=>
   obtain ⟨j,b⟩:=gu;rw [hg] at h;simp only [acd] at h;cases hd:FP all j with
   | none=>rw [hd] at h; cases h
   | some d=>
    rw [hd] at h;simp only at h;cases hT:tgX T d with
    | bool c=>
     rw [hT] at h;simp only [aby] at h;have hjd:j<i∧writers all d=[j]:=by
      unfold Qr at hop;rw [hg] at hop;simp only at hop;split at hop
      ·rename_i h1;split at h1
       ·rename_i hlt;rw [hd] at h1;simp only at h1;split at h1
        ·rename_i j' hw;have e:=Nat.eq_of_beq_eq_true h1;subst e;exact ⟨by simpa using hlt,hw⟩
        ·cases h1
       ·cases h1
      ·cases hop
     have hVd:=hpc j d hjd.1 hjd.2;have hs:gy all (tgX T) o:=by unfold gy; rw [hg]; exact ⟨d,c,hd,hT⟩
     have hon:fG all (tgX T) V o=(V d&&(c==b)):=by unfold fG; rw [hg]; simp only [hd,hT,X3]
     have e:V d=Po exs (i - 1 - j):=by
      cases hv:V d with
      | true=>exact (hVd.1 hv).symm
      | false=>
       cases hn:Po exs (i - 1 - j) with
       | false=>rfl
       | true=>rw [hVd.2 hn] at hv; cases hv
     rw [e] at hon;cases hn:Po exs (i - 1 - j) with
     | true=>
      rw [hn] at hon h;simp only [Bool.true_and] at hon;simp only at h;refine main (c==b) hs hon ?_;cases hb:(c==b) with
      | true=>rw [hb] at h; exact h
      | false=>rw [hb] at h; exact h
     | false=>
      rw [hn] at hon h;simp only [Bool.false_and] at hon;exact main false hs hon h
    | _=>rw [hT] at h; cases h
end
end Go.Ab

namespace Go.Ab
section
variable {cfg:mQ} {cx:Ctx} {N:Nat}
theorem dL.ext {m:Nat} {s s':St} {a:Act} {w:World} {I:Nat→Prop} {O:OM} (hS:dL cfg N m cx s a w I O) (h1:tget s'.tmps=tget s.tmps) (h2:hget s'.heap=hget s.heap) (h3:s'.nx=s.nx):dL cfg N m cx s' a w I O:=by
 obtain ⟨hm,hR,hT,hMk⟩:=hS;exact ⟨hm,by rw [h2,h3]; exact hR,by rw [h1,h3]; exact hT,hMk⟩
theorem dL.plain {m:Nat} {s s':St} {a:Act} {w:World} {I:Nat→Prop} {O:OM} (hS:dL cfg N m cx s a w I O) (h1:tget s'.tmps=tget s.tmps) (h3:s'.nx=s.nx) (f:Nat)
  (h2:∀o,(hget s'.heap o=none↔hget s.heap o=none)∧∀y,hget s'.heap o=some y→∃x,hget s.heap o=some x∧(y=x∨y=nO f x)):dL cfg N m cx s' a w I O:=by
 obtain ⟨hm,hR,hT,hMk⟩:=hS;refine ⟨hm,?_,by rw [h1,h3]; exact hT,hMk⟩;rw [h3];exact { hR with
   dom:=fun o=>by rw [hR.dom o]; exact (h2 o).1.symm
   objs:=fun o ob p q1 q2=>by
    obtain ⟨x,q3,q4⟩:=(h2 o).2 ob q1
    have:=hR.objs o x p q3 q2
    rcases q4 with rfl | rfl
    ·exact this
    ·exact ab4 f this
   maps:=fun o kd z h p b bo sz q1 q2 q3=>by
    obtain ⟨x,q4,q5⟩:=(h2 o).2 _ q1
    have hx:x=.map kd z h:=by
     rcases q5 with q5 | q5
     ·exact q5.symm
     ·cases x<;>simp only [nO] at q5<;>cases q5<;>rfl
    subst hx
    exact hR.maps o kd z h p b bo sz q4 q2 q3 }
end
noncomputable def Wz {β:Type} (H:kR aW):List Nat→(kR aW→β)→β
 | [],K=>K H
 | o::l,K=>Wz H l fun H'=>match H'.get o with
  | some (.row es n g)=>match Nat.blt o 1099511627776 with
   | true=>Zm (cV Qg) n g [] fun r=>K (H'.set (some (.row es n (qw r))) 41 o)
   | false=>K H'
  | _=>K H'
noncomputable def EH (H:kR aW):List Nat→kR aW
 | []=>H
 | o::l=>match (EH H l).get o with
  | some (.row es n g)=>match Nat.blt o 1099511627776 with
   | true=>(EH H l).set (some (.row es n (qw (Pp (nV Qg) n g [])))) 41 o
   | false=>EH H l
  | _=>EH H l
theorem ZF {β:Type} (H:kR aW):∀(l:List Nat) (K:kR aW→β),Wz H l K=K (EH H l):=by
 intro l;induction l with
 | nil=>intro K; rfl
 | cons o l ih=>
  intro K;unfold Wz EH;rw [ih];split
  ·split
   ·rw [Wq (acO Qg)]
   ·rfl
  ·rfl
theorem Vw (H:kR aW) (o j:Nat) (es n:Nat) (g:Nat→AV) (h:H.get o=some (.row es n g)) (hlt:Nat.blt o 1099511627776=true):(H.set (some (.row es n (qw (Pp (nV Qg) n g [])))) 41 o).get j=if j=o then some (nO Qg (.row es n g)) else H.get j:=by
 have hlt:o<2 ^ 40:=by rw [Wy]; simpa using hlt
 rw [kR.Jt _ 40 _ o j hlt];rfl
section
variable {x:KX} {cx:Ctx} {N:Nat}
theorem Ro {m:Nat} {T:kR AV} {nx:Nat} {a:Act} {w:World} {I:Nat→Prop} {O:OM}:∀(l:List Nat) (H:kR aW),dL x.cfg N m cx (SX.st ⟨T,H,nx⟩) a w I O→dL x.cfg N m cx (SX.st ⟨T,EH H l,nx⟩) a w I O:=by
 intro l;induction l with
 | nil=>intro H h; exact h
 | cons o l ih=>
  intro H h;have h1:=ih H h;unfold EH;split
  ·rename_i es n g hg;split
   ·rename_i hlt;refine h1.plain (s':=SX.st ⟨T,_,nx⟩) (by rw [lI,lI]) rfl Qg fun j=>?_;rw [nX,nX];simp only;rw [Vw _ o j es n g hg hlt];by_cases e:j=o
    ·subst e;rw [if_pos rfl,hg];exact ⟨⟨fun h=>by (cases h),fun h=>by (cases h)⟩,fun y hy=>⟨_,rfl,.inr (by cases hy; rfl)⟩⟩
    ·rw [if_neg e];exact ⟨Iff.rfl,fun y hy=>⟨y,hy,.inl rfl⟩⟩
   ·exact h1
  ·exact h1
end
def ZG:List Log→List Nat→List Nat
 | [],acc=>acc
 | g::l,acc=>ZG l (g.Rx++acc)
noncomputable def Oh (H:kR aW):List Nat→List Nat→List Nat
 | [],acc=>acc
 | o::l,acc=>match H.get o with
  | some (.row ..)=>Oh H l (o::acc)
  | _=>Oh H l acc
noncomputable def Vx:List (Nat×AV)→kR AV→kR AV
 | [],T=>T
 | (d,v)::l,T=>(Vx l T).set (some v) 41 d
noncomputable def Rp:gI→kR aW→kR aW
 | [],H=>H
 | (o,x)::l,H=>(Rp l H).set x 41 o
def ltT {α:Type}:List (Nat×α)→Bool
 | []=>true
 | (o,_)::l=>match Nat.blt o 1099511627776 with
  | true=>ltT l
  | false=>false
noncomputable def aa6 (s:St):SX:=⟨Vx s.tmps .leaf,Rp s.heap .leaf,s.nx⟩
theorem Vy:∀(l:List (Nat×AV)),ltT l=true→tgX (Vx l .leaf)=tget l:=by
 intro l;induction l with
 | nil=>intro _; rfl
 | cons p l ih=>
  intro h;obtain ⟨d,v⟩:=p;unfold ltT at h;split at h
  ·rename_i hlt;have hlt:d<2 ^ 40:=by rw [Wy]; simpa using hlt
   rw [jB,← ih h];exact sZ (some d) v _ (fun d' e=>by cases e; exact hlt)
  ·cases h
theorem Vz:∀(l:gI),ltT l=true→(Rp l .leaf).get=hget l:=by
 intro l;induction l with
 | nil=>intro _; rfl
 | cons p l ih=>
  intro h;obtain ⟨o,y⟩:=p;unfold ltT at h;split at h
  ·rename_i hlt;have hlt:o<2 ^ 40:=by rw [Wy]; simpa using hlt
   funext j;show ((Rp l .leaf).set y 41 o).get j=_;rw [kR.Jt _ 40 _ o j hlt,ih h];unfold hget;simp only [look];cases hb:Nat.beq o j with
   | true=>
    have:=Nat.eq_of_beq_eq_true hb;subst this;rw [if_pos rfl];cases y<;>rfl
   | false=>
    have:j≠o:=fun e=>by subst e; simp at hb
    rw [if_neg this]
  ·cases h
theorem aa7 (s:St) (h1:ltT s.tmps=true) (h2:ltT s.heap=true):tget (aa6 s).st.tmps=tget s.tmps∧hget (aa6 s).st.heap=hget s.heap∧(aa6 s).st.nx=s.nx:=by
 refine ⟨?_,?_,rfl⟩
 ·rw [lI]; exact Vy _ h1
 ·rw [nX]; exact Vz _ h2
noncomputable def acZ {β:Type} (l:List Nat) (s:SX) (bad:β) (K:SX→β):β:=match KZ l s.st with
 | s'=>match ltT s'.tmps,ltT s'.heap with
  | true,true=>K (aa6 s')
  | _,_=>bad
section
variable (x:KX) (call:wQ)
noncomputable def aa8 {β:Type} (ops:Array Oper) (draw:Bool) (s:SX) (bad:List Nat→β) (K:SX→List Nat→β):β:=
 match Gu x call ops.toList s.nx ops.toList 0 s.tmps s.tmps s.heap [] [] [] with
 | .ok (s',log,dd)=>match (match draw with
  | true=>chk ops.toList log ops.toList.length
  | false=>true) with
  | true=>match Nat.beq (Nat.mod s'.nx 64) 0 with
   | true=>Wz s'.heap (ZG log []) fun H=>fN s'.nx fun n=>K ⟨s'.tmps,H,n⟩ dd
   | false=>fN s'.nx fun n=>K ⟨s'.tmps,s'.heap,n⟩ dd
  | false=>bad [5]
 | .err l=>bad l
noncomputable def ace {β:Type} (ops:Array Oper) (draw:Bool) (s:SX) (bad:List Nat→β) (K:SX→β):β:=
 aa8 x call ops draw s bad fun s' dd=>match Oh s.heap dd [] with
  | []=>K s'
  | o::l=>acZ (o::l) s (K s') fun s1=>aa8 x call ops draw s1 (fun _=>K s') fun s'' _=>K s''
end
section
variable {P:Program} {x:KX} {cx:Ctx} {N:Nat} {call:wQ}
theorem Qk (hc:dK P x.cfg) (hcall:∀f a o r o',call f a o=.ok (r,o')→Spec P x.cfg f a o r o') {r:Option Nat} {m id:Nat} {ops:Array Oper} {draw:Bool} {s0 s:SX} {log':List Log} {dd:List Nat} (hN:N<2 ^ 40)
  (hx:Gu x call ops.toList s0.nx ops.toList 0 s0.tmps s0.tmps s0.heap [] [] []=.ok (s,log',dd)) (hchk:draw=true→chk ops.toList log' ops.toList.length=true) (hok:MC N ops.toList draw=true):
  Good P x.cfg N r m (.region id ops draw) s0.st (fun e s'=>e=.normal∧s'=s.st):=by
 intro n0 cx a w I O hS hrd;obtain ⟨T,H,nx⟩:=s0;obtain ⟨ms,hnd,hrm,hds,hms⟩:=hS.marks;have hS1:=hS.rel.also (fun D hD=>(hms D hD).2);unfold MC at hok;simp only [Bool.and_eq_true,Bool.or_eq_true,Bool.not_eq_true'] at hok;obtain ⟨hok1,hok2⟩:=hok;obtain ⟨tr,q1,q2,q4,q5,q6,q7⟩:=TV hcall hN hok1 ops.toList 0 T T H [] [] [] (fun _=>true) s log' dd (fun j=>by simp) rfl (fun j d hj=>by omega) (fun t=>.inr ⟨rfl,rfl⟩) hx;let ent:Nat→TE:=fun k=>tr.getD k ⟨true,.undef,[],[]⟩
 have hent:∀j e,tr[j]? = some e→ent (0+j)=e:=fun j e he=>by show tr.getD (0+j) _=e; simp [he]
 have htr:ZN x.cfg (Spec P x.cfg) ops.toList nx (tgX T) H.get ent:=fun k o hk=>ZN.VX ops.toList 0 tr (fun j=>by simp) hent q1 k o (Nat.zero_le _) hk;obtain ⟨e1,e2,e3⟩:=VZ (all:=ops.toList) (T0:=tgX T) (H0:=H.get) ops.toList 0 tr (fun j=>by simp) hent q2;simp only [Nat.zero_add,Array.length_toList] at e1 e2 e3 q4;have hT0:=hS.tmps;rw [lI] at hT0;rw [nX] at hS1;have hfin:∀a' w' I' O',Rel x.cfg (cx.also ms) (FV ent yes ops.size H.get) (fun o=>o<nx+stride*ops.size) w' I' O'→o9 N a.defers (yF ops.toList ent yes ops.size (tgX T)) (Db ops.toList ent yes ops.size) a' w' I' O' (fun o=>o<nx+stride*ops.size)→
   ∃s' I' O',(Exit.normal=.normal∧s'=s.st)∧dL x.cfg N m cx s' a' w' I' O':=by
  intro a' w' I' O' hR1' hT'
  obtain ⟨hR',hms'⟩:=hR1'.QK
  have hda:a'.defers=a.defers:=hT'.defers
  refine ⟨s.st,I',O',⟨rfl,rfl⟩,hS.m,?_,?_,⟨ms,hnd,hrm,hda.trans hds,fun D hD=>⟨(hms D hD).1,hms' D hD⟩⟩⟩
  ·rw [nX,q5,show s.st.nx=s.nx from rfl,q4]
   show Rel x.cfg cx (OB tr (FV ent yes 0 H.get)) _ w' I' O'
   rw [e3]
   exact hR'
  ·rw [lI,show s.st.nx=s.nx from rfl,q4]
   refine ⟨rfl,hT'.size,fun t _=>?_,fun t h=>by cases h⟩
   rcases q6 t with e | ⟨e4,e5⟩
   ·rw [e]; exact .pure (.undef _)
   ·have e4':OA ops.toList tr (Db ops.toList ent yes 0) t=true:=e4
    have e5':tgX s.tmps t=Oz ops.toList tr (yF ops.toList ent yes 0 (tgX T)) t:=e5
    rw [e2] at e4'
    rw [e1] at e5'
    rw [e5']
    exact hT'.rep t e4'
 cases draw with
 | false=>
  exact KT hc htr hok1 hS1 hT0 fun a' w' I' O' hR' hT'=>hfin a' w' I' O' hR' hT'
 | true=>
  have hchk:=hchk rfl;have hdr:Gw ops.toList ops.toList 0=true:=by simpa using hok2
  obtain ⟨gs,g1,g2,g3⟩:=M0 tr log' [] q7;rw [List.append_nil] at g2;have hlen:gs.length=ops.toList.length:=by rw [g1,q2]
  rw [g2,← hlen] at hchk;have hspec:=R7 gs hchk;have hdyn:Yz ops ent:=by
   intro i j hij hj;have hjg:j<gs.length:=by rw [hlen]; simpa using hj
   have hig:i<gs.length:=by omega
   have htj:tr[j]? = some (ent j):=by
    have hlt:j<tr.length:=by omega
    show tr[j]? = some (tr.getD j _);simp [hlt]
   have hti:tr[i]? = some (ent i):=by
    have hlt:i<tr.length:=by omega
    show tr[i]? = some (tr.getD i _);simp [hlt]
   obtain ⟨a1,a2⟩:=g3 j _ _ htj (List.getElem?_eq_getElem hjg);obtain ⟨b1,b2⟩:=g3 i _ _ hti (List.getElem?_eq_getElem hig);rcases hspec j _ (List.getElem?_eq_getElem hjg) i _ hij (List.getElem?_eq_getElem hig) with ⟨c1,c2,c3⟩ | hb
   ·refine .inr ⟨fun b hw hex hm=>oH c2 b (b2 b hw) (a1 hex b hm),fun b hw hex hm=>oH c1 b (a2 b hw) (b1 hex b hm),fun b hw=>?_⟩;cases hwj:WY ent j b with
    | false=>rfl
    | true=>exact absurd (a2 b hwj) (oH c3 b (b2 b hw))
   ·exact .inl hb
  exact KV hc htr hok1 hdr hdyn hS1 hT0 fun a' w' I' O' hR' hT'=>hfin a' w' I' O' hR' hT'
theorem regY_ok (hc:dK P x.cfg) (hcall:∀f a o r o',call f a o=.ok (r,o')→Spec P x.cfg f a o r o') {rr:Option Nat} {m id:Nat} {ops:Array Oper} {draw:Bool} {s:SX} {β:Type} {bad:List Nat→β} {K:SX→List Nat→β} {z:β} (hN:N<2 ^ 40)
  (hok:MC N ops.toList draw=true) (h:aa8 x call ops draw s bad K=z):(∃l,bad l=z)∨∃s1 dd,K s1 dd=z∧Good P x.cfg N rr m (.region id ops draw) s.st (fun e s'=>e=.normal∧s'=s1.st):=by
 unfold aa8 at h;split at h
 ·rename_i s' log dd hx;split at h
  ·rename_i hd;split at h
   ·rw [ZF,Gs] at h;refine .inr ⟨_,dd,h,fun n0 cx a w I O hS hrd=>?_⟩;refine wpIn_mono (Qk hc hcall hN hx (fun e=>by subst e; exact hd) hok n0 cx a w I O hS hrd) ?_;rintro e a' w' ⟨s2,I',O',⟨rfl,rfl⟩,hS'⟩;exact ⟨_,I',O',⟨rfl,rfl⟩,Ro _ _ hS'⟩
   ·rw [Gs] at h;exact .inr ⟨_,dd,h,Qk hc hcall hN hx (fun e=>by subst e; exact hd) hok⟩
  ·exact .inl ⟨_,h⟩
 ·exact .inl ⟨_,h⟩
theorem aa9 (hc:dK P x.cfg) (hcall:∀f a o r o',call f a o=.ok (r,o')→Spec P x.cfg f a o r o') {rr:Option Nat} {m id:Nat} {ops:Array Oper} {draw:Bool} {s:SX} {α:Type} {bad:List Nat→Rz α} {K:SX→Rz α} {z:α} (hN:N<2 ^ 40) (hb:∀l,∃l',bad l=.err l')
  (hok:MC N ops.toList draw=true) (h:ace x call ops draw s bad K=.ok z):∃s',K s'=.ok z∧Good P x.cfg N rr m (.region id ops draw) s.st (fun e s1=>e=.normal∧s1=s'.st):=by
 unfold ace at h;rcases regY_ok (rr:=rr) (m:=m) (id:=id) hc hcall hN hok h with ⟨l,h1⟩ | ⟨s1,dd,h1,hg1⟩
 ·obtain ⟨l',h2⟩:=hb l;rw [h2] at h1;cases h1
 ·split at h1
  ·exact ⟨_,h1,hg1⟩
  ·rename_i o l _;unfold acZ at h1;simp only at h1;split at h1
   ·rename_i ht hh;rcases regY_ok (rr:=rr) (m:=m) (id:=id) hc hcall hN hok h1 with ⟨l',h2⟩ | ⟨s2,dd2,h2,hg2⟩
    ·exact ⟨_,h2,hg1⟩
    ·refine ⟨_,h2,fun n0 cx a w I O hS hrd=>?_⟩;obtain ⟨I',O',hS'⟩:=Dg (o::l) hS;obtain ⟨q1,q2,q3⟩:=aa7 _ ht hh;exact hg2 n0 cx a w I' O' (hS'.ext q1 q2 q3) hrd
   ·exact ⟨_,h1,hg1⟩
end
end Go.Ab

namespace Go.Ab
section
variable {P:Program} {cfg:mQ} {N:Nat} {cx:Ctx}
theorem VA {m:Nat} {g:Operand} {p0 p1:Nat} {assign body:Code} {s:St} {K:Exit→St→Prop} (hp0:p0<N) (hp1:p1<N)
  {gf:FuncId} {caps:List AV} {len:Nat} {e0 e1:Nat→AV} (hit:sj P gf caps len e0 e1) (hg:Hz cfg (tget s.tmps) g=.fn gf caps) (hcaps:∀v∈caps,∃cs,v=.ro cs)
  {α:Type} (st:α→St) (st1:Nat→α→St) (x0:α) (h0:s=st x0) (inv:Nat→α→Prop) (hi0:inv 0 x0)
  (ha:∀k l gx,k<len→inv k gx→(vW (st gx).heap=true∧vW (st1 k gx).heap=true)∧m≤(st gx).nx∧(st gx).nx≤(st1 k gx).nx∧Good P cfg N (some l) (st gx).nx assign ⟨(p1,e1 k)::(p0,e0 k)::(st gx).tmps,(st gx).heap,(st gx).nx⟩ (fun e s'=>e=.normal∧s'=st1 k gx))
  (hb:∀k l gx,k<len→inv k gx→Good P cfg N (some l) (st1 k gx).nx body (st1 k gx) (fun e s'=>match e with | .normal=>∃x',inv (k+1) x'∧tget (st x').tmps=tget (st gx).tmps∧hget (st x').heap=hget s'.heap∧(st x').nx=s'.nx | .ret=>K .ret ⟨(st gx).tmps,s'.heap,s'.nx⟩ | _=>False))
  (hK:∀gx,inv len gx→K .normal (st gx)):Good P cfg N none m (.rangeFunc g #[p0,p1] assign body) s K:=by
 intro n cx0 a w I O hS0 hrd;refine K4 (n:=3) ?_;obtain ⟨ms,hnd,_,hds,hms⟩:=hS0.marks;obtain ⟨cx,hcx⟩:∃cx,cx=cx0.also ms:=⟨_,rfl⟩;have hcw:cx.w0=cx0.w0:=by rw [hcx]; rfl
 have hcm:cx.m=cx0.m:=by rw [hcx]; rfl
 have hR0:Rel cfg cx (hget s.heap) (fun o=>o<s.nx) w I O:=by rw [hcx]; exact hS0.rel.also (fun D hD=>(hms D hD).2)
 obtain ⟨lb,hgv,hlb,hlr⟩:=(hg ▸ lS hS0.rel hS0.tmps g (fun _ _=>rfl)).Ag;have hcp:∀j,j<caps.length→PRep w I (nth caps j) (lb.getD j Go.undef):=fun j hj=>by
  have hmem:nth caps j∈caps:=by rw [lK]; rw [List.getD_eq_getElem?_getD,List.getElem?_eq_getElem hj]; exact List.getElem_mem _
  obtain ⟨cs,hcs⟩:=hcaps _ hmem;have:=hlr j hj;rw [hcs] at this ⊢;cases this with
  | pure h=>exact h
 obtain ⟨v0,v1,hel,hrun⟩:=hit.2 w I lb hR0.qh hlb hcp;refine wpIn_rangeFunc ?_;intro fn hfn;obtain ⟨rc,hrc⟩:∃rc:LoopState→Option Code→Loop,rc=fun st pe=>{ state:=st,pending:=pe,fn,tmps:=a.tmps,params:=#[p0,p1],assign,body,defers:=w.heap.size }:=⟨_,rfl⟩;obtain ⟨W1,hW1⟩:∃W1,W1=(w.alloc (.deferred (some []))).alloc (.loop (rc .ready none)):=⟨_,rfl⟩;have hsz1:W1.heap.size=w.heap.size+2:=by rw [hW1]; simp
 have hD1:W1.heap[w.heap.size]? = some (.deferred (some [])):=by
  rw [hW1];show ((w.heap.push _).push _)[w.heap.size]? = _;have hp:(w.heap.push (Obj.deferred (some []))).size=w.heap.size+1:=Array.size_push _;rw [Array.getElem?_push,if_neg (by omega),Array.getElem?_push_size]
 have hL1:W1.heap[w.heap.size+1]? = some (.loop (rc .ready none)):=by
  have:=World.alloc_heap_new (w.alloc (.deferred (some []))) (.loop (rc .ready none));rw [World.size_alloc] at this;rw [hW1];exact this
 have hold1:∀b,b<w.heap.size→W1.heap[b]? = w.heap[b]? := fun b hb=>by
  rw [hW1];show ((w.heap.push _).push _)[b]? = _;rw [Array.getElem?_push_lt (by simp; omega),Array.getElem_push_lt hb,Array.getElem?_eq_getElem hb]
 have hcells1:jV W1 w:=by
  rw [hW1];have q1:=nN w (.deferred (some []));have q2:=nN (w.alloc (.deferred (some []))) (.loop (rc .ready none));exact ⟨fun x v h=>q2.cell x v (q1.cell x v h),fun x h=>by
   rw [q2.frozen x (by obtain ⟨v,hv⟩:=Option.isSome_iff_exists.1 h; rw [q1.cell x v hv]; rfl),q1.frozen x h],Nat.le_trans q1.size q2.size,fun b es c h=>q2.maps b es c (q1.maps b es c h)⟩
 have henv1:uo cx W1:=by
  rw [hW1];exact (hR0.env.step (dN.alloc _ _)).step (dN.alloc _ _)
 have hKlt:∀k o,cx.K k o→k<w.heap.size:=fun k o h=>by
  have:=(hR0.env.kept k o h).1;rcases Nat.lt_or_ge k w.heap.size with h1 | h1
  ·exact h1
  ·rw [Array.getElem?_eq_none h1] at this; cases this
 have hw0:cx.w0.heap.size≤w.heap.size:=hR0.size;have envput:∀(W:World) (k:Nat) (o:Obj),w.heap.size≤k→uo cx W→uo cx (W.putObj k o):=fun W k o hk he=>by
  refine ⟨⟨he.same.os,he.same.tape,he.same.output,fun i x hi hx=>?_⟩,fun i x hi=>?_⟩
  ·have hlt:i<cx.w0.heap.size:=by
    rcases Nat.lt_or_ge i cx.w0.heap.size with h1 | h1
    ·exact h1
    ·rw [Array.getElem?_eq_none h1] at hi; cases hi
   rw [World.putObj_heap_other (by omega)];exact he.same.keep i x hi hx
  ·rw [World.putObj_heap_other (by have:=hKlt i x hi; omega)];exact he.kept i x hi
 have nomarks:∀(W:World),Marks cx W ([]:List Deferred):=fun W=>⟨[],List.nodup_nil,fun _=>rfl,rfl,fun _ h=>by cases h⟩
 have hS1:dL cfg N m cx s ⟨a.tmps,[]⟩ w I O:=⟨hcm.trans hS0.m,hR0,⟨rfl,hS0.tmps.size,hS0.tmps.rep,hS0.tmps.gone⟩,nomarks w⟩;have hS2:dL cfg N m cx (st x0) ⟨a.tmps,[]⟩ w I O:=h0 ▸ hS1;have turnput:∀ {s':St} {W:World} {I':Nat→Prop} {O':OM} {o:Obj} (o':Obj),W.heap[w.heap.size+1]? = some o→wZ o=true∧(∀es c,o≠.map es c)→dL cfg N m cx s' ⟨a.tmps,[]⟩ W I' O'→dL cfg N m cx s' ⟨a.tmps,[]⟩ (W.putObj (w.heap.size+1) o') I' O':=fun o' ho hn hS=>
  hS.turn (ny ho hn.1 hn.2) (fun b hb=>World.putObj_heap_other (by omega)) (envput _ _ _ (by omega) hS.rel.env) rfl (nomarks _)
 refine ⟨w.heap.size+1,[markOf w.heap.size],W1,{ target:=.fn (.func gf) lb,args:=#[.func (.yield (w.heap.size+1)) #[] #[]] },W1,gf,#[.func (.yield (w.heap.size+1)) #[] #[]]++lb,W1,?_,?_,fun _ _=>trivial,?_,(fun h=>by cases h),?_⟩
 ·rw [hW1,hrc]; exact run_enterLoop_outer _ _ _ _ _
 ·simp only [resolve,hgv];simp [go_sem]
 ·simp [invoke,go_sem,hit.1]
 refine (hrun (w.heap.size+1) (3 - 1)
  (fun k W=>∃gx,inv k gx∧∃I1 O1,dL cfg N m cx (st gx) ⟨a.tmps,[]⟩ W I1 O1∧(∀b,I b→I1 b)∧(∀b,I b→W.heap[b]? = w.heap[b]?)∧W.heap[w.heap.size+1]? = some (.loop (rc .ready none))∧W.heap[w.heap.size]? = some (.deferred (some [])))
  (fun W=>∃s' I1 O1,K .ret s'∧dL cfg N m cx s' ⟨a.tmps,[]⟩ W I1 O1∧W.heap[w.heap.size+1]? = some (.loop (rc .done (some .ret)))∧W.heap[w.heap.size]? = some (.deferred (some [])))
  W1 (fun b hb=>hold1 b (hR0.qh b hb)) ?_ ?_).mono ?_
 ·rintro k W hk ⟨gx,hiv,I1,O1,hS,hII,hkeep,hl,hD⟩;have hlW:w.heap.size+1<W.heap.size:=(Array.getElem?_eq_some_iff.1 hl).1;have hy:=run_yield (P:=P) (args:=#[v0 k,v1 k]) hl (by rw [hrc]; rfl);rw [hrc] at hy;refine ⟨fn,_,assign,body,hy,roundIn_of_wpIn hfn ?_⟩;clear hy;obtain ⟨hnm,hnx,hnx1,hxa⟩:=ha k (w.heap.size+1) gx hk hiv;have hmx:∀o,o<cx.m→o<(st gx).nx:=fun o ho=>Nat.lt_of_lt_of_le (by rw [hS.m] at ho; exact ho) hnx;have hRr:=hS.rel.enter (xq hnm.1) (m:=(st gx).nx) (fun _ h=>h);have hwI:∀b,I b→W.heap[b]? = w.heap[b]? := hkeep;obtain ⟨he0,he1⟩:=hel k hk;have hpe:∀ {v:AV} {x:Value},PRep w I v x→Rep W I1 O1 (fun o=>o<(st gx).nx) v x:=fun h=>.pure (h.mono hII hwI);have hT1:=o9.put hS.tmps (fun _ _ h=>h) (some p0) (fun _ h=>by cases h; exact hp0) (e0 k) (v0 k) true (fun _=>hpe he0) (fun h=>by cases h);have hT2:=o9.put hT1 (fun _ _ h=>h) (some p1) (fun _ h=>by cases h; exact hp1) (e1 k) (v1 k) true (fun _=>hpe he1) (fun h=>by cases h);rw [vK,vK,← jB,← jB] at hT2;have hSa:dL cfg N (st gx).nx (xk W I1 O1 (st gx).nx) ⟨(p1,e1 k)::(p0,e0 k)::(st gx).tmps,(st gx).heap,(st gx).nx⟩ { tmps:=(a.tmps.setIfInBounds p0 (v0 k)).setIfInBounds p1 (v1 k),defers:=[] } W I1 O1:=
   ⟨rfl,hRr,hT2,⟨[],List.nodup_nil,fun _=>rfl,rfl,fun _ h=>by cases h⟩⟩
  have hga:=hxa (3 - 1) _ _ W I1 O1 hSa rfl;have htm:((#[p0,p1]:Array Tmp).zip #[v0 k,v1 k]).foldl (fun tmps (t,a)=>tmps.setIfInBounds t a) a.tmps=(a.tmps.setIfInBounds p0 (v0 k)).setIfInBounds p1 (v1 k):=by rw [acF]; rfl
  refine wpIn_mono (htm ▸ hga) ?_;rintro e a2 W2 ⟨s2,I2,O2,⟨rfl,rfl⟩,hSc⟩;have hone:True:=trivial;cases hone with
  | intro=>
   have hRc:=hS.rel.back hSc.rel hmx;have hl2:=(hSc.rel.env.kept _ _ ⟨hl,rfl⟩).1;have hD2:=(hSc.rel.env.kept _ _ ⟨hD,rfl⟩).1;have hkI2:=fun b hb=>hS.rel.Na hSc.rel b (hII b hb);refine ⟨_,run_beginRound hl2 (by rw [hrc]),?_⟩;have hlW2:w.heap.size+1<W2.heap.size:=(Array.getElem?_eq_some_iff.1 hl2).1;obtain ⟨W3,hW3⟩:∃W3,W3=W2.putObj (w.heap.size+1) (.loop { rc .ready none with state:=.busy }):=⟨_,rfl⟩;rw [← hW3];have hl3:W3.heap[w.heap.size+1]? = some (.loop { rc .ready none with state:=.busy }):=by rw [hW3]; exact World.putObj_heap_same hlW2
   have hD3:W3.heap[w.heap.size]? = some (.deferred (some [])):=by rw [hW3]; exact (World.putObj_heap_other (by omega)).trans hD2
   have hsc3:jV W3 W2:=by rw [hW3]; exact ny hl2 rfl
   have hR3:Rel cfg cx (hget (st1 k gx).heap) (fun o=>o<(st1 k gx).nx) W3 I2 O2:=hRc.turn hsc3 (fun b hb=>by rw [hW3]; exact World.putObj_heap_other (by omega)) (by rw [hW3]; exact envput _ _ _ (by omega) hRc.env);have hT0:∀t,Rep W3 I2 O2 (fun o=>o<(st1 k gx).nx) (tget (st gx).tmps t) (a.tmps.getD t Go.undef):=fun t=>(Rep.behind hS.rel hSc.rel (hS.tmps.rep t rfl)).turn hsc3;have hRd:=hR3.enter (xq hnm.2) (m:=(st1 k gx).nx) (fun _ ho=>ho);have hSd:dL cfg N (st1 k gx).nx (xk W3 I2 O2 (st1 k gx).nx) (st1 k gx) a2 W3 I2 O2:=by
    refine ⟨rfl,hRd,⟨rfl,hSc.tmps.size,fun t ht=>(hSc.tmps.rep t ht).turn hsc3,fun t ht=>by cases ht⟩,?_⟩;have:a2.defers=[]:=by
     obtain ⟨ms2,_,h1,h2,_⟩:=hSc.marks;rw [h1 rfl] at h2;exact h2
    rw [this];exact ⟨[],List.nodup_nil,fun _=>rfl,rfl,fun _ h=>by cases h⟩
   have hgb:=hb k (w.heap.size+1) gx hk hiv (3 - 1) _ _ W3 I2 _ hSd rfl;refine wpIn_mono hgb ?_;rintro e a4 W4 ⟨s4,I4,O4,hk4,hSe⟩;have hRe:=hR3.back hSe.rel (fun o ho=>Nat.lt_of_lt_of_le (hmx o ho) hnx1);have hl4:=(hSe.rel.env.kept _ _ ⟨hl3,rfl⟩).1;have hD4:=(hSe.rel.env.kept _ _ ⟨hD3,rfl⟩).1;have hlW4:w.heap.size+1<W4.heap.size:=(Array.getElem?_eq_some_iff.1 hl4).1;have hI34:∀b,I b→I2 b:=fun b hb=>hSc.rel.FQ b (hII b hb);have hkI4:∀b,I b→W4.heap[b]? = W.heap[b]? := fun b hb=>by
    have hbl:=hR0.qh b hb;rw [hR3.Na hSe.rel b (hI34 b hb),hW3,World.putObj_heap_other (by omega)];exact hkI2 b hb
   have hT4:dL cfg N m cx ⟨(st gx).tmps,s4.heap,s4.nx⟩ ⟨a.tmps,[]⟩ W4 I4 O4:=
    ⟨hS.m,hRe,⟨rfl,hS.tmps.size,fun t _=>Rep.behind hR3 hSe.rel (hT0 t),fun t ht=>by cases ht⟩,nomarks _⟩
   cases e with
   | normal=>
    obtain ⟨x4,hiv4,hE4,hE5,hE6⟩:=hk4;have hSf:=hT4.ext hE4 hE5 hE6;refine ⟨_,_,run_endRound none hl4,.inl ⟨rfl,⟨x4,hiv4,I4,_,turnput _ hl4 ⟨rfl,nofun⟩ hSf,fun b hb=>hSe.rel.FQ b (hI34 b hb),fun b hb=>?_,?_,?_⟩,fun b hb=>?_⟩⟩
    ·have hbl:=hR0.qh b hb;rw [World.putObj_heap_other (by omega),hkI4 b hb];exact hkeep b hb
    ·rw [World.putObj_heap_same hlW4,hrc]; rfl
    ·rw [World.putObj_heap_other (by omega)]; exact hD4
    ·have hbl:=hR0.qh b hb;rw [World.putObj_heap_other (by omega)];exact hkI4 b hb
   | ret=>
    refine ⟨_,_,run_endRound (some .ret) hl4,.inr ⟨rfl,_,I4,O4,hk4,turnput _ hl4 ⟨rfl,nofun⟩ hT4,?_,?_⟩⟩
    ·rw [World.putObj_heap_same hlW4,hrc]; rfl
    ·rw [World.putObj_heap_other (by omega)]; exact hD4
   | exit id=>exact hk4.elim
   | goto t=>exact hk4.elim
   | panic ch=>exact hk4.elim
   | outgrown=>exact hk4.elim
 ·exact ⟨x0,hi0,I,_,hS2.turn hcells1 (fun b hb=>hold1 b (by omega)) henv1 rfl (nomarks _),fun _ h=>h,fun b hb=>hold1 b (hR0.qh b hb),hL1,hD1⟩
 ·have fin:∀ {s':St} {W:World} {I':Nat→Prop} {O':OM} {o:Obj} (o':Obj),W.heap[w.heap.size+1]? = some o→wZ o=true∧(∀es c,o≠.map es c)→W.heap[w.heap.size]? = some (.deferred (some []))→dL cfg N m cx s' ⟨a.tmps,[]⟩ W I' O'→
    dL cfg N m cx0 s' { a with defers:=markOf w.heap.size::a.defers } (W.putObj (w.heap.size+1) o') I' O':=by
   intro s' W I' O' o o' ho hn hD hS
   have hS':=turnput o' ho hn hS
   have hRx:=hS'.rel
   rw [hcx] at hRx
   obtain ⟨hRy,hmy⟩:=hRx.QK
   refine ⟨hS0.m,hRy,⟨rfl,hS'.tmps.size,hS'.tmps.rep,hS'.tmps.gone⟩,⟨w.heap.size::ms,?_,(fun h=>by rw [hrd] at h; cases h),?_,fun D hDm=>?_⟩⟩
   ·refine List.nodup_cons.2 ⟨fun hin=>?_,hnd⟩
    have:=(hms _ hin).2
    rw [Array.getElem?_eq_none (Nat.le_refl _)] at this
    cases this
   ·show markOf w.heap.size::a.defers=_
    rw [hds]
    rfl
   ·rcases List.mem_cons.1 hDm with rfl | hDm
    ·exact ⟨by rw [← hcw]; exact hw0,(World.putObj_heap_other (by omega)).trans hD⟩
    ·exact ⟨(hms D hDm).1,hmy D hDm⟩
  rintro e W2 ⟨⟨v,rfl⟩,⟨gx,hiv,I2,O2,hS2',_,_,hl2,hD2⟩ | ⟨s2,I2,O2,hk2,hS2',hl2,hD2⟩⟩
  ·exact ⟨none,_,by have:=run_endLoop (P:=P) hl2 (by rw [hrc]; simp); rw [hrc] at this; exact this,st gx,I2,O2,hK gx hiv,fin _ hl2 ⟨rfl,nofun⟩ hD2 hS2'⟩
  ·exact ⟨some .ret,_,by have:=run_endLoop (P:=P) hl2 (by rw [hrc]; simp); rw [hrc] at this; exact this,wpIn_ret ⟨s2,I2,O2,hk2,fin _ hl2 ⟨rfl,nofun⟩ hD2 hS2'⟩⟩
end
end Go.Ab

namespace Go.Ab
abbrev TW:=FuncId→List AV→Option (Nat×(Nat→AV)×(Nat→AV))
noncomputable def XU (m:Nat) (ea eb:SX→Rz (Exit×SX)) (p0 p1 len:Nat) (e0 e1:Nat→AV):Nat→SX→Rz (Exit×SX)
 | 0,s=>.ok (.normal,s)
 | j+1,s=>match vW s.st.heap,Nat.ble m s.nx with
  | true,true=>match ea ⟨(s.tmps.set (some (e0 (len - (j+1)))) 41 p0).set (some (e1 (len - (j+1)))) 41 p1,s.heap,s.nx⟩ with
   | .ok (.normal,s1)=>match vW s1.st.heap,Nat.ble s.nx s1.nx with
    | true,true=>match eb s1 with
     | .ok (.normal,s2)=>XU m ea eb p0 p1 len e0 e1 j ⟨s.tmps,s2.heap,s2.nx⟩
     | .ok (.ret,s2)=>.ok (.ret,⟨s.tmps,s2.heap,s2.nx⟩)
     | .ok _=>.err [24]
     | .err l=>.err l
    | _,_=>.err [25]
   | .ok _=>.err [26]
   | .err l=>.err l
  | _,_=>.err [27]
section
variable (x:KX) (call:wQ)
noncomputable def XV (N:Nat) (it:TW) (m:Nat):Bool→Nat→Code→SX→Rz (Exit×SX)
 | _,0,_,_=>.err [6]
 | top,n+1,c,s=>match c with
  | .skip=>.ok (.normal,s)
  | .region id ops draw=>ace x call ops draw s (fun l=>.err (id::l)) fun s'=>.ok (.normal,s')
  | .seq a b=>match XV N it m top n a s with
   | .ok (.normal,s')=>XV N it m top n b s'
   | r=>r
  | .cond c a b=>match Hz x.cfg (tgX s.tmps) c with
   | .bool true=>XV N it m top n a s
   | .bool false=>XV N it m top n b s
   | _=>.err [7]
  | .block id a=>match XV N it m top n a s with
   | .ok (.exit i,s')=>match Nat.beq i id with
    | true=>.ok (.normal,s')
    | false=>.ok (.exit i,s')
   | r=>r
  | .loop a=>match XV N it m top n a s with
   | .ok (.normal,s')=>XV N it m top n (.loop a) s'
   | r=>r
  | .exit id=>.ok (.exit id,s)
  | .rangeFunc g ps a b=>match top,ps.toList,Hz x.cfg (tgX s.tmps) g with
   | true,[p0,p1],.fn gf caps=>match it gf caps with
    | some (len,e0,e1)=>match Nat.blt p0 N,Nat.blt p1 N with
     | true,true=>XU m (XV N it m false n a) (XV N it m false n b) p0 p1 len e0 e1 len s
     | _,_=>.err [28]
    | none=>.err [22,gf]
   | _,_,_=>.err [23]
  | .ret=>.ok (.ret,s)
  | _=>.err [8]
end
section
variable {P:Program} {x:KX} {cx:Ctx} {N:Nat} {call:wQ}
theorem VB {m:Nat} {g:Operand} {p0 p1:Nat} {a b:Code} {ea eb:SX→Rz (Exit×SX)} {gf:FuncId} {caps:List AV} {len:Nat} {e0 e1:Nat→AV} {s:SX} {e:Exit} {s':SX} (hp:p0<N∧p1<N) (hN:N<2 ^ 40) (hit:sj P gf caps len e0 e1) (hg:Hz x.cfg (tget s.st.tmps) g=.fn gf caps) (hcaps:∀v∈caps,∃cs,v=.ro cs)
  (ha:∀(l m:Nat) (s:SX) (e:Exit) (s':SX),ea s=.ok (e,s')→Good P x.cfg N (some l) s.nx a s.st (fun e1 s1=>e1=e∧s1=s'.st))
  (hb:∀(l m:Nat) (s:SX) (e:Exit) (s':SX),eb s=.ok (e,s')→Good P x.cfg N (some l) s.nx b s.st (fun e1 s1=>e1=e∧s1=s'.st))
  (h:XU m ea eb p0 p1 len e0 e1 len s=.ok (e,s')):Good P x.cfg N none m (.rangeFunc g #[p0,p1] a b) s.st (fun e1 s1=>e1=e∧tget s1.tmps=tget s'.st.tmps∧hget s1.heap=hget s'.st.heap∧s1.nx=s'.st.nx):=by
 have h40:∀p,p<N→p<2 ^ 40:=fun p h=>Nat.lt_trans h hN;refine VA (st:=SX.st) (st1:=fun k gx=>match ea ⟨(gx.tmps.set (some (e0 k)) 41 p0).set (some (e1 k)) 41 p1,gx.heap,gx.nx⟩ with | .ok (_,s1)=>s1.st | _=>gx.st) hp.1 hp.2 hit hg hcaps s rfl (fun k gx=>XU m ea eb p0 p1 len e0 e1 (len - k) gx=.ok (e,s')) (by rw [Nat.sub_zero]; exact h) ?_ ?_ ?_
 ·intro k l gx hk hv;obtain ⟨j,hj⟩:∃j,len - k=j+1:=⟨len - k - 1,by omega⟩;rw [hj] at hv;unfold XU at hv;rw [show len - (j+1)=k by omega] at hv;split at hv
  ·rename_i hn1 hm;split at hv
   ·rename_i s1 hx;split at hv
    ·rename_i hn2 hle;rw [hx];refine ⟨⟨hn1,hn2⟩,Nat.le_of_ble_eq_true hm,Nat.le_of_ble_eq_true hle,fun n0 cx aa w I O hS hrd=>?_⟩;refine ha l m _ _ _ hx n0 cx aa w I O (hS.ext ?_ ?_ rfl) hrd
     ·rw [lI];show tgX ((gx.tmps.set (some (e0 k)) 41 p0).set (some (e1 k)) 41 p1)=_;have q1:=sZ (some p0) (e0 k) gx.tmps (fun d h=>by cases h; exact h40 _ hp.1);have q2:=sZ (some p1) (e1 k) (gx.tmps.set (some (e0 k)) 41 p0) (fun d h=>by cases h; exact h40 _ hp.2);show tgX (Og (some p1) (e1 k) (gx.tmps.set (some (e0 k)) 41 p0))=_;rw [q2];show updO (tgX (Og (some p0) (e0 k) gx.tmps)) _ _=_;rw [q1,jB,jB,lI]
     ·rw [nX,nX]
    ·cases hv
   ·cases hv
   ·cases hv
  ·cases hv
 ·intro k l gx hk hv;obtain ⟨j,hj⟩:∃j,len - k=j+1:=⟨len - k - 1,by omega⟩;rw [hj] at hv;unfold XU at hv;rw [show len - (j+1)=k by omega] at hv;split at hv
  ·rename_i hn1 hm;split at hv
   ·rename_i s1 hx;split at hv
    ·rename_i hn2 hle;rw [hx];split at hv
     ·rename_i s2 hy;intro n0 cx aa w I O hS hrd;refine wpIn_mono (hb l m _ _ _ hy n0 cx aa w I O hS hrd) ?_;rintro e2 a2 w2 ⟨s3,I',O',⟨rfl,rfl⟩,hS'⟩;refine ⟨s2.st,I',O',⟨⟨gx.tmps,s2.heap,s2.nx⟩,?_,?_,?_,rfl⟩,hS'⟩
      ·rw [show len - (k+1)=j by omega]; exact hv
      ·rw [lI,lI]
      ·rw [nX,nX]
     ·rename_i s2 hy;intro n0 cx aa w I O hS hrd;refine wpIn_mono (hb l m _ _ _ hy n0 cx aa w I O hS hrd) ?_;rintro e2 a2 w2 ⟨s3,I',O',⟨rfl,rfl⟩,hS'⟩;cases hv;refine ⟨s2.st,I',O',⟨rfl,?_,?_,rfl⟩,hS'⟩
      ·rw [lI]; exact (lI ⟨gx.tmps,s2.heap,s2.nx⟩).symm
      ·rw [nX]; exact (nX ⟨gx.tmps,s2.heap,s2.nx⟩).symm
     ·cases hv
     ·cases hv
    ·cases hv
   ·cases hv
   ·cases hv
  ·cases hv
 ·intro gx hv;rw [Nat.sub_self] at hv;cases hv;exact ⟨rfl,rfl,rfl,rfl⟩
theorem XW (hc:dK P x.cfg) (hN:N<2 ^ 40) (hcall:∀f a o r o',call f a o=.ok (r,o')→Spec P x.cfg f a o r o') {it:TW} (hit:∀gf caps len e0 e1,it gf caps=some (len,e0,e1)→sj P gf caps len e0 e1∧∀v∈caps,∃cs,v=.ro cs) {m0:Nat}:∀(n:Nat) (top:Bool) (rr:Option Nat) (m:Nat) (c:Code) (s:SX) (e:Exit) (s':SX),(top=true→rr=none∧m=m0)→dY N c=true→XV x call N it m0 top n c s=.ok (e,s')→
  Good P x.cfg N rr m c s.st (fun e1 s1=>e1=e∧s1=s'.st)∧∀a,c=.loop a→∃M,K5 P x.cfg N rr m a (fun e1 s1=>e1=e∧s1=s'.st) M s.st:=by
 intro n;induction n with
 | zero=>intro top rr m c s e s' _ _ h; cases h
 | succ n ih=>
  intro top rr m c s e s' htop hok h;unfold XV at h;cases c with
  | skip=>cases h; exact ⟨fun n0 cx a w I O hS _=>wpIn_skip ⟨_,I,O,⟨rfl,rfl⟩,hS⟩,fun _ h=>by cases h⟩
  | exit id=>cases h; exact ⟨fun n0 cx a w I O hS _=>wpIn_exit ⟨_,I,O,⟨rfl,rfl⟩,hS⟩,fun _ h=>by cases h⟩
  | ret=>cases h; exact ⟨fun n0 cx a w I O hS _=>wpIn_ret ⟨_,I,O,⟨rfl,rfl⟩,hS⟩,fun _ h=>by cases h⟩
  | region id ops draw=>
   simp only at h;obtain ⟨s1,h1,h2⟩:=aa9 (rr:=rr) (m:=m) (id:=id) hc hcall hN (fun l=>⟨_,rfl⟩) hok h;cases h1;exact ⟨h2,fun _ h=>by cases h⟩
  | seq a b=>
   simp only [dY,Bool.and_eq_true] at hok;simp only at h;refine ⟨?_,fun _ h=>by cases h⟩;split at h
   ·rename_i s1 hx;refine pq (((ih top rr m a s .normal s1 htop hok.1 hx).1).mono fun e1 s2 hk=>?_);obtain ⟨rfl,rfl⟩:=hk;exact (ih top rr m b s1 e s' htop hok.2 h).1
   ·rename_i r hne;refine pq (((ih top rr m a s e s' htop hok.1 h).1).mono fun e1 s2 hk=>?_);obtain ⟨rfl,rfl⟩:=hk;cases e1 with
    | normal=>exact absurd h (hne _)
    | _=>exact ⟨rfl,rfl⟩
  | cond c a b=>
   simp only [dY,Bool.and_eq_true] at hok;simp only at h;refine ⟨?_,fun _ h=>by cases h⟩;rw [← lI] at h;split at h
   ·rename_i hb;exact EW hb (fun _=>(ih top rr m a s e s' htop hok.1 h).1) (fun h=>by cases h)
   ·rename_i hb;exact EW hb (fun h=>by cases h) (fun _=>(ih top rr m b s e s' htop hok.2 h).1)
   ·cases h
  | block id a=>
   simp only at h;refine ⟨?_,fun _ h=>by cases h⟩;have hok:dY N a=true:=hok;split at h
   ·rename_i i s1 hx;refine GD (((ih top rr m a s (.exit i) s1 htop hok hx).1).mono fun e1 s2 hk=>?_);obtain ⟨rfl,rfl⟩:=hk;split at h
    ·rename_i hb; cases h; simp only [hb]; first | exact ⟨trivial,trivial⟩ | trivial
    ·rename_i hb; cases h; simp only [hb]; first | exact ⟨trivial,trivial⟩ | trivial
   ·rename_i r hne;refine GD (((ih top rr m a s e s' htop hok h).1).mono fun e1 s2 hk=>?_);obtain ⟨rfl,rfl⟩:=hk;cases e1 with
    | exit i=>exact absurd h (hne _ _)
    | _=>exact ⟨rfl,rfl⟩
  | loop a=>
   have hok':dY N a=true:=hok;simp only at h;have key:∃M,K5 P x.cfg N rr m a (fun e1 s1=>e1=e∧s1=s'.st) M s.st:=by
    split at h
    ·rename_i s1 hx;obtain ⟨M,hM⟩:=(ih top rr m (.loop a) s1 e s' htop hok h).2 a rfl;refine ⟨M+1,Qh (((ih top rr m a s .normal s1 htop hok' hx).1).mono fun e1 s2 hk=>?_)⟩;obtain ⟨rfl,rfl⟩:=hk;exact hM
    ·rename_i r hne;refine ⟨1,Oa (fun he=>?_) (ih top rr m a s e s' htop hok' h).1⟩;subst he;exact absurd h (hne _)
   refine ⟨?_,fun a h=>by cases h; exact key⟩;obtain ⟨M,hM⟩:=key;exact (K6 M hM).ok
  | rangeFunc g ps a b=>
   refine ⟨?_,fun _ h=>by cases h⟩;simp only [dY,Bool.and_eq_true] at hok;simp only at h;rw [← lI] at h;split at h
   ·rename_i _ _ p0 p1 gf caps hps hg;obtain ⟨rfl,rfl⟩:=htop rfl;have hps:ps=#[p0,p1]:=by
     apply Array.toList_inj.1;exact hps
    subst hps;split at h
    ·rename_i len e0 e1 hi;obtain ⟨h1,h2⟩:=hit _ _ _ _ _ hi;split at h
     ·rename_i hq0 hq1;have:=VB (a:=a) (b:=b) ⟨by simpa using hq0,by simpa using hq1⟩ hN h1 hg h2 (fun l m s e s' hx=>(ih false (some l) s.nx a s e s' (fun h=>by cases h) hok.1 hx).1) (fun l m s e s' hx=>(ih false (some l) s.nx b s e s' (fun h=>by cases h) hok.2 hx).1) h;intro n0 cx aa w I O hS hrd;refine wpIn_mono (this n0 cx aa w I O hS hrd) ?_;rintro e1 a2 w2 ⟨s3,I',O',⟨rfl,q1,q2,q3⟩,hS'⟩;exact ⟨s'.st,I',O',⟨rfl,rfl⟩,hS'.ext q1.symm q2.symm q3.symm⟩
     ·cases h
    ·cases h
   ·cases h
  | _=>cases h
end
def Rq (fn:Func):Bool:=match fn.body with
  | none=>false
  | some c=>!(fn.name == "runtime.NumGoroutine")&&Nat.blt fn.ntmps 1000000&&dY fn.ntmps c
def ZH (P:Program):List (Nat×Func)→Prop
 | []=>True
 | (f,fn)::l=>P.funcs[f]? = some fn∧ZH P l
def Mk:List (Nat×Func)→Bool
 | []=>true
 | (_,fn)::l=>Rq fn&&Mk l
theorem XY {P:Program}:∀ {l:List (Nat×Func)} {f:Nat} {fn:Func},ZH P l→Mk l=true→look l f=some fn→P.funcs[f]? = some fn∧Rq fn=true:=by
 intro l;induction l with
 | nil=>intro f fn _ _ h; cases h
 | cons p l ih=>
  intro f fn h1 h2 h3;obtain ⟨k,g⟩:=p;simp only [Mk,Bool.and_eq_true] at h2;simp only [look] at h3;split at h3
  ·rename_i hb;have:=Nat.eq_of_beq_eq_true hb;subst this;cases h3;exact ⟨h1.1,h2.1⟩
  ·exact ih h1.2 h2.2 h3
noncomputable def TY:List AV→Nat→kR AV→kR AV
 | [],_,T=>T
 | v::l,i,T=>TY l (i+1) (T.set (some v) 41 i)
noncomputable def ZI:List aW→Nat→kR aW→kR aW
 | [],_,T=>T
 | v::l,i,T=>ZI l (i+1) (T.set (some v) 41 i)
theorem XZ:∀(l:List AV) (i:Nat) (T:kR AV),i+l.length<2 ^ 40→∀t,tgX (TY l i T) t=if i≤t∧t<i+l.length then nth l (t - i) else tgX T t:=by
 intro l;induction l with
 | nil=>intro i T _ t; rw [if_neg (by simp only [List.length_nil]; omega)]; rfl
 | cons v l ih=>
  intro i T h t;simp only [List.length_cons] at h ⊢;unfold TY;have e0:tgX (T.set (some v) 41 i)=updO (tgX T) (some i) v:=sZ (some i) v T fun d e=>by cases e; omega
  rw [ih _ _ (by omega),e0];by_cases h1:i+1≤t∧t<i+1+l.length
  ·rw [if_pos h1,if_pos (by omega),show t - i=(t - (i+1))+1 by omega]; rfl
  ·rw [if_neg h1];unfold updO;by_cases h2:t=i
   ·subst h2; rw [if_pos (by omega),Nat.sub_self]; simp [nth]
   ·simp only [if_neg h2]; rw [if_neg (by omega)]
theorem ZJ:∀(l:List aW) (i:Nat) (T:kR aW),i+l.length<2 ^ 40→∀t,(ZI l i T).get t=if i≤t∧t<i+l.length then hof l (t - i) else T.get t:=by
 intro l;induction l with
 | nil=>intro i T _ t; rw [if_neg (by simp only [List.length_nil]; omega)]; rfl
 | cons v l ih=>
  intro i T h t;simp only [List.length_cons] at h ⊢;unfold ZI;rw [ih _ _ (by omega),kR.Jt _ 40 _ i t (by omega)];by_cases h1:i+1≤t∧t<i+1+l.length
  ·rw [if_pos h1,if_pos (by omega),show t - i=(t - (i+1))+1 by omega]; rfl
  ·rw [if_neg h1];by_cases h2:t=i
   ·subst h2; rw [if_pos rfl,if_pos (by omega),Nat.sub_self]; rfl
   ·rw [if_neg h2,if_neg (by omega)]
noncomputable def Oi (args:List AV) (obs:List aW):SX:=⟨TY args 0 .leaf,ZI obs 0 .leaf,obs.length⟩
theorem X0 (args:List AV) (obs:List aW) (h1:args.length<2 ^ 40) (h2:obs.length<2 ^ 40):tget (Oi args obs).st.tmps=tget (yX args 0)∧hget (Oi args obs).st.heap=hget (yU.obsUps obs 0)∧(Oi args obs).st.nx=obs.length:=by
 refine ⟨?_,?_,rfl⟩
 ·rw [lI];funext t;show tgX (TY args 0 .leaf) t=_;rw [XZ _ _ _ (by simpa using h1),GH];simp only [Nat.zero_le,true_and,if_true,Nat.sub_zero,Nat.zero_add];by_cases h:t<args.length
  ·rw [if_pos h]
  ·rw [if_neg h,lK,List.getD_eq_getElem?_getD,List.getElem?_eq_none (by omega)]; rfl
 ·rw [nX,uJ];funext t;show (ZI obs 0 .leaf).get t=_;rw [ZJ _ _ _ (by simpa using h2)];simp only [Nat.zero_le,true_and,Nat.sub_zero,Nat.zero_add];by_cases h:t<obs.length
  ·rw [if_pos h]
  ·rw [if_neg h,hof_none _ _ (by omega)]; rfl
noncomputable def ZL (x:KX) (fns:kR Func) (ext:wQ) (it:TW):Nat→wQ
 | 0,_,_,_=>.err [14]
 | n+1,f,args,obs=>match ext f args obs with
  | .ok r=>.ok r
  | .err _=>match fns.get f with
    | none=>.err [15,f]
    | some fn=>match fn.body with
     | none=>.err [16,f]
     | some c=>match Nat.ble args.length fn.ntmps,Nat.blt obs.length 1000000 with
      | true,true=>match XV x (ZL x fns ext it n) fn.ntmps it obs.length true 1000000 c (Oi args obs) with
       | .ok (.normal,s)=>Zo x.cfg fn.results.toList obs.length s.st
       | .ok (.ret,s)=>Zo x.cfg fn.results.toList obs.length s.st
       | .ok _=>.err [17,f]
       | .err l=>.err (f::0::l)
      | _,_=>.err [20,f]
theorem VD {P:Program} {x:KX} {fns:kR Func} {ext:wQ} {it:TW} (hit:∀gf caps len e0 e1,it gf caps=some (len,e0,e1)→sj P gf caps len e0 e1∧∀v∈caps,∃cs,v=.ro cs) (hc:dK P x.cfg) (hok:∀f fn,fns.get f=some fn→P.funcs[f]? = some fn∧Rq fn=true) (hext:∀f a o r o',ext f a o=.ok (r,o')→Spec P x.cfg f a o r o'):
  ∀(n:Nat) (f:FuncId) (args:List AV) (obs:List aW) (r:AV) (obs':List aW),ZL x fns ext it n f args obs=.ok (r,obs')→Spec P x.cfg f args obs r obs':=by
 intro n;induction n with
 | zero=>intro f args obs r obs' h; cases h
 | succ n ih=>
  intro f args obs r obs' h;unfold ZL at h;split at h
  ·rename_i r1 he; cases h; exact hext _ _ _ _ _ he
  split at h
  ·cases h
  rename_i fn hu;obtain ⟨hf,ht⟩:=hok f fn hu;unfold Rq at ht;split at h
  ·cases h
  rename_i c hb;rw [hb] at ht;simp only [Bool.and_eq_true,Bool.not_eq_true'] at ht;obtain ⟨⟨hnm,hnt⟩,hcode⟩:=ht;have hnt:fn.ntmps<1000000:=by simpa using hnt
  have h40:(1000000:Nat)<2 ^ 40:=by decide
  split at h
  ·rename_i hN hO;have hN:=Nat.le_of_ble_eq_true hN;have hO:obs.length<1000000:=by simpa using hO
   obtain ⟨s1,s2,s3⟩:=X0 args obs (by omega) (by omega);have fin:∀e s,XV x (ZL x fns ext it n) fn.ntmps it obs.length true 1000000 c (Oi args obs)=.ok (e,s)→(e=.normal∨e=.ret)→Zo x.cfg fn.results.toList obs.length s.st=.ok (r,obs')→Spec P x.cfg f args obs r obs':=by
    intro e s h1 h2 h3;obtain ⟨h4,h5⟩:=Vk (e:=e) h2 h3;have hg:=(XW hc (by omega) ih hit _ true none obs.length c _ e s (fun _=>⟨rfl,rfl⟩) hcode h1).1;refine FY hc hf hb hnm hN h4 (K:=fun e1 s1=>e1=e∧s1=s.st) (fun n0 cx a w I O hS hrd=>hg n0 cx a w I O (hS.ext s1 s2 s3) hrd) ?_;rintro e1 s1 ⟨rfl,rfl⟩;exact Sm hc h4 h5
   split at h
   ·rename_i s h1; exact fin _ _ h1 (.inl rfl) h
   ·rename_i s h1; exact fin _ _ h1 (.inr rfl) h
   ·cases h
   ·cases h
  ·cases h
end Go.Ab




namespace Go.Proofs.YtfblhejmclcdmaaGreatDoor
open Go.Ab
set_option maxRecDepth 100000
noncomputable def kx:KX where
 ty:=(.node none (.node none (.node (some ⟨1,false,8,[(.int .i64)],(.int .i64)⟩) (.node none (.node none (.node (some ⟨1,false,24,[.slice],(.slice 120)⟩) (.node (some ⟨3,true,72,[.slice,.slice,.slice],(.array 3 22)⟩) .leaf .leaf) .leaf) (.node none (.node none (.node (some ⟨5,true,56,[(.int .i64),.slice,(.int .i64),(.int .i64),.bool],(.struct [(0,3),(1,22),(2,3),(3,3),(4,4)])⟩) .leaf .leaf) .leaf) (.node none (.node (some ⟨2,true,16,[(.int .i64),(.int .i64)],(.struct [(0,3),(1,3)])⟩) .leaf .leaf) .leaf))) (.node none (.node (some ⟨1,false,24,[.slice],(.slice 74)⟩) (.node (some ⟨2,true,16,[(.int .i64),(.int .i64)],(.struct [(0,3),(1,3)])⟩) .leaf .leaf) (.node (some ⟨4,true,32,[(.int .i64),(.int .i64),(.int .i64),(.int .i64)],(.struct [(0,3),(1,3),(2,3),(3,3)])⟩) .leaf .leaf)) (.node none (.node (some ⟨15,true,328,[.slice,.slice,(.int .i64),.slice,.slice,.slice,.slice,.slice,.slice,.slice,.slice,.slice,.slice,.slice,.bool],(.struct [(0,34),(6,35),(7,22),(8,41),(14,4)])⟩) .leaf (.node (some ⟨1,false,8,[.other],.other⟩) .leaf .leaf)) (.node (some ⟨1,true,24,[.slice],(.struct [(0,22)])⟩) .leaf .leaf)))) (.node none (.node none (.node (some ⟨1,false,24,[.slice],(.slice 70)⟩) (.node (some ⟨1,false,24,[.slice],(.slice 101)⟩) .leaf .leaf) (.node none (.node (some ⟨1,false,8,[.other],.other⟩) .leaf .leaf) .leaf)) (.node (some ⟨3,true,24,[(.int .i64),(.int .i64),(.int .i64)],(.struct [(0,3),(1,3),(2,3)])⟩) (.node none (.node (some ⟨2,true,16,[(.int .i64),.bool],(.struct [(0,3),(1,4)])⟩) .leaf .leaf) .leaf) (.node none (.node (some ⟨1,false,24,[.slice],(.slice 22)⟩) .leaf .leaf) .leaf))) (.node (some ⟨1,false,24,[.slice],(.slice 143)⟩) (.node none (.node none (.node (some ⟨5,true,72,[(.int .i64),.slice,.slice,(.int .i64),(.int .i64)],(.struct [(0,3),(1,22),(2,22),(3,3),(4,3)])⟩) .leaf .leaf) .leaf) .leaf) (.node (some ⟨3,true,72,[.slice,.slice,.slice],(.array 3 35)⟩) .leaf .leaf)))) (.node (some ⟨1,false,1,[(.int .u8)],(.int .u8)⟩) (.node (some ⟨1,false,16,[.str],.str⟩) (.node none (.node (some ⟨6,true,128,[.slice,.slice,(.int .i64),.slice,.slice,.slice],(.struct [(0,26),(1,27),(2,30),(4,31),(5,32)])⟩) .leaf .leaf) .leaf) (.node none (.node (some ⟨6,true,144,[.slice,.slice,.slice,.slice,.slice,.slice],(.struct [(0,22),(1,38),(3,39),(4,36),(5,36)])⟩) (.node (some ⟨3,true,24,[(.int .i64),(.int .i64),(.int .i64)],(.struct [(0,3),(1,72)])⟩) .leaf .leaf) .leaf) (.node none (.node none .leaf (.node (some ⟨64,true,512,[(.int .i64),(.int .i64),(.int .i64),(.int .i64),(.int .i64),(.int .i64),(.int .i64),(.int .i64),(.int .i64),(.int .i64),(.int .i64),(.int .i64),(.int .i64),(.int .i64),(.int .i64),(.int .i64),(.int .i64),(.int .i64),(.int .i64),(.int .i64),(.int .i64),(.int .i64),(.int .i64),(.int .i64),(.int .i64),(.int .i64),(.int .i64),(.int .i64),(.int .i64),(.int .i64),(.int .i64),(.int .i64),(.int .i64),(.int .i64),(.int .i64),(.int .i64),(.int .i64),(.int .i64),(.int .i64),(.int .i64),(.int .i64),(.int .i64),(.int .i64),(.int .i64),(.int .i64),(.int .i64),(.int .i64),(.int .i64),(.int .i64),(.int .i64),(.int .i64),(.int .i64),(.int .i64),(.int .i64),(.int .i64),(.int .i64),(.int .i64),(.int .i64),(.int .i64),(.int .i64),(.int .i64),(.int .i64),(.int .i64),(.int .i64)],(.array 64 3)⟩) .leaf .leaf)) .leaf))) (.node none (.node none (.node (some ⟨2,true,48,[.slice,.slice],(.struct [(0,36),(1,22)])⟩) (.node (some ⟨6,true,128,[.slice,.slice,.slice,.slice,(.int .i64),.slice],(.struct [(0,67),(1,68),(2,66),(3,22),(4,3),(5,22)])⟩) .leaf .leaf) (.node (some ⟨3,true,24,[(.int .i64),(.int .i64),(.int .i64)],(.struct [(0,3),(1,3),(2,3)])⟩) (.node (some ⟨1,false,8,[.other],(.map 9 4)⟩) .leaf .leaf) .leaf)) (.node none (.node none (.node (some ⟨1,false,24,[.slice],(.slice 148)⟩) .leaf .leaf) (.node (some ⟨1,false,8,[.other],.other⟩) .leaf .leaf)) (.node (some ⟨3,true,64,[.str,.slice,.slice],(.struct [(0,9),(1,22),(2,66)])⟩) .leaf .leaf))) (.node (some ⟨2,true,32,[(.int .i64),.slice],(.struct [(0,3),(1,28)])⟩) (.node none (.node (some ⟨2,true,32,[.slice,(.int .i64)],(.struct [(0,22),(1,3)])⟩) .leaf .leaf) .leaf) (.node none (.node (some ⟨1,false,8,[.ptr],(.pointer 41)⟩) .leaf .leaf) .leaf))))) (.node none (.node (some ⟨1,false,1,[.bool],.bool⟩) (.node none (.node none (.node (some ⟨1,false,24,[.slice],(.slice 147)⟩) (.node (some ⟨2,true,48,[.slice,.slice],(.array 2 48)⟩) .leaf .leaf) .leaf) (.node (some ⟨1,false,24,[.slice],(.slice 51)⟩) .leaf (.node (some ⟨1,false,24,[.slice],(.slice 72)⟩) .leaf .leaf))) (.node (some ⟨1,false,8,[.ptr],(.pointer 77)⟩) (.node (some ⟨6,true,144,[.slice,.slice,.slice,.slice,.slice,.slice],(.struct [(0,22),(1,38),(3,39),(4,36),(5,36)])⟩) (.node (some ⟨2,true,16,[(.int .i64),(.int .i64)],(.struct [(0,3),(1,3)])⟩) .leaf .leaf) .leaf) (.node none (.node none .leaf (.node (some ⟨64,true,512,[(.int .i64),(.int .i64),(.int .i64),(.int .i64),(.int .i64),(.int .i64),(.int .i64),(.int .i64),(.int .i64),(.int .i64),(.int .i64),(.int .i64),(.int .i64),(.int .i64),(.int .i64),(.int .i64),(.int .i64),(.int .i64),(.int .i64),(.int .i64),(.int .i64),(.int .i64),(.int .i64),(.int .i64),(.int .i64),(.int .i64),(.int .i64),(.int .i64),(.int .i64),(.int .i64),(.int .i64),(.int .i64),(.int .i64),(.int .i64),(.int .i64),(.int .i64),(.int .i64),(.int .i64),(.int .i64),(.int .i64),(.int .i64),(.int .i64),(.int .i64),(.int .i64),(.int .i64),(.int .i64),(.int .i64),(.int .i64),(.int .i64),(.int .i64),(.int .i64),(.int .i64),(.int .i64),(.int .i64),(.int .i64),(.int .i64),(.int .i64),(.int .i64),(.int .i64),(.int .i64),(.int .i64),(.int .i64),(.int .i64),(.int .i64)],(.array 64 3)⟩) .leaf .leaf)) (.node (some ⟨1,true,24,[.slice],(.struct [(0,22)])⟩) .leaf .leaf)))) (.node none (.node none (.node (some ⟨1,false,24,[.slice],(.slice 4)⟩) (.node (some ⟨1,false,24,[.slice],(.slice 103)⟩) .leaf (.node (some ⟨1,false,8,[.other],.other⟩) .leaf .leaf)) (.node (some ⟨3,true,24,[(.int .i64),(.int .i64),(.int .i64)],(.struct [(0,3),(1,3),(2,3)])⟩) .leaf .leaf)) (.node none (.node none (.node (some ⟨1,false,8,[.other],.other⟩) .leaf .leaf) .leaf) (.node none (.node (some ⟨1,false,24,[.slice],(.slice 5)⟩) .leaf .leaf) .leaf))) (.node (some ⟨1,false,24,[.slice],(.slice 118)⟩) (.node (some ⟨1,false,8,[(.int .i64)],(.int .i64)⟩) (.node (some ⟨2,true,32,[.slice,(.int .i64)],(.struct [(0,22),(1,3)])⟩) (.node (some ⟨1,false,8,[.other],.other⟩) .leaf .leaf) .leaf) .leaf) .leaf))) (.node none (.node none (.node none (.node (some ⟨6,true,128,[.slice,.slice,(.int .i64),.slice,.slice,.slice],(.struct [(0,26),(1,27),(2,30),(4,31),(5,32)])⟩) (.node (some ⟨1,false,24,[.slice],(.slice 9)⟩) .leaf (.node (some ⟨1,false,8,[.other],(.map 9 3)⟩) .leaf .leaf)) .leaf) (.node (some ⟨3,true,24,[(.int .i64),(.int .i64),(.int .i64)],(.struct [(0,3),(1,3),(2,3)])⟩) (.node none (.node (some ⟨2,true,16,[(.int .i64),.bool],(.struct [(0,3),(1,4)])⟩) .leaf .leaf) .leaf) .leaf)) (.node (some ⟨1,false,24,[.slice],(.slice 139)⟩) (.node none (.node (some ⟨3,true,24,[(.int .i64),(.int .i64),(.int .i64)],(.struct [(0,3),(1,72)])⟩) (.node (some ⟨5,true,72,[(.int .i64),.slice,.slice,(.int .i64),(.int .i64)],(.struct [(0,3),(1,22),(2,22),(3,3),(4,3)])⟩) .leaf .leaf) .leaf) (.node none (.node (some ⟨1,false,24,[.slice],(.slice 175)⟩) .leaf .leaf) .leaf)) .leaf)) (.node none (.node (some ⟨1,false,24,[.slice],(.slice 3)⟩) (.node (some ⟨2,true,48,[.slice,.slice],(.struct [(0,36),(1,22)])⟩) (.node (some ⟨6,true,128,[.slice,.slice,.slice,.slice,(.int .i64),.slice],(.struct [(0,67),(1,68),(2,66),(3,22),(4,3),(5,22)])⟩) .leaf .leaf) (.node (some ⟨4,true,32,[(.int .i64),(.int .i64),(.int .i64),(.int .i64)],(.struct [(0,3),(1,3),(2,3),(3,3)])⟩) .leaf (.node (some ⟨1,false,8,[.other],.other⟩) .leaf .leaf))) (.node none (.node (some ⟨15,true,328,[.slice,.slice,(.int .i64),.slice,.slice,.slice,.slice,.slice,.slice,.slice,.slice,.slice,.slice,.slice,.bool],(.struct [(0,34),(6,35),(7,22),(8,41),(14,4)])⟩) .leaf .leaf) (.node (some ⟨3,true,64,[.str,.slice,.slice],(.struct [(0,9),(1,22),(2,66)])⟩) .leaf .leaf))) (.node (some ⟨2,true,32,[(.int .i64),.slice],(.struct [(0,3),(1,28)])⟩) (.node none (.node none (.node (some ⟨5,true,56,[(.int .i64),.slice,(.int .i64),(.int .i64),.bool],(.struct [(0,3),(1,22),(2,3),(3,3),(4,4)])⟩) .leaf .leaf) .leaf) (.node none (.node (some ⟨2,true,16,[(.int .i64),(.int .i64)],(.struct [(0,3),(1,3)])⟩) .leaf .leaf) .leaf)) (.node (some ⟨18,true,432,[.slice,.slice,.slice,.slice,.slice,.slice,.slice,.slice,.slice,.slice,.slice,.slice,.slice,.slice,.slice,.slice,.slice,.slice],(.array 3 41)⟩) (.node none (.node (some ⟨1,false,8,[.other],.other⟩) .leaf .leaf) .leaf) .leaf))))))
 eqs:=[(74,[(.int .i64),(.int .i64),(.int .i64)]),(175,[(.int .i64),(.int .i64)])]
 fns:=(.node none (.node none (.node none (.node (some ⟨[],true⟩) (.node none (.node none (.node (some ⟨[0],true⟩) .leaf .leaf) (.node (some ⟨[],true⟩) .leaf .leaf)) (.node none (.node (some ⟨[],true⟩) .leaf (.node (some ⟨[0],false⟩) .leaf .leaf)) .leaf)) (.node (some ⟨[],true⟩) (.node (some ⟨[],true⟩) (.node (some ⟨[0],true⟩) .leaf .leaf) .leaf) .leaf)) (.node (some ⟨[0],false⟩) (.node none (.node (some ⟨[0],false⟩) (.node (some ⟨[0],true⟩) (.node (some ⟨[],true⟩) .leaf .leaf) .leaf) .leaf) (.node none (.node none .leaf (.node (some ⟨[0],false⟩) .leaf .leaf)) .leaf)) (.node (some ⟨[],true⟩) (.node none (.node (some ⟨[],true⟩) .leaf .leaf) .leaf) (.node (some ⟨[],true⟩) .leaf .leaf)))) (.node none (.node none (.node (some ⟨[0],true⟩) (.node none (.node (some ⟨[0],true⟩) .leaf .leaf) (.node (some ⟨[0],false⟩) .leaf .leaf)) .leaf) (.node (some ⟨[0],true⟩) (.node none (.node (some ⟨[],true⟩) .leaf .leaf) (.node none (.node (some ⟨[],true⟩) .leaf .leaf) .leaf)) .leaf)) (.node (some ⟨[],true⟩) (.node none (.node (some ⟨[],true⟩) (.node (some ⟨[0],false⟩) (.node (some ⟨[],true⟩) .leaf .leaf) .leaf) .leaf) .leaf) (.node none (.node none (.node none .leaf (.node (some ⟨[0],false⟩) .leaf .leaf)) .leaf) (.node none (.node (some ⟨[],true⟩) (.node (some ⟨[],true⟩) .leaf .leaf) .leaf) .leaf))))) (.node none (.node none (.node (some ⟨[0],true⟩) (.node none (.node none (.node (some ⟨[0],true⟩) .leaf .leaf) (.node (some ⟨[0],false⟩) .leaf .leaf)) (.node none (.node none .leaf (.node (some ⟨[0],false⟩) .leaf .leaf)) (.node (some ⟨[],true⟩) .leaf .leaf))) (.node (some ⟨[],true⟩) (.node (some ⟨[0],false⟩) (.node (some ⟨[],true⟩) .leaf .leaf) (.node none (.node (some ⟨[],true⟩) .leaf .leaf) .leaf)) (.node none (.node none (.node (some ⟨[],true⟩) .leaf .leaf) .leaf) (.node (some ⟨[],true⟩) .leaf .leaf)))) (.node (some ⟨[0],false⟩) (.node (some ⟨[0],true⟩) (.node (some ⟨[0],false⟩) (.node (some ⟨[0],false⟩) .leaf .leaf) (.node (some ⟨[0],true⟩) .leaf .leaf)) .leaf) (.node none (.node none (.node (some ⟨[],true⟩) .leaf (.node (some ⟨[0],false⟩) .leaf .leaf)) .leaf) (.node none (.node (some ⟨[],true⟩) .leaf .leaf) (.node none (.node (some ⟨[],true⟩) .leaf .leaf) .leaf))))) (.node none (.node none (.node none (.node none (.node (some ⟨[0],true⟩) .leaf .leaf) (.node none (.node (some ⟨[],true⟩) .leaf .leaf) .leaf)) (.node (some ⟨[0],false⟩) .leaf .leaf)) (.node (some ⟨[0],true⟩) (.node none (.node (some ⟨[],true⟩) .leaf .leaf) .leaf) (.node (some ⟨[],true⟩) (.node none (.node (some ⟨[],true⟩) .leaf .leaf) .leaf) (.node (some ⟨[],true⟩) .leaf .leaf)))) (.node (some ⟨[],true⟩) (.node (some ⟨[],true⟩) (.node none (.node (some ⟨[0],true⟩) .leaf .leaf) .leaf) (.node none .leaf (.node (some ⟨[],true⟩) .leaf .leaf))) (.node none (.node none (.node none .leaf (.node (some ⟨[0],false⟩) .leaf .leaf)) .leaf) (.node none (.node (some ⟨[],true⟩) .leaf .leaf) (.node (some ⟨[],true⟩) .leaf .leaf)))))))
 glob:=[(0,[iV (0:Int),iV (1:Int)])]
noncomputable def fns:kR Func:=(.node none (.node none (.node none (.node none (.node none (.node none (.node none .leaf (.node (some Tryz.f191) .leaf .leaf)) .leaf) (.node (some Tryz.f47) (.node none (.node (some Tryz.f143) .leaf .leaf) .leaf) (.node none (.node (some Tryz.f175) .leaf .leaf) .leaf))) (.node none (.node (some Tryz.f39) (.node none (.node (some Tryz.f135) .leaf .leaf) .leaf) (.node (some Tryz.f103) (.node (some Tryz.f167) .leaf .leaf) .leaf)) (.node none (.node (some Tryz.f87) .leaf .leaf) (.node none (.node (some Tryz.f183) .leaf .leaf) .leaf)))) (.node none (.node none (.node none (.node none (.node (some Tryz.f131) .leaf .leaf) (.node (some Tryz.f195) .leaf .leaf)) (.node (some Tryz.f99) (.node (some Tryz.f163) .leaf .leaf) .leaf)) (.node (some Tryz.f51) (.node (some Tryz.f83) (.node (some Tryz.f147) .leaf .leaf) .leaf) .leaf)) (.node none (.node none (.node none (.node (some Tryz.f139) .leaf .leaf) .leaf) (.node (some Tryz.f107) (.node (some Tryz.f171) .leaf .leaf) .leaf)) (.node none (.node (some Tryz.f91) .leaf .leaf) (.node none (.node (some Tryz.f187) .leaf .leaf) .leaf))))) (.node none (.node none (.node none (.node (some Tryz.f33) (.node none .leaf (.node (some Tryz.f193) .leaf .leaf)) (.node (some Tryz.f97) (.node (some Tryz.f161) .leaf .leaf) .leaf)) (.node (some Tryz.f49) (.node none (.node (some Tryz.f145) .leaf .leaf) .leaf) .leaf)) (.node none (.node none (.node none (.node (some Tryz.f137) .leaf .leaf) .leaf) (.node (some Tryz.f105) (.node (some Tryz.f169) .leaf .leaf) .leaf)) (.node none (.node (some Tryz.f89) .leaf .leaf) (.node none (.node (some Tryz.f185) .leaf .leaf) .leaf)))) (.node none (.node none (.node none (.node none (.node (some Tryz.f133) .leaf .leaf) .leaf) (.node (some Tryz.f101) (.node (some Tryz.f165) .leaf .leaf) .leaf)) (.node none (.node (some Tryz.f85) .leaf .leaf) (.node none (.node (some Tryz.f181) .leaf .leaf) .leaf))) (.node none (.node (some Tryz.f45) (.node none (.node (some Tryz.f141) .leaf .leaf) .leaf) (.node none (.node (some Tryz.f173) .leaf .leaf) .leaf)) (.node none (.node (some Tryz.f93) .leaf .leaf) (.node none (.node (some Tryz.f189) .leaf .leaf) .leaf)))))) (.node none (.node none (.node none (.node (some Tryz.f16) (.node none (.node none .leaf (.node (some Tryz.f192) .leaf .leaf)) (.node (some Tryz.f96) (.node (some Tryz.f160) .leaf .leaf) .leaf)) (.node (some Tryz.f48) (.node none (.node (some Tryz.f144) .leaf .leaf) .leaf) (.node none (.node (some Tryz.f176) .leaf .leaf) .leaf))) (.node (some Tryz.f24) (.node (some Tryz.f40) (.node none (.node (some Tryz.f136) .leaf .leaf) .leaf) (.node (some Tryz.f104) (.node (some Tryz.f168) .leaf .leaf) .leaf)) (.node none (.node (some Tryz.f88) .leaf .leaf) (.node none (.node (some Tryz.f184) .leaf .leaf) .leaf)))) (.node none (.node none (.node none (.node none (.node (some Tryz.f132) .leaf .leaf) .leaf) (.node (some Tryz.f100) (.node (some Tryz.f164) .leaf .leaf) .leaf)) (.node none (.node (some Tryz.f84) .leaf .leaf) .leaf)) (.node none (.node none (.node none (.node (some Tryz.f140) .leaf .leaf) .leaf) (.node (some Tryz.f108) (.node (some Tryz.f172) .leaf .leaf) .leaf)) .leaf))) (.node (some Tryz.f6) (.node (some Tryz.f10) (.node (some Tryz.f18) (.node none (.node none (.node (some Tryz.f130) .leaf .leaf) .leaf) (.node (some Tryz.f98) (.node (some Tryz.f162) .leaf .leaf) .leaf)) (.node none (.node (some Tryz.f82) (.node (some Tryz.f146) .leaf .leaf) .leaf) .leaf)) (.node none (.node none (.node none (.node (some Tryz.f138) .leaf .leaf) .leaf) (.node (some Tryz.f106) (.node (some Tryz.f170) .leaf .leaf) .leaf)) (.node none (.node (some Tryz.f90) .leaf .leaf) (.node none (.node (some Tryz.f186) .leaf .leaf) .leaf)))) (.node (some Tryz.f14) (.node none (.node (some Tryz.f38) (.node none (.node (some Tryz.f134) .leaf .leaf) .leaf) (.node (some Tryz.f102) (.node (some Tryz.f166) .leaf .leaf) .leaf)) (.node none (.node (some Tryz.f86) .leaf .leaf) (.node none (.node (some Tryz.f182) .leaf .leaf) .leaf))) (.node none (.node (some Tryz.f46) (.node none (.node (some Tryz.f142) .leaf .leaf) .leaf) (.node none (.node (some Tryz.f174) .leaf .leaf) .leaf)) (.node none .leaf (.node none (.node (some Tryz.f190) .leaf .leaf) .leaf)))))))
theorem ac0:dK Tryz.prog kx.cfg:=Sr (by kernel_rfl) (by kernel_rfl) (by kernel_rfl)
theorem acf:ZH Tryz.prog (kR.TN fns 1 0):=⟨Tryz.func191,Tryz.func47,Tryz.func143,Tryz.func175,Tryz.func39,Tryz.func135,Tryz.func103,Tryz.func167,Tryz.func87,Tryz.func183,Tryz.func131,Tryz.func195,Tryz.func99,Tryz.func163,Tryz.func51,Tryz.func83,Tryz.func147,Tryz.func139,Tryz.func107,Tryz.func171,Tryz.func91,Tryz.func187,Tryz.func33,Tryz.func193,Tryz.func97,Tryz.func161,Tryz.func49,Tryz.func145,Tryz.func137,Tryz.func105,Tryz.func169,Tryz.func89,Tryz.func185,Tryz.func133,Tryz.func101,Tryz.func165,Tryz.func85,Tryz.func181,Tryz.func45,Tryz.func141,Tryz.func173,Tryz.func93,Tryz.func189,Tryz.func16,Tryz.func192,Tryz.func96,Tryz.func160,Tryz.func48,Tryz.func144,Tryz.func176,Tryz.func24,Tryz.func40,Tryz.func136,Tryz.func104,Tryz.func168,Tryz.func88,Tryz.func184,Tryz.func132,Tryz.func100,Tryz.func164,Tryz.func84,Tryz.func140,Tryz.func108,Tryz.func172,Tryz.func6,Tryz.func10,Tryz.func18,Tryz.func130,Tryz.func98,Tryz.func162,Tryz.func82,Tryz.func146,Tryz.func138,Tryz.func106,Tryz.func170,Tryz.func90,Tryz.func186,Tryz.func14,Tryz.func38,Tryz.func134,Tryz.func102,Tryz.func166,Tryz.func86,Tryz.func182,Tryz.func46,Tryz.func142,Tryz.func174,Tryz.func190,trivial⟩
theorem acg:Mk (kR.TN fns 1 0)=true:=by kernel_rfl
end Go.Proofs.YtfblhejmclcdmaaGreatDoor


namespace Go.Proofs.YtfblhejmclcdmaaGreatDoor
open Go.Ab
set_option maxRecDepth 100000
theorem WA {c1 c2:mQ} (hg:c1.glob=c2.glob) {cx:Ctx} {H:Nat→Option aW} {D:Nat→Prop} {w:World} {I:Nat→Prop} {O:OM} (h:Rel c1 cx H D w I O):Rel c2 cx H D w I O:=
 ⟨h.dom,h.used,h.objs,h.inj,h.kD,h.lt,h.qh,h.size,h.frame,h.new,by rw [← hg]; exact h.glob,h.FQ,h.JC,h.LX,h.Dm,h.env,h.maps⟩
theorem T9 {P:Program} {c1 c2:mQ} (hg:c1.glob=c2.glob) {f:FuncId} {args:List AV} {obs:List aW} {r:AV} {ob2:List aW} (h:Ab.Spec P c1 f args obs r ob2):Ab.Spec P c2 f args obs r ob2:=
 ⟨h.1,h.2.1,fun w I O vals hR hv hr=>(h.2.2 w I O vals (WA hg.symm hR) hv hr).mono fun _ _ ⟨x,I',O',e,a,b⟩=>⟨x,I',O',e,WA hg a,b⟩⟩
theorem ac1 (n:Nat) (full:Bool) (g:Nat→AV) (h1:n*8≤big):S 92 [.sl 1 n full g] [] (.bP 0 0 n false) [.row 1 n g]:=by
 refine kG (ct:=[1]) fE Tryz.func92 rfl rfl (Nat.le_of_ble_eq_true rfl) (by decide +kernel) (Nat.le_of_ble_eq_true rfl) ?_;(conv=>whnf);refine zo (ct:=[]) fE (fE.slice (t:=22) (e:=3) rfl rfl rfl).1 (by decide +kernel) (by decide +kernel) (by decide +kernel) (by decide +kernel) (by decide +kernel) [(2,.sl 0 0 true dB),(0,.sl 1 n full g)] [] 8 rfl ?_ (fun hn=>?_) ?_
 ·exact rfl
 ·(conv=>whnf);refine ⟨[],[(0,none)],?_⟩;(conv=>whnf);exact ⟨⟨rfl,trivial,⟨hn,trivial⟩⟩,⟨rfl,rfl,rfl,rfl,rfl,hn⟩⟩
 ·(conv=>whnf);refine ⟨by rw [Nat.zero_add]; exact h1,?_⟩;(conv=>whnf);refine ⟨[],[(0,some 24)],?_⟩;(conv=>whnf);exact ⟨⟨rfl,trivial,⟨⟨rfl,Nat.zero_add _,fun i _=>.refl _⟩,trivial⟩⟩,⟨rfl,rfl,rfl,Nat.zero_add _,nofun⟩⟩
theorem ac2 (n:Nat) (full:Bool) (g:Nat→AV) (h1:n*24≤big):S 94 [.sl 3 n full g] [] (.bP 0 0 n false) [.row 3 n g]:=by
 refine kG (ct:=[1]) fE Tryz.func94 rfl rfl (Nat.le_of_ble_eq_true rfl) (by decide +kernel) (Nat.le_of_ble_eq_true rfl) ?_;(conv=>whnf);refine zo (ct:=[]) fE (fE.slice (t:=39) (e:=74) rfl rfl rfl).1 (by decide +kernel) (by decide +kernel) (by decide +kernel) (by decide +kernel) (by decide +kernel) [(2,.sl 0 0 true dB),(0,.sl 3 n full g)] [] 8 rfl ?_ (fun hn=>?_) ?_
 ·exact rfl
 ·(conv=>whnf);refine ⟨[],[(0,none)],?_⟩;(conv=>whnf);exact ⟨⟨rfl,trivial,⟨hn,trivial⟩⟩,⟨rfl,rfl,rfl,rfl,rfl,hn⟩⟩
 ·(conv=>whnf);refine ⟨by rw [Nat.zero_add]; exact h1,?_⟩;(conv=>whnf);refine ⟨[],[(0,some 24)],?_⟩;(conv=>whnf);exact ⟨⟨rfl,trivial,⟨⟨rfl,Nat.zero_add _,fun i _=>.refl _⟩,trivial⟩⟩,⟨rfl,rfl,rfl,Nat.zero_add _,nofun⟩⟩
theorem ac3 (n:Nat) (full:Bool) (g:Nat→AV) (h1:n*1≤big):S 95 [.sl 1 n full g] [] (.bP 0 0 n false) [.row 1 n g]:=by
 refine kG (ct:=[1]) fE Tryz.func95 rfl rfl (Nat.le_of_ble_eq_true rfl) (by decide +kernel) (Nat.le_of_ble_eq_true rfl) ?_;(conv=>whnf);refine zo (ct:=[]) fE (fE.slice (t:=36) (e:=4) rfl rfl rfl).1 (by decide +kernel) (by decide +kernel) (by decide +kernel) (by decide +kernel) (by decide +kernel) [(2,.sl 0 0 true dB),(0,.sl 1 n full g)] [] 8 rfl ?_ (fun hn=>?_) ?_
 ·exact rfl
 ·(conv=>whnf);refine ⟨[],[(0,none)],?_⟩;(conv=>whnf);exact ⟨⟨rfl,trivial,⟨hn,trivial⟩⟩,⟨rfl,rfl,rfl,rfl,rfl,hn⟩⟩
 ·(conv=>whnf);refine ⟨by rw [Nat.zero_add]; exact h1,?_⟩;(conv=>whnf);refine ⟨[],[(0,some 24)],?_⟩;(conv=>whnf);exact ⟨⟨rfl,trivial,⟨⟨rfl,Nat.zero_add _,fun i _=>.refl _⟩,trivial⟩⟩,⟨rfl,rfl,rfl,Nat.zero_add _,nofun⟩⟩
theorem WB {es:Nat} {f f2:Bool} {g h:Nat→AV} (hf:f2=true→f=true):Le (.sl 0 0 f g) (.sl es 0 f2 h):=
 .sl rfl (fun h=>absurd h (by decide)) hf fun i hi=>absurd hi (Nat.not_lt_zero i)
theorem ac4 (g:Nat→AV) (full:Bool):S 92 [.sl 0 0 full g] [] (.bP 0 0 0 false) [.row 1 0 dB]:=
 Spec.le (ac1 0 full dB (Nat.zero_le _)) ⟨WB id,trivial⟩ trivial
theorem ac5 (g:Nat→AV) (full:Bool):S 94 [.sl 0 0 full g] [] (.bP 0 0 0 false) [.row 3 0 dB]:=
 Spec.le (ac2 0 full dB (Nat.zero_le _)) ⟨WB id,trivial⟩ trivial
theorem ac6 (g:Nat→AV) (full:Bool):S 95 [.sl 0 0 full g] [] (.bP 0 0 0 false) [.row 1 0 dB]:=
 Spec.le (ac3 0 full dB (Nat.zero_le _)) ⟨WB id,trivial⟩ trivial
noncomputable def clX (sz by_:Nat):Nat→Nat→(Nat→AV)→Rz (AV×List aW)
 | 0,0,_=>.ok (.bP 0 0 0 false,[.row sz 0 dB])
 | es,n,g=>match Nat.beq es sz,Nat.ble (n*by_) big with
  | true,true=>.ok (.bP 0 0 n false,[.row sz n g])
  | _,_=>.err [21]
noncomputable def abb:wQ:=fun f args obs=>match args,obs with
 | [.sl es n _ g],[]=>match Nat.beq f 92 with
  | true=>clX 1 8 es n g
  | false=>match Nat.beq f 94 with
   | true=>clX 3 24 es n g
   | false=>match Nat.beq f 95 with
    | true=>clX 1 1 es n g
    | false=>match Nat.beq f 188,es,n with
     | true,0,0=>.ok (.fn 194 [.ro [aJ []]],[])
     | _,_,_=>.err []
 | _,_=>.err []
noncomputable def itX:TW:=fun f caps=>match Nat.beq f 194,caps with
 | true,[.ro [.sl 5 0 false _]]=>some (0,fun k=>iV ((([]:List aj).length - 1 - k:Nat):Int),fun k=>uL (([]:List aj).getD (([]:List aj).length - 1 - k) ah))
 | _,_=>none
theorem ac7 (f:FuncId) (a:List AV) (o:List aW) (r:AV) (o':List aW) (h:abb f a o=.ok (r,o')):S f a o r o':=by
 unfold abb at h;split at h
 ·rename_i es n fu g;cases h1:Nat.beq f 92 with
  | true=>
   have e:=Nat.eq_of_beq_eq_true h1;subst e;simp only [h1] at h;unfold clX at h;split at h
   ·cases h; exact ac4 _ _
   ·split at h
    ·rename_i h3 h4;have e:=Nat.eq_of_beq_eq_true h3;subst e;cases h;exact ac1 _ _ _ (Nat.le_of_ble_eq_true h4)
    ·cases h
  | false=>
   simp only [h1] at h;cases h2:Nat.beq f 94 with
   | true=>
    have e:=Nat.eq_of_beq_eq_true h2;subst e;simp only [h2] at h;unfold clX at h;split at h
    ·cases h; exact ac5 _ _
    ·split at h
     ·rename_i h3 h4;have e:=Nat.eq_of_beq_eq_true h3;subst e;cases h;exact ac2 _ _ _ (Nat.le_of_ble_eq_true h4)
     ·cases h
   | false=>
    simp only [h2] at h;cases h3:Nat.beq f 95 with
    | true=>
     have e:=Nat.eq_of_beq_eq_true h3;subst e;simp only [h3] at h;unfold clX at h;split at h
     ·cases h; exact ac6 _ _
     ·split at h
      ·rename_i h3 h4;have e:=Nat.eq_of_beq_eq_true h3;subst e;cases h;exact ac3 _ _ _ (Nat.le_of_ble_eq_true h4)
      ·cases h
    | false=>
     simp only [h3] at h;split at h
     ·rename_i h4;have e:=Nat.eq_of_beq_eq_true h4;subst e;cases h;exact Spec.le (Gq []) ⟨WB nofun,trivial⟩ trivial
     ·cases h
 ·cases h
theorem adx (gf:FuncId) (caps:List AV) (len:Nat) (e0 e1:Nat→AV) (h:itX gf caps=some (len,e0,e1)):sj Tryz.prog gf caps len e0 e1∧∀v∈caps,∃cs,v=.ro cs:=by
 unfold itX at h;split at h
 ·rename_i g hb;have e:=Nat.eq_of_beq_eq_true hb;subst e;cases h;refine ⟨?_,fun v hv=>by simp at hv; exact ⟨_,hv⟩⟩;obtain ⟨h1,h2⟩:=Kc [] (by decide);have hle:Le (.ro [.sl 5 0 false g]) (.ro [aJ []]):=Le.roL ⟨.sl rfl (fun h=>absurd rfl h) nofun fun i hi=>absurd hi (Nat.not_lt_zero i),trivial⟩;refine ⟨h1,fun w I lb hI hl hp=>h2 w I lb hI hl fun j hj=>?_⟩;have:=hp j hj;match j,hj with
  | 0,_=>exact (QL hle).1 _ this
 ·cases h
theorem abd:ZL kx fns abb itX 50 6 [] []=.ok (.bool true,[]):=by kernel_rfl
theorem nY {r:Bool} (hm:qU r):S 6 [] [] (.bool r) []:=by
 have hm:r=true:=hm;subst hm;exact T9 (c1:=kx.cfg) (c2:=cfg) rfl (VD (x:=kx) (fns:=fns) (ext:=abb) (it:=itX) adx ac0
  (fun f fn h=>XY acf acg (by have:=kR.TQ fns 1 0 f (by decide); rw [Nat.one_mul,Nat.add_zero] at this; rw [this]; exact h))
  (fun f a o r o' h=>T9 (c1:=cfg) (c2:=kx.cfg) rfl (ac7 f a o r o' h)) 50 6 [] [] _ _ abd)
end Go.Proofs.YtfblhejmclcdmaaGreatDoor



namespace Go.Proofs.YtfblhejmclcdmaaGreatDoor
open Go.Ab
set_option maxRecDepth 100000
set_option maxHeartbeats 40000000
theorem KJ {o0_:aZ} {r:(bQ×(List aV)×(List Int)×bq×Bool×aZ)} (hm:x9 o0_ r):S 8 [.ptr 0 0 0] [.box [aC o0_.L,iV o0_.At]] (.iT [vX r.1,eu r.2.1,aC r.2.2.1,yG r.2.2.2.1,.bool r.2.2.2.2.1]) [.box [aC r.2.2.2.2.2.L,iV r.2.2.2.2.2.At]] :=sp Tryz.func8 rfl<|sb hm fun v1 hv1 hm=>cl (EA hv1)<|sb hm fun v2 hv2 hm=>cl (Ba hv2)<|sb hm fun v3 hv3 hm=>cl ((wP hv3).le ⟨.refl _,.refl _,(.sl rfl (fun h=>absurd rfl h) nofun (fun _ h=>absurd h (Nat.not_lt_zero _))),trivial⟩ trivial)<|lf hm (fun g1=>⟨[(0,.ptr 0 0 0),(2,.ptr 1 0 0),(5,.ptr 2 0 0),(7,.ptr 3 0 0),(8,eu v2.1),(9,.ptr 4 0 0),(10,.bool v3.2),(11,.bP 5 0 g1.2.2.2.2.2.2.2.2.2.length false),(27,iV (v2.1.length:Int)),(28,iV g1.1)],[(0,some (.box [aC g1.2.1,iV g1.2.2.1])),(1,some (.box [.sl 0 0 true dB,.sl 0 0 true dB,iV (0:Int),.sl 0 0 true dB,.sl 0 0 true dB,.sl 0 0 true dB])),(2,some (.box [.sl 0 0 true dB,.sl 0 0 true dB,.sl 0 0 true dB,.sl 0 0 true dB,.sl 0 0 true dB,.sl 0 0 true dB])),(3,some (.box [aN v1.1.bY,aJ v1.1.bH,iV v1.1.bE.bT,aT v1.1.bE.Groups,bO v1.1.Resets,bG v1.1.cK])),(4,some (.box [aC g1.2.2.2.1,aS g1.2.2.2.2.1,aC g1.2.2.2.2.2.1,dx g1.2.2.2.2.2.2.1,aS g1.2.2.2.2.2.2.2.1,aS g1.2.2.2.2.2.2.2.2.1])),(5,some (.row 1 g1.2.2.2.2.2.2.2.2.2.length (aX iV 0 g1.2.2.2.2.2.2.2.2.2)))],6⟩) [(2,some 25),(3,some 57),(4,some 153),(5,none)] [] <|fun self1 g1 hm=>si hm (fun _ hm=>sn hm fun _ hm=>sn hm fun _ hm=>sb hm fun v8 hv8 hm=>cl ((wP hv8).le ⟨.refl _,.refl _,(.sl oz (fun _=>rfl) nofun (le_appG rfl (fun _ _=>.refl _) rfl (le_litG iV 0 [g1.1]))),trivial⟩ trivial)<|si hm (fun _ hm=>sb hm fun v9 hv9 hm=>cl (aO hv9)<|si hm (fun _ hm=>sn hm fun _ hm=>sn hm fun _ hm=>lc [(5,some 246)] [] hm) fun _ hm=>sn hm fun _ hm=>le hm) fun c8 hm=>by
 refine ⟨(fun q0=>absurd q0 (YK c8)),?_⟩
 (conv=>whnf)
 refine aH hm fun h20 hm=>?_
 (conv=>whnf)
 refine aH hm fun h21 hm=>?_
 (conv=>whnf)
 exact ⟨((g1.1+(1:Int)),g1.2.1,g1.2.2.1,g1.2.2.2.1,g1.2.2.2.2.1,g1.2.2.2.2.2.1,g1.2.2.2.2.2.2.1,g1.2.2.2.2.2.2.2.1,g1.2.2.2.2.2.2.2.2.1,g1.2.2.2.2.2.2.2.2.2),[],[],hm,⟨rfl,⟨r4,r4,r4,r4,sr,r4,rfl,⟨rfl,rfl,rfl,rfl,nofun⟩,r2,r2,trivial⟩,⟨⟨sf,r2,trivial⟩,⟨sr,sr,r2,sr,sr,sr,trivial⟩,⟨sr,sr,sr,sr,sr,sr,trivial⟩,⟨sr,sr,r2,sr,sr,sr,trivial⟩,⟨sf,sf,sf,sf,sf,sf,trivial⟩,⟨rfl,rfl,(fun _ _=>.refl _)⟩,trivial⟩⟩⟩) fun _ hm=>by cases hm;exact rt [5] []
theorem EI {o0_:aZ} {r:(dP×aZ)} (hm:nS o0_ r):S 12 [.ptr 0 0 0] [.box [aC o0_.L,iV o0_.At]] (GJ r.1) [.box [aC r.2.L,iV r.2.At]] :=sp Tryz.func12 rfl<|sb hm fun v1 hv1 hm=>cl ((dz hv1).le ⟨.refl _,(.sl rfl (fun _=>rfl) nofun (le_litG iV 0 [(1:Int),(2:Int),(3:Int),(10:Int),(11:Int),(12:Int),(9:Int)])),trivial⟩ ⟨kT _,trivial⟩)<|sb hm fun v2 hv2 hm=>cl (eX hv2)<|sb hm fun v3 hv3 hm=>cl (eX hv3)<|by cases hm;exact re
theorem LP {g_:bq} {r:((List Int)×(List Bool)×(List Int)×(List aL)×(List Bool)×(List Bool))} (hm:AA g_ r):S 37 [yG g_] [] (.agg [.bP 0 0 r.1.length false,.bP 1 0 r.2.1.length false,.bP 2 0 r.2.2.1.length false,.bP 3 0 r.2.2.2.1.length false,.bP 4 0 r.2.2.2.2.1.length false,.bP 5 0 r.2.2.2.2.2.length false]) [.row 1 r.1.length (aX iV 0 r.1),.row 1 r.2.1.length (aX AV.bool false r.2.1),.row 1 r.2.2.1.length (aX iV 0 r.2.2.1),.row 3 r.2.2.2.1.length (aX gF bS r.2.2.2.1),.row 1 r.2.2.2.2.1.length (aX AV.bool false r.2.2.2.2.1),.row 1 r.2.2.2.2.2.length (aX AV.bool false r.2.2.2.2.2)] :=sp Tryz.func37 rfl<|sn hm fun _ hm=>sn hm fun _ hm=>sn hm fun _ hm=>sn hm fun _ hm=>sn hm fun _ hm=>sn hm fun _ hm=>by cases hm;exact rt [] [(0,some 32),(1,some 80),(2,some 112),(3,some 160),(4,some 200),(5,some 240)]
theorem KL {b_:bQ} {g_:bq} {w_:dP} {r:(bq×Int)} (hm:yc b_ g_ w_ r):S 13 [vX b_,yG g_,GJ w_] [] (.iT [yG r.1,iV r.2]) [] :=TJ [17,37] Tryz.func13 rfl<|ck [17,37] (fU g_ w_) r (fun g1=>⟨[(4,.ptr 0 0 0),(5,.ptr 1 0 0),(6,.ptr 2 0 0),(8,iV g1.1),(9,.bool g1.2)],[(0,some (.box [aC g_.Setting,aS g_.Rails.On,aC g_.Rails.Level,dx g_.Uses,aS g_.Released,aS g_.Powered])),(1,some (.box [iV w_.Kind,iV w_.Unit,iV w_.Value])),(2,some (.box [.sl 0 0 true dB,.sl 0 0 true dB,.sl 0 0 true dB,.sl 0 0 true dB,.sl 0 0 true dB,.sl 0 0 true dB]))],3⟩) (si hm (fun _ hm=>lc [(0,some 8),(1,some 16),(2,some 24)] [] hm) fun _ hm=>si hm (fun _ hm=>lc [(0,some 8),(1,some 16),(2,some 24)] [] hm) fun _ hm=>si hm (fun _ hm=>lc [(0,some 8),(1,some 16),(2,some 24)] [] hm) fun _ hm=>si hm (fun _ hm=>lc [(0,some 8),(1,some 16),(2,some 24)] [] hm) fun _ hm=>si hm (fun _ hm=>lc [(0,some 8),(1,some 16),(2,some 24)] [] hm) fun _ hm=>si hm (fun _ hm=>lc [(0,some 8),(1,some 16),(2,some 24)] [] hm) fun _ hm=>by cases hm;exact re) fun g1 hm=>si hm (fun _ hm=>by cases hm;exact re) fun _ hm=>sb hm fun v1 hv1 hm=>cl (LP hv1)<|si hm (fun _ hm=>sn hm fun _ hm=>by cases hm;exact rt [187,188,189,190,191,192] [] (by (conv=>whnf);exact ⟨⟨rfl,trivial,trivial⟩,(by (conv=>whnf); exact ⟨(by (conv=>whnf); exact ⟨(by (conv=>whnf); exact ⟨oz,(fun _=>rfl),nofun,(uK (fun _ _=>.refl _) rfl (.refl _))⟩),(by (conv=>whnf); exact ⟨(by (conv=>whnf); exact sf),(by (conv=>whnf); exact ⟨(by (conv=>whnf); exact sf),(by (conv=>whnf); exact ⟨(by (conv=>whnf); exact sf),(by (conv=>whnf); exact ⟨(by (conv=>whnf); exact sf),(by (conv=>whnf); exact ⟨(by (conv=>whnf); exact sf),trivial⟩)⟩)⟩)⟩)⟩)⟩),(by (conv=>whnf); exact ⟨(by first | ((conv=>whnf); exact r2) | exact r2),trivial⟩)⟩)⟩)) fun _ hm=>si hm (fun _ hm=>sn hm fun _ hm=>by cases hm;exact rt [187,188,189,190,191,192] [] (by (conv=>whnf);exact ⟨⟨rfl,trivial,trivial⟩,(by (conv=>whnf); exact ⟨(by (conv=>whnf); exact ⟨(by (conv=>whnf); exact sf),(by (conv=>whnf); exact ⟨(by (conv=>whnf); exact sf),(by (conv=>whnf); exact ⟨(by (conv=>whnf); exact ⟨oz,(fun _=>rfl),nofun,(uK (fun _ _=>.refl _) rfl (.refl _))⟩),(by (conv=>whnf); exact ⟨(by (conv=>whnf); exact sf),(by (conv=>whnf); exact ⟨(by (conv=>whnf); exact sf),(by (conv=>whnf); exact ⟨(by (conv=>whnf); exact sf),trivial⟩)⟩)⟩)⟩)⟩)⟩),(by (conv=>whnf); exact ⟨(by first | ((conv=>whnf); exact r2) | exact r2),trivial⟩)⟩)⟩)) fun _ hm=>si hm (fun _ hm=>sn hm fun _ hm=>by cases hm;exact rt [187,188,189,190,191,192] [] (by (conv=>whnf);exact ⟨⟨rfl,trivial,trivial⟩,(by (conv=>whnf); exact ⟨(by (conv=>whnf); exact ⟨(by (conv=>whnf); exact sf),(by (conv=>whnf); exact ⟨(by (conv=>whnf); exact ⟨oz,(fun _=>rfl),nofun,(uK (fun _ _=>.refl _) rfl (.refl _))⟩),(by (conv=>whnf); exact ⟨(by (conv=>whnf); exact sf),(by (conv=>whnf); exact ⟨(by (conv=>whnf); exact sf),(by (conv=>whnf); exact ⟨(by (conv=>whnf); exact sf),(by (conv=>whnf); exact ⟨(by (conv=>whnf); exact sf),trivial⟩)⟩)⟩)⟩)⟩)⟩),(by (conv=>whnf); exact ⟨(by first | ((conv=>whnf); exact r2) | exact r2),trivial⟩)⟩)⟩)) fun _ hm=>si hm (fun _ hm=>sn hm fun _ hm=>by cases hm;exact rt [187,188,189,190,191,192] [] (by (conv=>whnf);exact ⟨⟨rfl,trivial,trivial⟩,(by (conv=>whnf); exact ⟨(by (conv=>whnf); exact ⟨(by (conv=>whnf); exact sf),(by (conv=>whnf); exact ⟨(by (conv=>whnf); exact sf),(by (conv=>whnf); exact ⟨(by (conv=>whnf); exact sf),(by (conv=>whnf); exact ⟨(by (conv=>whnf); exact sf),(by (conv=>whnf); exact ⟨(by (conv=>whnf); exact ⟨oz,(fun _=>rfl),nofun,(uK (fun _ _=>.refl _) rfl (.refl _))⟩),(by (conv=>whnf); exact ⟨(by (conv=>whnf); exact sf),trivial⟩)⟩)⟩)⟩)⟩)⟩),(by (conv=>whnf); exact ⟨(by first | ((conv=>whnf); exact r2) | exact r2),trivial⟩)⟩)⟩)) fun _ hm=>si hm (fun _ hm=>sn hm fun _ hm=>by cases hm;exact rt [187,188,189,190,191,192] [] (by (conv=>whnf);exact ⟨⟨rfl,trivial,trivial⟩,(by (conv=>whnf); exact ⟨(by (conv=>whnf); exact ⟨(by (conv=>whnf); exact sf),(by (conv=>whnf); exact ⟨(by (conv=>whnf); exact sf),(by (conv=>whnf); exact ⟨(by (conv=>whnf); exact sf),(by (conv=>whnf); exact ⟨(by (conv=>whnf); exact sf),(by (conv=>whnf); exact ⟨(by (conv=>whnf); exact sf),(by (conv=>whnf); exact ⟨(by (conv=>whnf); exact ⟨oz,(fun _=>rfl),nofun,(uK (fun _ _=>.refl _) rfl (.refl _))⟩),trivial⟩)⟩)⟩)⟩)⟩)⟩),(by (conv=>whnf); exact ⟨(by first | ((conv=>whnf); exact r2) | exact r2),trivial⟩)⟩)⟩)) fun _ hm=>si hm (fun _ hm=>ck [17,37] (nT w_ v1) r (fun g3=>⟨[(4,.ptr 0 0 0),(5,.ptr 1 0 0),(6,.ptr 2 0 0)],[(0,some (.box [.bP 3 0 v1.1.length false,.bP 4 0 v1.2.1.length false,.bP 5 0 v1.2.2.1.length false,.bP 6 0 g3.1 false,.bP 7 0 v1.2.2.2.2.1.length false,.bP 8 0 v1.2.2.2.2.2.length false])),(1,some (.box [iV w_.Kind,iV w_.Unit,iV w_.Value])),(2,some (.box [.sl 0 0 true dB,.sl 0 0 true dB,.sl 0 0 true dB,.sl 0 0 true dB,.sl 0 0 true dB,.sl 0 0 true dB])),(3,some (.row 1 v1.1.length (aX iV 0 v1.1))),(4,some (.row 1 v1.2.1.length (aX AV.bool false v1.2.1))),(5,some (.row 1 v1.2.2.1.length (aX iV 0 v1.2.2.1))),(6,some (.row 3 g3.2.length (aX gF bS g3.2))),(7,some (.row 1 v1.2.2.2.2.1.length (aX AV.bool false v1.2.2.2.2.1))),(8,some (.row 1 v1.2.2.2.2.2.length (aX AV.bool false v1.2.2.2.2.2)))],9⟩) (Lx [17,37] hm (fun g4=>⟨[(4,.ptr 0 0 0),(5,.ptr 1 0 0),(6,.ptr 2 0 0),(10,iV g4)],[(0,some (.box [.bP 3 0 v1.1.length false,.bP 4 0 v1.2.1.length false,.bP 5 0 v1.2.2.1.length false,.bP 6 0 v1.2.2.2.1.length false,.bP 7 0 v1.2.2.2.2.1.length false,.bP 8 0 v1.2.2.2.2.2.length false])),(1,some (.box [iV w_.Kind,iV w_.Unit,iV w_.Value])),(2,some (.box [.sl 0 0 true dB,.sl 0 0 true dB,.sl 0 0 true dB,.sl 0 0 true dB,.sl 0 0 true dB,.sl 0 0 true dB])),(3,some (.row 1 v1.1.length (aX iV 0 v1.1))),(4,some (.row 1 v1.2.1.length (aX AV.bool false v1.2.1))),(5,some (.row 1 v1.2.2.1.length (aX iV 0 v1.2.2.1))),(6,some (.row 3 v1.2.2.2.1.length (aX gF bS v1.2.2.2.1))),(7,some (.row 1 v1.2.2.2.2.1.length (aX AV.bool false v1.2.2.2.2.1))),(8,some (.row 1 v1.2.2.2.2.2.length (aX AV.bool false v1.2.2.2.2.2)))],9⟩) [(3,some 187),(4,some 188),(5,some 189),(6,some 190),(7,some 191),(8,some 192)] [] <|fun self4 g4 hm=>si hm (fun _ hm=>sn hm fun _ hm=>si hm (fun _ hm=>sn hm fun _ hm=>sn hm fun _ hm=>sn hm fun _ hm=>sn hm fun _ hm=>lce [] [] hm ⟨rfl,⟨r4,r4,r4,trivial⟩,⟨⟨⟨rfl,rfl,rfl,rfl,nofun⟩,⟨rfl,rfl,rfl,rfl,nofun⟩,⟨rfl,rfl,rfl,rfl,nofun⟩,⟨rfl,rfl,rfl,rfl,nofun⟩,⟨rfl,rfl,rfl,rfl,nofun⟩,⟨rfl,rfl,rfl,rfl,nofun⟩,trivial⟩,⟨r2,r2,r2,trivial⟩,⟨sr,sr,sr,sr,sr,sr,trivial⟩,⟨rfl,rfl,(fun _ _=>.refl _)⟩,⟨rfl,rfl,(fun _ _=>.refl _)⟩,⟨rfl,rfl,(fun _ _=>.refl _)⟩,⟨rfl,oz,(U1 rfl (fun _ _=>.refl _) oz (PY (a:=(0+(g4+(1:Int)).toNat)) (N:=v1.2.2.2.1.length) (fun _ _=>.refl _) (by first | omega | (simp; omega))))⟩,⟨rfl,rfl,(fun _ _=>.refl _)⟩,⟨rfl,rfl,(fun _ _=>.refl _)⟩,trivial⟩⟩) fun _ hm=>sn hm fun _ hm=>le hm) fun _ hm=>le hm) fun g3 hm=>by
 have h26:=hm.1
 have hm:=hm.2
 refine dG hm (fun c20 hm=>?_) (fun c20 hm=>?_)
 ·(conv=>whnf)
  refine aH hm fun h24 hm=>?_
  (conv=>whnf)
  refine aH hm fun h25 hm=>?_
  (conv=>whnf)
  have hm:r=((⟨v1.1,(⟨v1.2.1,v1.2.2.1⟩:bF),((g3.2.take (g3.1))++([(⟨(-1:Int),(⟨w_.Unit,(w_.Value - (1:Int))⟩:ql)⟩:aL)]:List aL)),v1.2.2.2.2.1,v1.2.2.2.2.2⟩:bq),(0:Int)):=hm
  subst hm
  refine ⟨[3,4,5,113,7,8],[],?_⟩
  (conv=>whnf)
  exact ⟨⟨rfl,trivial,trivial⟩,(by (conv=>whnf); exact ⟨(by (conv=>whnf); exact ⟨(by (conv=>whnf); exact sf),(by (conv=>whnf); exact ⟨(by (conv=>whnf); exact sf),(by (conv=>whnf); exact ⟨(by (conv=>whnf); exact sf),(by (conv=>whnf); exact ⟨(by (conv=>whnf); exact ⟨oz,(fun _=>rfl),nofun,(le_appG oz (le_rtake (f:=gF) (d:=bS) (by first | omega | (simp; omega))) rfl (le_litG gF bS [(⟨(-1:Int),(⟨w_.Unit,(w_.Value - (1:Int))⟩:ql)⟩:aL)]))⟩),(by (conv=>whnf); exact ⟨(by (conv=>whnf); exact sf),(by (conv=>whnf); exact ⟨(by (conv=>whnf); exact sf),trivial⟩)⟩)⟩)⟩)⟩)⟩),(by (conv=>whnf); exact ⟨(by first | ((conv=>whnf); exact r2) | exact r2),trivial⟩)⟩)⟩
 ·(conv=>whnf)
  have hm:r=((⟨v1.1,(⟨v1.2.1,v1.2.2.1⟩:bF),(g3.2.take (g3.1)),v1.2.2.2.2.1,v1.2.2.2.2.2⟩:bq),(0:Int)):=hm
  subst hm
  refine ⟨[3,4,5,6,7,8],[],?_⟩
  (conv=>whnf)
  exact ⟨⟨rfl,trivial,trivial⟩,(by (conv=>whnf); exact ⟨(by (conv=>whnf); exact ⟨(by (conv=>whnf); exact sf),(by (conv=>whnf); exact ⟨(by (conv=>whnf); exact sf),(by (conv=>whnf); exact ⟨(by (conv=>whnf); exact sf),(by (conv=>whnf); exact ⟨(by (conv=>whnf); exact ⟨oz,(fun _=>rfl),nofun,(le_rtake (f:=gF) (d:=bS) (by first | omega | (simp; omega)))⟩),(by (conv=>whnf); exact ⟨(by (conv=>whnf); exact sf),(by (conv=>whnf); exact ⟨(by (conv=>whnf); exact sf),trivial⟩)⟩)⟩)⟩)⟩)⟩),(by (conv=>whnf); exact ⟨(by first | ((conv=>whnf); exact r2) | exact r2),trivial⟩)⟩)⟩) fun _ hm=>by cases hm;exact rt [187,188,189,190,191,192] [] (by (conv=>whnf);exact ⟨⟨rfl,trivial,trivial⟩,(by (conv=>whnf); exact ⟨(by (conv=>whnf); exact ⟨(by (conv=>whnf); exact sf),(by (conv=>whnf); exact ⟨(by (conv=>whnf); exact sf),(by (conv=>whnf); exact ⟨(by (conv=>whnf); exact sf),(by (conv=>whnf); exact ⟨(by (conv=>whnf); exact sf),(by (conv=>whnf); exact ⟨(by (conv=>whnf); exact sf),(by (conv=>whnf); exact ⟨(by (conv=>whnf); exact sf),trivial⟩)⟩)⟩)⟩)⟩)⟩),(by (conv=>whnf); exact ⟨(by first | ((conv=>whnf); exact r2) | exact r2),trivial⟩)⟩)⟩)
theorem Cm {a_:(List Int)} {b_:(List Int)} {r:Bool} (hm:wC a_ b_ r):S 41 [aC a_,aC b_] [] (.bool r) [] :=sp Tryz.func41 rfl<|si hm (fun _ hm=>by cases hm;exact re) fun _ hm=>l0 hm (fun g1=>⟨[(0,aC a_),(1,aC b_),(5,iV g1)],[],0⟩) <|fun self1 g1 hm=>si hm (fun _ hm=>sn hm fun _ hm=>sn hm fun _ hm=>si hm (fun _ hm=>by cases hm;exact re) fun _ hm=>sn hm fun _ hm=>le hm) fun _ hm=>by cases hm;exact re
theorem rG {a_:(List Bool)} {b_:(List Bool)} {r:Bool} (hm:oL a_ b_ r):S 44 [aS a_,aS b_] [] (.bool r) [] :=sp Tryz.func44 rfl<|si hm (fun _ hm=>by cases hm;exact re) fun _ hm=>l0 hm (fun g1=>⟨[(0,aS a_),(1,aS b_),(5,iV g1)],[],0⟩) <|fun self1 g1 hm=>si hm (fun _ hm=>sn hm fun _ hm=>sn hm fun _ hm=>si hm (fun _ hm=>by cases hm;exact re) fun _ hm=>sn hm fun _ hm=>le hm) fun _ hm=>by cases hm;exact re
theorem EJ {a_:bF} {b_:bF} {r:Bool} (hm:nU a_ b_ r):S 42 [Dk a_,Dk b_] [] (.bool r) [] :=sp Tryz.func42 rfl<|sb hm fun v1 hv1 hm=>cl (rG hv1)<|sb hm fun v2 hv2 hm=>cl (fun q0=>(Cm (hv2 q0)))<|by cases hm;exact re
theorem Hy {a_:(List aL)} {b_:(List aL)} {r:Bool} (hm:rP a_ b_ r):S 43 [dx a_,dx b_] [] (.bool r) [] :=sp Tryz.func43 rfl<|si hm (fun _ hm=>by cases hm;exact re) fun _ hm=>l0 hm (fun g1=>⟨[(0,dx a_),(1,dx b_),(5,iV g1)],[],0⟩) <|fun self1 g1 hm=>si hm (fun _ hm=>sn hm fun _ hm=>sn hm fun _ hm=>si hm (fun _ hm=>by cases hm;exact re) fun _ hm=>sn hm fun _ hm=>le hm) fun _ hm=>by cases hm;exact re
theorem Cn {a_:bq} {b_:bq} {r:Bool} (hm:wD a_ b_ r):S 15 [yG a_,yG b_] [] (.bool r) [] :=sp Tryz.func15 rfl<|sb hm fun v1 hv1 hm=>cl (Cm hv1)<|sb hm fun v2 hv2 hm=>cl (fun q0=>(EJ (hv2 q0)))<|sb hm fun v3 hv3 hm=>cl (fun q0=>(Hy (hv3 q0)))<|sb hm fun v4 hv4 hm=>cl (fun q0=>(rG (hv4 q0)))<|sb hm fun v5 hv5 hm=>cl (fun q0=>(rG (hv5 q0)))<|by cases hm;exact re
theorem FN {t_:(List Int)} {at_:Int} {r:Bool} (hm:wE t_ at_ r):S 4 [aC t_,.int .u8 at_] [] (.bool r) [] :=TJ [13] Tryz.func4 rfl<|si hm (fun _ hm=>sb hm fun v1 hv1 hm=>cl (nY hv1)<|by cases hm;exact re) fun _ hm=>sb hm fun v2 hv2 hm=>cl (NW hv2)<|sb hm fun v3 hv3 hm=>cl (KJ hv3)<|ck [13] (kM at_ v3) r (fun g2=>⟨[(1,.int .u8 at_),(6,.ptr 0 0 0),(7,eu v3.2.1),(8,aC v3.2.2.1),(9,.ptr 1 0 0),(11,L9 g2)],[(0,some (.box [aN v3.1.bY,aJ v3.1.bH,iV v3.1.bE.bT,aT v3.1.bE.Groups,bO v3.1.Resets,bG v3.1.cK])),(1,some (.box [aC v3.2.2.2.1.Setting,aS v3.2.2.2.1.Rails.On,aC v3.2.2.2.1.Rails.Level,dx v3.2.2.2.1.Uses,aS v3.2.2.2.1.Released,aS v3.2.2.2.1.Powered]))],2⟩) (sb hm fun v20 hv20 hm=>cl (aO hv20)<|Lx [13] hm (fun g3=>⟨[(1,.int .u8 at_),(5,.ptr 0 0 0),(6,.ptr 1 0 0),(7,eu v3.2.1),(8,aC v3.2.2.1),(9,.ptr 2 0 0),(11,.bP 3 0 g3.2.2.2.length false),(12,iV g3.1)],[(0,some (.box [aC g3.2.1,iV g3.2.2.1])),(1,some (.box [aN v3.1.bY,aJ v3.1.bH,iV v3.1.bE.bT,aT v3.1.bE.Groups,bO v3.1.Resets,bG v3.1.cK])),(2,some (.box [aC v3.2.2.2.1.Setting,aS v3.2.2.2.1.Rails.On,aC v3.2.2.2.1.Rails.Level,dx v3.2.2.2.1.Uses,aS v3.2.2.2.1.Released,aS v3.2.2.2.1.Powered])),(3,some (.row 3 g3.2.2.2.length (aX GJ tu g3.2.2.2)))],4⟩) [(0,some 40),(1,some 120),(2,some 128),(3,none)] [] <|fun self3 g3 hm=>si hm (fun _ hm=>sb hm fun v25 hv25 hm=>cl (EI hv25)<|sb hm fun v26 hv26 hm=>cl (KL hv26)<|si hm (fun _ hm=>sn hm fun _ hm=>sn hm fun _ hm=>lc [(3,some 172)] [] hm) fun _ hm=>sn hm fun _ hm=>le hm) fun _ hm=>lc [(0,some 1),(1,some 2)] [3] hm) fun g2 hm=>sb hm fun v11 hv11 hm=>cl (mM hv11)<|sn hm fun _ hm=>sn hm fun _ hm=>si hm (fun _ hm=>sn hm fun _ hm=>sb hm fun v12 hv12 hm=>cl ((mM hv12).le ⟨.refl _,.refl _,.refl _,.refl _,(.sl oz (fun _=>rfl) nofun (le_rtake (f:=GJ) (d:=tu) (by first | omega | (simp; omega)))),trivial⟩ trivial)<|sb hm fun v13 hv13 hm=>cl (fun q0=>(nY (hv13 q0)))<|by cases hm;exact re) fun _ hm=>sn hm fun _ hm=>sb hm fun v14 hv14 hm=>cl ((mM hv14).le ⟨.refl _,.refl _,.refl _,.refl _,(.sl oz (fun _=>rfl) nofun (le_rtake (f:=GJ) (d:=tu) (by first | omega | (simp; omega)))),trivial⟩ trivial)<|si hm (fun _ hm=>by cases hm;exact re) fun _ hm=>si hm (fun _ hm=>sb hm fun v15 hv15 hm=>cl (fun q0=>(Cn (hv15 q0)))<|sb hm fun v16 hv16 hm=>cl (fun q0=>(nY (hv16 q0)))<|by cases hm;exact re) fun _ hm=>si hm (fun _ hm=>by cases hm;exact re) fun _ hm=>sn hm fun _ hm=>sb hm fun v17 hv17 hm=>cl ((mM hv17).le ⟨.refl _,.refl _,.refl _,.refl _,(.sl oz (fun _=>rfl) nofun (le_shiftG (a:=((IntKind.i64.wrap at_).tmod ((g2.length:Int)+(1:Int))).toNat) (N:=g2.length) (fun _ _=>.refl _) (by first | omega | (simp; omega)))),trivial⟩ trivial)<|sb hm fun v18 hv18 hm=>cl (fun q0=>(Cn (hv18 q0)))<|sn hm fun _ hm=>sn hm fun _ hm=>sb hm fun v19 hv19 hm=>cl (fun q0=>(nY (hv19 q0)))<|by cases hm;exact re
end Go.Proofs.YtfblhejmclcdmaaGreatDoor



namespace Go.Proofs.YtfblhejmclcdmaaGreatDoor.rulesCut
open Go.ChangeShapes Go.WideShapes Go.ChangeAt Go.RowKit
open Go.Ab
set_option maxRecDepth 100000
theorem spec (l:List Int) (a:Int) (h:0≤a∧a≤255):S 4 [aC l,.int .u8 a] [] (.bool true) []:=by
 obtain ⟨r,h1,h2⟩:=Ka (t_:=l) h.1 h.2;subst h2;exact FN h1
theorem contract (H:Type) (enc:TypeId×Value→H) (W:World) (base:Nat) (args:Array Value) (ds gs:List (DataW H)) (before:List MemPlace)
  (hval:∀(j:Nat) t v,Tryz.f4.params[j]? = some t→args[j]? = some v→Value.okWide Tryz.prog W .any base t v)
  (hW:DataW.Whole enc Tryz.prog Tryz.f4.params.toList Rows.rulesCutSpec.vars false W args.toList ds gs before) (hL:laidMetH Tryz.prog Rows.rulesCutRow.laid W):
  Calls Tryz.prog 4 args W fun e W'=>∃v,e=.returned v∧Rows.rulesCutSpec.post enc Tryz.prog Tryz.f4 false true false false W args v W':=by
 have hW':=hW;obtain ⟨p,q,hA0,hV,rfl,hfz,hnd⟩:=hW;have hA:DataW.TrodAll enc Tryz.prog W 0 (fun _=>true) true Tryz.f4.params.toList args.toList ds p:=hA0;rw [Tryz.params4] at hA hval;obtain ⟨v0,v1,d0,d1,p0,p1,rfl,rfl,rfl,h0,h1⟩:=trodAll_two hA;obtain ⟨rfl,rfl⟩:=trodVars_none hV;have h0k:=h0;obtain ⟨l,hl,hr⟩:=Vg (hval 0 22 v0 rfl rfl) h0;have h1k:=h1;obtain ⟨n,rfl,rfl,rfl,hwf⟩:=open_int Tryz.underlying5 (hval 1 5 v1 rfl rfl) h1;have hn:0≤n∧n≤255:=by
  simp only [Lit.wf,Bool.and_eq_true,decide_eq_true_eq] at hwf;exact hwf
 clear hA0;simp only [List.append_nil] at hW';have hlt:∀x∈p0,x.block<W.heap.size:=fun x hx=>by simpa using hW'.lt x (by simpa using hx)
 refine (aaX (spec l n hn) hL rfl (fun j hj=>?_)).mono fun e W' ⟨he,hb⟩=>?_
 ·match j,hj with
  | 0,_=>exact hr
  | 1,_=>exact .int _ _
 subst he;refine ⟨_,rfl,[d0,.lit (.int .u8 n)],[],p0++[],[],p0++[],[],by simpa using hW',trodAll_mk1 (shut_bool Tryz.underlying4 _),?_,rfl,hb.frame _,fun h=>by cases h⟩;rw [Tryz.params4];exact trodAll_mk2 (Below.trod laidOut (by kernel_rfl) (of_decide_eq_true (by kernel_rfl)) h0k hb hlt) (shut_int Tryz.underlying5 hwf)
noncomputable def KM (os:Os):World:=
 { World.holding Tryz.prog os ⟨#[],#[],[]⟩ with heap:=(World.holding Tryz.prog os ⟨#[],#[],[]⟩).heap.modify 0 fun
   | .cells _ t frozen=>.cells #[.int .i64 0,.int .i64 1] t frozen
   | o=>o }
theorem ZM (os:Os):laidMet Tryz.prog Rows.rulesCutRow.laid ((KM os).forCall (fun _ _=>0) ⟨#[],#[.slice none 0 0,.int .u8 0],[]⟩).memory:=
 laidMet_of_run' 8 (by kernel_rfl) (by kernel_rfl)
theorem reads (os:Os) {H:Type} (enc:TypeId×Value→H):∃places,DataW.whole enc Tryz.prog ((KM os).forCall (fun _ _=>0) ⟨#[],#[.slice none 0 0,.int .u8 0],[]⟩).memory Tryz.f4.params.toList Rows.rulesCutSpec.vars false #[Value.slice none 0 0,.int .u8 0].toList 8=some ([.nil,.lit (.int .u8 0)],[],places):=
 ⟨[],by kernel_rfl⟩
theorem lifted (os:Os) (started:os.Started) (H:Type) (enc:TypeId×Value→H) (F:Stop.Interp):
  ReturnsInHanded {} Tryz.checked os 4 .any ((OpenSpec.ofChange Rows.rulesCutSpec).preRow enc Tryz.prog Tryz.f4 Rows.rulesCutRow.domain false Rows.rulesCutRow.laid) (((OpenSpec.ofChange Rows.rulesCutSpec).at F).post enc Tryz.prog Tryz.f4 false true false false):=by
 obtain ⟨places,hx⟩:=reads os enc;refine returnsInHanded_of_row (C:=Tryz.checked) (s:=OpenSpec.ofChange Rows.rulesCutSpec) own started (by kernel_rfl) Tryz.func4
  (witness_row_at (enc:=enc) (C:=Tryz.checked) false (KM os) #[.slice none 0 0,.int .u8 0] rfl (by kernel_rfl) (by kernel_rfl) (by kernel_rfl)
    (OpenSpec.preRow_of_cond 8 hx (by kernel_rfl) (fun k hk=>by cases hk) (by kernel_rfl) (ZM os))) ?_
 intro W base args ds gs before hval hW _ _ _ hL _ _;exact contract H enc W base args ds gs before hval hW hL
theorem said:Rows.RulesCutSaid:=
 OpenClaim.holds_of_cond 4 Tryz.f4 rfl rfl rfl rfl rfl rfl rfl ⟨rfl,rfl,rfl,rfl,rfl⟩ rfl rfl rfl rfl rfl (by kernel_rfl) Tryz.func4 (by kernel_rfl)
  (of_decide_eq_true (by kernel_rfl)) (by unfold Func.isWrapper; first | (rw [if_pos (by decide +kernel)]; kernel_rfl) | (rw [if_neg (by decide +kernel)]; exact ⟨rfl,rfl⟩))
  (fun os started H enc _ F=>by rw [OpenClaim.pre_eq_preRow]; exact lifted os started H enc F)
theorem plain (f:FuncId) (fn:Func) (hf:Tryz.pinned.checked.prog.funcNamed "bringup/bringuplaw31.RulesCut" = some f) (hfn:Tryz.pinned.checked.prog.funcs[f]? = some fn):
  false=Tryz.pinned.checked.prog.looks []∧∀(j:Nat) t,fn.params[j]? = some t→Tryz.pinned.checked.prog.wantsStandIn t=false:=by
 obtain rfl:f=4:=Option.some.inj ((show Tryz.prog.funcNamed "bringup/bringuplaw31.RulesCut" = some 4 by kernel_rfl).symm.trans hf) |>.symm;obtain rfl:fn=Tryz.f4:=(Option.some.inj (Tryz.func4.symm.trans hfn)).symm;refine ⟨by kernel_rfl,fun j t ht=>?_⟩;rw [Tryz.params4] at ht;have ht:t∈#[22,5]:=Array.mem_of_getElem? ht;simp at ht;rcases ht with rfl | rfl
 ·exact (show Tryz.prog.wantsStandIn 22=false by kernel_rfl)
 ·exact (show Tryz.prog.wantsStandIn 5=false by kernel_rfl)
end Go.Proofs.YtfblhejmclcdmaaGreatDoor.rulesCut
namespace Go.Proofs.YtfblhejmclcdmaaGreatDoor
open Go.Ab
set_option maxRecDepth 100000
theorem rulesCut_card:Rows.RulesCutCardSaid:=
 Claim7.holds_tied_plain_at .later [] _ _ _ _ rulesCut.said (fun _ h=>by cases h) (by kernel_rfl) (fun _ h=>by cases h) rulesCut_row_tie rfl ⟨rfl,rfl⟩ (by kernel_rfl) rfl rulesCut.plain (by kernel_rfl)
end Go.Proofs.YtfblhejmclcdmaaGreatDoor

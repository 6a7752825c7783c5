/- An abstract machine over the model's code, that it is sound; models of the functions and their proofs. -/
import Derived.Test.YtccjmcmolnbiiaaGreatDoorCards
import Derived.Test.YtccjmcmolnbiiaaGreatDoorTie
import Derived.WalkKit
import Derived.ProofKit
import Derived.OpenShut
import Derived.Carry
import Derived.LaidMore
import Derived.Deep.DeepHandedRow
import Derived.Test.YtccjmcmolnbiiaaGreatDoorA7
import Derived.Test.YtccjmcmolnbiiaaGreatDoorA4
set_option linter.unusedVariables false
set_option linter.unusedSimpArgs false
namespace Go.Proofs.YtccjmcmolnbiiaaGreatDoor
open Go.ChangeShapes Go.WideShapes Go.ChangeAt Go.RowKit
open Go.Ab
set_option maxRecDepth 100000
theorem own:ownKnob Tryz.prog.godebug=none:=by kernel_rfl
theorem laidOut:laidOutB Tryz.prog=true:=by kernel_rfl
theorem auy:Tryz.prog.globalNamed "bringup/clock.off" = some 0:=by kernel_rfl
theorem auz:(Tryz.prog.globals[0]?).map (·.type)=some 226:=by kernel_rfl
theorem aoj:Tryz.prog.cellsOf 226=2:=by kernel_rfl
theorem cells3:Tryz.prog.cellsOf 3=1:=by kernel_rfl
abbrev amx:List (String×DataW Unit):=[("bringup/clock.off", Rows.laid_bringup_clock_off)]
variable {W:World}
theorem aok (h:laidMetH Tryz.prog amx W):W.cell? ⟨0,0,none⟩=some (.int .i64 0)∧W.cell? ⟨0,1,none⟩=some (.int .i64 1):=by
 rw [MakeChecks.laidMetH_plain _ _ _ (by kernel_rfl)] at h;obtain ⟨ps,⟨g0,t0,cs0,f0,p0,q0,hg0,ht0,hv0,hd0,_⟩,_,_⟩:=h;obtain rfl:=Option.some.inj (auy.symm.trans hg0);obtain rfl:=Option.some.inj (auz.symm.trans ht0);obtain ⟨y0,y1,n,hx,hl,h0,h1⟩:=trod_struct2 Tryz.underlying226 hd0;rw [aoj] at hl;simp only [Prod.mk.injEq,Rows.laid_bringup_clock_off,DataW.agg.injEq,List.cons.injEq] at hx;obtain ⟨k0,e1,e2,_⟩:=DataW.trod_int Tryz.underlying3 h0;obtain ⟨k1,e3,e4,_⟩:=DataW.trod_int Tryz.underlying3 h1;have hk0:k0=0:=by have:=hx.1.1; rw [e2] at this; simpa using this.symm
 have hk1:k1=1:=by have:=hx.1.2.1; rw [e4] at this; simpa using this.symm
 subst hk0; subst hk1;have c0:=World.var?_cell hg0 hv0 0;have c1:=World.var?_cell hg0 hv0 1;obtain ⟨l⟩:=cs0;match l,hl with
 | [a,b],_=>
  rw [cells3] at e1 e3
  simp at e1 e3
  subst e1; subst e3
  exact ⟨by simpa using c0,by simpa using c1⟩
def Old (W:World):Nat→Prop:=λ b=>b<W.heap.size
theorem auA (h:laidMetH Tryz.prog amx W):Rel cfg (MO W (Old W) (λ _=>none) 0) (hof []) (λ o=>o<0) W (Old W) (λ _=>none):=by
 obtain ⟨h0,h1⟩:=aok h;exact {
  dom:=λ o=>by simp [hof]
  used:=λ o p h=>by cases h
  objs:=λ o ob p _ h=>by cases h
  inj:=λ o o' p p' b bo sz b' qA sz' h=>by cases h
  qB:=λ o p b bo sz h=>by cases h
  lt:=λ o p b bo sz h=>by cases h
  BA:=λ b h=>h
  size:=Nat.le_refl _
  frame:=λ _ _ _=>rfl
  new:=λ o p b bo sz h=>by cases h
  glob:=λ g cs hg=>by
   have e:g=0∧cs=[.int .i64 0,.int .i64 1]:=by
    unfold cfg at hg
    simp only [Ab.look] at hg
    cases hb:Nat.beq 0 g with
    | true=>
     rw [hb] at hg
     have:=Nat.eq_of_beq_eq_true hb
     simp at hg
     exact ⟨this.symm,hg.symm⟩
    | false=>rw [hb] at hg; cases hg
   obtain ⟨rfl,rfl⟩:=e
   refine .ro 0 0 (λ j=>match j with | 0=>.int .i64 0 | _=>.int .i64 1) (World.block_lt_of_cell? _ _ h0) (λ j hj=>?_) (λ j hj=>?_)
   ·match j,hj with
    | 0,_=>exact h0
    | 1,_=>exact h1
   ·match j,hj with
    | 0,_=>exact .int _ _
    | 1,_=>exact .int _ _
  TT:=λ _ h=>h
  XE:=λ _ h=>.inl h
  ZL:=λ _ _=>.inl rfl
  Dm:=λ _ h=>h
  env:=⟨iI.refl _,λ _ _ h=>h.elim⟩
  maps:=λ o kd z f p b bo sz h=>by cases h }
variable {f:FuncId} {args:List AV}
theorem aol {vals:Array Value} (hs:S f args [] (.bool true) []) (hL:laidMetH Tryz.prog amx W) (hl:vals.size=args.length) (hr:∀j,j<args.length→iK W (Old W) (nth args j) (vals.getD j Go.undef)):
  Calls Tryz.prog f vals W λ e W'=>e=.returned (.bool true)∧Below W.heap.size W W':=by
 obtain ⟨_,_,hc⟩:=hs;refine (hc W (Old W) (λ _=>none) vals (auA hL) hl (λ j hj=>.pure (hr j hj))).mono λ e W' h=>?_;obtain ⟨x,I',O',rfl,hR,hx⟩:=h;have hb:x=.bool true:=hx.lY;subst hb;refine ⟨rfl,⟨hR.env.same.os,hR.env.same.tape,hR.env.same.output,hR.size,λ k hk=>hR.frame k hk ?_⟩⟩;rintro ⟨o,p,bo,sz,h,_⟩;cases h
theorem ahL {H:Type} {enc:TypeId×Value→H} {v:Value} {d:DataW H} {ps:List MemPlace} {base:Nat} (hv:Value.okWide Tryz.prog W .any base 22 v) (h:DataW.Trod enc Tryz.prog W 0 (λ _=>true) true 22 v d ps):∃l:List Int,I64 l∧iK W (Old W) (aC l) v:=by
 obtain ⟨a0,len,cap,rfl⟩:=okWide_slice Tryz.underlying22 hv;obtain ⟨fuel,hf⟩:=h;rcases open_ints Tryz.underlying22 Tryz.underlying3 cells3 hf with ⟨hcs,hx⟩ | ⟨a,len',cap',zs,hcs,_,hl,hm,hz,hx,hcell,hwz⟩
 ·simp [Value.cells] at hcs;obtain ⟨rfl,rfl,rfl⟩:=hcs;refine ⟨[],(λ x hx=>by cases hx),?_⟩;exact .sl 0 0 (λ _ _=>Go.undef) (Nat.le_refl _) nofun (λ h=>absurd rfl h) (λ i hi=>by cases hi) (λ i j hi=>by cases hi) (λ i j hi=>by cases hi) (λ i j hi=>by cases hi)
 ·simp [Value.cells] at hcs;obtain ⟨rfl,rfl,rfl⟩:=hcs;simp only [if_true] at hz;refine ⟨zs.take len,λ x hx=>?_,?_⟩
  ·have:=hwz x (List.mem_of_mem_take hx);simp only [Lit.wf,Bool.and_eq_true,decide_eq_true_eq] at this;exact this
  ·have hlen:(zs.take len).length=len:=by simp; omega
   unfold aC alh;rw [hlen];refine .sl a.block a.off (λ i _=>.int .i64 (zs.getD i 0)) hl nofun (λ hn=>?_) (λ i hi=>rfl) (λ i j hi hj=>?_) (λ i j hi hj=>rfl) (λ i j hi hj=>?_)
   ·have h0:=hcell 0 om;have hsp:=World.cell?_spot h0;have e:a.add 0=a:=by simp [Addr.add]
    rw [e] at hsp h0;refine ⟨by cases a; simp at hsp; subst hsp; rfl,World.block_lt_of_cell? _ _ h0⟩
   ·have hj0:j=0:=by omega
    subst hj0;have h0:=hcell 0 om;have hsp:=World.cell?_spot h0;have e:a.add 0=a:=by simp [Addr.add]
    rw [e] at hsp;have hi':=hcell i om;have e2:a.add i=⟨a.block,a.off+(i*1+0),none⟩:=by
     obtain ⟨b,off,sp⟩:=a;simp at hsp;subst hsp;rw [Addr.add_mid];simp
    rw [e2] at hi';exact hi'
   ·have hj0:j=0:=by omega
    subst hj0;have e:nth (bP iV 0 (zs.take len) i).cells 0=iV (zs.getD i 0):=by
     show iV ((zs.take len).getD i 0)=_;rw [getD_take zs 0 hi]
    rw [e];exact .int _ _
variable {p:Prop}
theorem z (h:p:=by
 repeat' first
  | with_reducible exact trivial
  | with_reducible exact rfl
  | with_reducible refine And.intro ?_ ?_
  | ((conv=>whnf); first
   | with_reducible refine And.intro ?_ ?_
   | with_reducible refine Emb.mk ?_ ?_ ?_
   | with_reducible exact trivial)
  | exact rfl
  | exact λ _ _=>Le.refl _
  | exact λ _=>rfl
  | exact id
  | exact λ h=>Bool.noConfusion h
  | exact Le.refl _
  | exact Sd.refl _
  | exact λ h=>absurd rfl h
  | exact λ _ h=>absurd h (Nat.not_lt_zero _)
  | exact alp (.refl _) rfl (Nat.lt_of_sub_pos (by exact Nat.zero_lt_succ _))
  | omega
  | (simp [iw]; done)
  | (simp [iw]; omega)
  | (simp [iw,TY]; done)
  | (simp [iw,TY]; omega)
  | refine FC ?_ ?_ ?_
  | refine jQ ?_ ?_ ?_ ?_
  | exact anL (λ _ _=>Le.refl _) (Le.refl _)
  | exact acB (λ _=>rfl)
  | exact jP om
  | exact gM _ _ _
  | exact Uj _ _
  | refine xq ?_ ?_
  | refine Le.Sl ?_
  | refine Le.sl ?_ ?_ ?_ ?_):p:=h
theorem dk (h:p:=by decide +kernel):p:=h
theorem oz (h:p:=by first | omega | (simp [iw]; done) | (simp [iw]; omega)):p:=h
theorem sr {n es:Nat} {f:Bool} {g:Nat→AV}:n=n∧(n≠0→es=es)∧(f=true→f=true)∧∀i,i<n→Le (g i) (g i):=⟨rfl,λ _=>rfl,id,λ _ _=>.refl _⟩
theorem sf {n es:Nat} {f:Bool} {g:Nat→AV}:n=n∧(n≠0→es=es)∧(false=true→f=true)∧∀i,i<n→Le (g i) (g i):=⟨rfl,λ _=>rfl,nofun,λ _ _=>.refl _⟩
variable {A:Type} {B:Type} {C:Type}
theorem r4 {D:Type} {a:A} {b:B} {c:C} {d:D}:a=a∧b=b∧c=c∧d=d:=⟨rfl,rfl,rfl,rfl⟩
theorem r2 {a:A} {b:B}:a=a∧b=b:=⟨rfl,rfl⟩
theorem sn {R:Type} {d:Decidable p} {m:M R} {r:R} {K:Prop} (hm:need p m r) (h:p→m r→K):p∧K:=⟨hm.1,h hm.1 hm.2⟩
theorem sq {A R B C : Type} {m : M A} {k : A → M R} {r : R} {p K : B → C → Prop} {a : A → B} {b : A → C} (hm : bnd m k r) (F : ∀ {v}, m v → p (a v) (b v)) (h : ∀ v, k v r → K (a v) (b v)) : ∃ a b, p a b ∧ K a b := iq hm λ v hv hm => ⟨a v, b v, F hv, h v hm⟩
theorem s2 {R:Type} {q:Prop} {d:Decidable p} {d2:Decidable q} {m:M R} {r:R} {K:Prop} (hm:need p (need q m) r) (h:p→q→m r→K):p∧q∧K:=⟨hm.1,hm.2.1,h hm.1 hm.2.1 hm.2.2⟩
theorem si {R:Type} {c:Bool} {x y:M R} {r:R} {A B:Prop} (hm:(cond c x y) r) (h1:c=true→x r→A) (h2:c=false→y r→B):ZC c A B:=iY hm h1 h2
theorem sb {R:Type} {m:M A} {k:A→M R} {r:R} {G:Prop} (hm:bnd m k r) (h:∀v,m v→k v r→G):G:=iq hm h
theorem cl {p K:A→B→Prop} {a:A} {b:B} (h:p a b) (k:K a b):∃a b,p a b∧K a b:=⟨a,b,h,k⟩
theorem re {P:List A→List B→Prop} (h:P [] []:=by exact z):∃a b,P a b:=⟨_,_,h⟩
theorem rt {P:A→B→Prop} (a:A) (b:B) (h:P a b:=by exact z):∃a b,P a b:=⟨_,_,h⟩
theorem lc {p:A→Prop} {E:A→B→C→Prop} {a:A} (b:B) (c:C) (hm:p a) (h:E a b c:=by exact z):∃a b c,p a∧E a b c:=⟨a,b,c,hm,h⟩
theorem lce {p:A→Prop} {E:A→B→C→Prop} {a:A} (b:B) (c:C) (hm:p a) (h:E a b c):∃a b c,p a∧E a b c:=⟨a,b,c,hm,h⟩
theorem le {p:A→Prop} {E:A→List B→List C→Prop} {a:A} (hm:p a) (h:E a [] []:=by exact z):∃a b c,p a∧E a b c:=⟨a,_,_,hm,h⟩
theorem spc (ct:List Nat) {fn:Func} {c:Code} {args:List AV} {obs:List dW} {r:AV} {fV:List dW} (hf:Tryz.prog.funcs[f]? = some fn) (hb:fn.body=some c)
  (h:lM cfg (Ab.Spec Tryz.prog cfg) ct (Loops Tryz.prog cfg fn.ntmps none obs.length) c ⟨KQ args 0,JM.pI obs 0,obs.length⟩ (ald cfg fn.results.toList obs.length r fV))
  (hnm:(fn.name == "runtime.NumGoroutine")=false:=by exact rfl)
  (hN:args.length≤fn.ntmps:=by exact Nat.le_of_ble_eq_true rfl) (hok:jf fn.ntmps c=true:=by decide +kernel) (hle:obs.length≤fV.length:=by exact Nat.le_of_ble_eq_true rfl):S f args obs r fV:=
 nW iX hf hb hnm hN hok hle h
theorem sp {fn:Func} {c:Code} {args:List AV} {obs:List dW} {r:AV} {fV:List dW} (hf:Tryz.prog.funcs[f]? = some fn) (hb:fn.body=some c)
  (h:lM cfg (Ab.Spec Tryz.prog cfg) [] (Loops Tryz.prog cfg fn.ntmps none obs.length) c ⟨KQ args 0,JM.pI obs 0,obs.length⟩ (ald cfg fn.results.toList obs.length r fV))
  (hnm:(fn.name == "runtime.NumGoroutine")=false:=by exact rfl)
  (hN:args.length≤fn.ntmps:=by exact Nat.le_of_ble_eq_true rfl) (hok:jf fn.ntmps c=true:=by decide +kernel) (hle:obs.length≤fV.length:=by exact Nat.le_of_ble_eq_true rfl):S f args obs r fV:=
 nW iX hf hb hnm hN hok hle h
section
variable {N:Nat} {rr:Option Nat} {m:Nat}
variable {c:Code} {s:St} {K:Exit→St→Prop} {σ R:Type} {F:(σ→M R)→σ→M R} {x0:σ} {r:R}
theorem lfe (ct:List Nat) (hm:dn F x0 r) (st:σ→St) (ρ0:List (Nat×Option Nat)) (os0:List Nat) (hE:Sr m ρ0 os0 s (st x0))
  (round:∀(self:σ→M R) (x:σ),F self x r→lM cfg (Ab.Spec Tryz.prog cfg) ct (Loops Tryz.prog cfg N rr m) c (st x) (λ e s'=>match e with | .normal=>∃x' ρ os,self x' r∧Sr m ρ os s' (st x') | e=>K e s'))
  (hok:jf N c=true:=by decide +kernel):Loops Tryz.prog cfg N rr m (.loop c) s K:=wz iX hok hm st ρ0 os0 hE round
theorem VQ (ct:List Nat) (hm:dn F x0 r) (st:σ→St) (ρ0:List (Nat×Option Nat)) (os0:List Nat)
  (round:∀(self:σ→M R) (x:σ),F self x r→lM cfg (Ab.Spec Tryz.prog cfg) ct (Loops Tryz.prog cfg N rr m) c (st x) (λ e s'=>match e with | .normal=>∃x' ρ os,self x' r∧Sr m ρ os s' (st x') | e=>K e s'))
  (hE:Sr m ρ0 os0 s (st x0):=by exact z) (hok:jf N c=true:=by decide +kernel):Loops Tryz.prog cfg N rr m (.loop c) s K:=wz iX hok hm st ρ0 os0 hE round
theorem lf (hm:dn F x0 r) (st:σ→St) (ρ0:List (Nat×Option Nat)) (os0:List Nat)
  (round:∀(self:σ→M R) (x:σ),F self x r→lM cfg (Ab.Spec Tryz.prog cfg) [] (Loops Tryz.prog cfg N rr m) c (st x) (λ e s'=>match e with | .normal=>∃x' ρ os,self x' r∧Sr m ρ os s' (st x') | e=>K e s'))
  (hE:Sr m ρ0 os0 s (st x0):=by exact z) (hok:jf N c=true:=by decide +kernel):Loops Tryz.prog cfg N rr m (.loop c) s K:=wz iX hok hm st ρ0 os0 hE round
theorem l0 (hm:dn F x0 r) (st:σ→St)
  (round:∀(self:σ→M R) (x:σ),F self x r→lM cfg (Ab.Spec Tryz.prog cfg) [] (Loops Tryz.prog cfg N rr m) c (st x) (λ e s'=>match e with | .normal=>∃x' ρ os,self x' r∧Sr m ρ os s' (st x') | e=>K e s'))
  (hE:Sr m [] [] s (st x0):=by exact z) (hok:jf N c=true:=by decide +kernel):Loops Tryz.prog cfg N rr m (.loop c) s K:=wz iX hok hm st [] [] hE round
theorem ck (ct:List Nat) {x y:Code} {s:St} {K:Exit→St→Prop} (k:σ→M R) (r:R) (st:σ→St)
  (h1:lM cfg (Ab.Spec Tryz.prog cfg) ct (Loops Tryz.prog cfg N rr m) x s (λ e s'=>match e with | .normal=>∃x' ρ os,k x' r∧Sr m ρ os s' (st x') | e=>K e s'))
  (h2:∀x',k x' r→lM cfg (Ab.Spec Tryz.prog cfg) ct (Loops Tryz.prog cfg N rr m) y (st x') K) (apC:jf N x=true:=by decide +kernel) (apD:jf N y=true:=by decide +kernel):Loops Tryz.prog cfg N rr m (.seq x y) s K:=aai iX apC apD k r st h1 h2
end
end Go.Proofs.YtccjmcmolnbiiaaGreatDoor
namespace Go.Proofs.YtccjmcmolnbiiaaGreatDoor
open Go.Ab
set_option maxRecDepth 100000
set_option maxHeartbeats 20000000
variable {r:Bool}
theorem Tn {c_:aI} (hm:GI c_ r):S 152 [NC c_] [] (.bool r) [] :=sp Tryz.func152 rfl<|by cases hm;exact re
theorem zQ {s_:List aI} {r:Int} (hm:ug s_ r):S 199 [bA s_,.fn 152 []] [] (iV r) [] :=sp Tryz.func199 rfl<|l0 hm (λ g1=>⟨[(0,bA s_),(1,.fn 152 []),(7,iV (s_.length:Int)),(8,iV g1)],[],0⟩) <|λ aj g1 hm=>si hm (λ _ hm=>sn hm λ _ hm=>sq hm Tn λ v3 hm=>si hm (λ _ hm=>by cases hm;exact re) λ _ hm=>sn hm λ _ hm=>le hm) λ _ hm=>by cases hm;exact re
theorem wU {s_:List aI} (hm:lU s_ r):S 151 [bA s_,.fn 152 []] [] (.bool r) [] :=sp Tryz.func151 rfl<|sq hm zQ λ v1 hm=>by cases hm;exact re
theorem jd {n_:Int} {wR:Int} {yS:Int} (hm:jU n_ wR yS r):S 202 [iV n_,iV wR,iV yS] [] (.bool r) [] :=sp Tryz.func202 rfl<|by cases hm;exact re
theorem Tq {p_:Int} {qy:Int} (hm:Ad p_ qy r):S 201 [iV p_,.ro [iV qy]] [] (.bool r) [] :=sp Tryz.func201 rfl<|sn hm λ _ hm=>sq hm jd λ v1 hm=>by cases hm;exact re
variable {s_:List Int}
theorem Fe {f_:Int} {r:Int} (hm:AQ s_ f_ r):S 130 [aC s_,.fn 201 [.ro [iV f_]]] [] (iV r) [] :=sp Tryz.func130 rfl<|l0 hm (λ g1=>⟨[(0,aC s_),(1,.fn 201 [.ro [iV f_]]),(7,iV (s_.length:Int)),(8,iV g1)],[],0⟩) <|λ aj g1 hm=>si hm (λ _ hm=>sn hm λ _ hm=>sq hm Tq λ v3 hm=>si hm (λ _ hm=>by cases hm;exact re) λ _ hm=>sn hm λ _ hm=>le hm) λ _ hm=>by cases hm;exact re
theorem Cb {f_:Int} (hm:oO s_ f_ r):S 200 [aC s_,.fn 201 [.ro [iV f_]]] [] (.bool r) [] :=sp Tryz.func200 rfl<|sq hm Fe λ v1 hm=>by cases hm;exact re
theorem M5 {v_:Int} {r:Int} (hm:slices_Index_int s_ v_ r):S 88 [aC s_,iV v_] [] (iV r) [] :=sp Tryz.func88 rfl<|l0 hm (λ g1=>⟨[(0,aC s_),(1,iV v_),(7,iV (s_.length:Int)),(8,iV g1)],[],0⟩) <|λ aj g1 hm=>si hm (λ _ hm=>sn hm λ _ hm=>si hm (λ _ hm=>by cases hm;exact re) λ _ hm=>sn hm λ _ hm=>le hm) λ _ hm=>by cases hm;exact re
theorem fE {v_:Int} (hm:slices_Contains_int s_ v_ r):S 45 [aC s_,iV v_] [] (.bool r) [] :=sp Tryz.func45 rfl<|sq hm M5 λ v1 hm=>by cases hm;exact re
theorem nT {l_:List Int} {wR:Int} {yS:Int} (hm:nH l_ wR yS r):S 203 [aC l_,iV wR,iV yS] [] (.bool r) [] :=sp Tryz.func203 rfl<|l0 hm (λ g1=>⟨[(0,aC l_),(1,iV wR),(2,iV yS),(9,aC l_),(10,iV (l_.length:Int)),(11,iV g1)],[],0⟩) <|λ aj g1 hm=>si hm (λ _ hm=>sn hm λ _ hm=>sq hm jd λ v5 hm=>sn hm λ _ hm=>sb hm λ v6 hv6 hm=>cl (λ q0=>((fE (hv6 q0)).le ⟨(.sl oz (λ _=>rfl) nofun (jP (f:=iV) (d:=0) (by first | omega | exact Nat.min_le_left _ _ | exact Nat.le_trans (Nat.min_le_left _ _) om | (simp; omega)))),.refl _,trivial⟩ trivial))<|si hm (λ _ hm=>by cases hm;exact re) λ _ hm=>sn hm λ _ hm=>le hm) λ _ hm=>by cases hm;exact re
theorem zq {s1_:List Int} {s2_:List Int} (hm:slices_Equal_int s1_ s2_ r):S 204 [aC s1_,aC s2_] [] (.bool r) [] :=sp Tryz.func204 rfl<|si hm (λ _ hm=>by cases hm;exact re) λ _ hm=>l0 hm (λ g1=>⟨[(0,aC s1_),(1,aC s2_),(12,iV (s1_.length:Int)),(13,iV g1)],[],0⟩) <|λ aj g1 hm=>si hm (λ _ hm=>s2 hm λ _ _ hm=>si hm (λ _ hm=>by cases hm;exact re) λ _ hm=>sn hm λ _ hm=>le hm) λ _ hm=>by cases hm;exact re
theorem WR {c_:aI} {at_:Int} (hm:ND c_ at_ r):S 153 [NC c_,iV at_] [] (.bool r) [] :=sp Tryz.func153 rfl<|sq hm Cb λ v1 hm=>sb hm λ v2 hv2 hm=>cl (λ q0=>(jd (hv2 q0)))<|sb hm λ v3 hv3 hm=>cl (λ q0=>(jd (hv3 q0)))<|si hm (λ _ hm=>by cases hm;exact re) λ _ hm=>si hm (λ _ hm=>sn hm λ _ hm=>sb hm λ v4 hv4 hm=>cl (λ q0=>(jd (hv4 q0)))<|by cases hm;exact re) λ _ hm=>si hm (λ _ hm=>si hm (λ _ hm=>sb hm λ v5 hv5 hm=>cl (λ q0=>(nT (hv5 q0)))<|by cases hm;exact re) λ _ hm=>si hm (λ _ hm=>sn hm λ _ hm=>sb hm λ v6 hv6 hm=>cl (λ q0=>(nT (hv6 q0)))<|by cases hm;exact re) λ _ hm=>si hm (λ _ hm=>si hm (λ _ hm=>sb hm λ v7 hv7 hm=>cl (λ q0=>((zq (hv7 q0)).le ⟨.refl _,(.sl rfl (λ _=>rfl) nofun (gM iV 0 [(0:Int),(1:Int)])),trivial⟩ trivial))<|by cases hm;exact re) λ c7 hm=>by
 refine ⟨.bool false,[],(λ q0=>absurd q0 (vac c7)),?_⟩
 (conv=>whnf)
 have hm:r=(((c_.aP.length:Int)==(1:Int))&&false):=hm
 subst hm
 refine ⟨[],[],?_⟩
 (conv=>whnf)
 exact ⟨⟨rfl,trivial,trivial⟩,rfl⟩) λ _ hm=>by cases hm;exact re) λ _ hm=>si hm (λ _ hm=>sb hm λ v8 vU hm=>cl (λ q0=>(nT (vU q0)))<|by cases hm;exact re) λ _ hm=>si hm (λ _ hm=>sn hm λ _ hm=>sb hm λ v9 Wx hm=>cl (λ q0=>(nT (Wx q0)))<|by cases hm;exact re) λ _ hm=>si hm (λ _ hm=>si hm (λ _ hm=>sb hm λ v10 Ji hm=>cl (λ q0=>((zq (Ji q0)).le ⟨.refl _,(.sl rfl (λ _=>rfl) nofun (gM iV 0 [(0:Int),(1:Int)])),trivial⟩ trivial))<|by cases hm;exact re) λ c11 hm=>by
 refine ⟨.bool false,[],(λ q0=>absurd q0 (vac c11)),?_⟩
 (conv=>whnf)
 have hm:r=(((c_.aP.length:Int)==(1:Int))&&false):=hm
 subst hm
 refine ⟨[],[],?_⟩
 (conv=>whnf)
 exact ⟨⟨rfl,trivial,trivial⟩,rfl⟩) λ _ hm=>by cases hm;exact re
theorem oW {l_:List aI} {r:Int} (hm:rU l_ r):S 105 [bA l_] [] (iV r) [] :=spc [21] Tryz.func105 rfl<|sb hm λ v1 hv1 hm=>cl (λ q0=>(wU (hv1 q0)))<|si hm (λ _ hm=>by cases hm;exact re) λ _ hm=>VQ [21] hm (λ g1=>⟨[(0,bA l_),(18,bA l_),(19,iV (l_.length:Int)),(20,iV g1)],[],0⟩) [] [] <|λ aj g1 hm=>si hm (λ _ hm=>sn hm λ _ hm=>sq hm WR λ v4 hm=>si hm (λ _ hm=>by cases hm;exact re) λ _ hm=>sn hm λ _ hm=>le hm) λ _ hm=>sn hm λ _ hm=>VQ [21] hm (λ g2=>⟨[(5,iV g2.1),(6,.eF 0 0 g2.2.2.length false),(33,bA l_),(34,iV (l_.length:Int)),(35,iV g2.2.1)],[(0,some (.row 1 g2.2.2.length (bP iV 0 g2.2.2)))],1⟩) [(0,some 32)] [] <|λ dK g2 hm=>si hm (λ _ hm=>sn hm λ _ hm=>VQ [21] hm (λ g7=>⟨[(5,iV g2.1),(6,.eF 0 0 g7.2.length false),(7,iV g2.2.1),(8,.ptr 1 0 0),(33,bA l_),(34,iV (l_.length:Int)),(35,iV g2.2.1),(41,aC ((l_.getD g2.2.1.toNat aK).aP)),(42,iV ((((l_.getD g2.2.1.toNat aK).aP).length:Nat):Int)),(43,iV g7.1)],[(0,some (.row 1 g7.2.length (bP iV 0 g7.2))),(1,some (.box [iV ((l_.getD g2.2.1.toNat aK).gq),aC ((l_.getD g2.2.1.toNat aK).aP),aC ((l_.getD g2.2.1.toNat aK).aN),iV ((l_.getD g2.2.1.toNat aK).Low),iV ((l_.getD g2.2.1.toNat aK).fP)]))],2⟩) [(1,some 33)] [] <|λ oq g7 hm=>si hm (λ _ hm=>s2 hm λ _ _ hm=>s2 hm λ _ _ hm=>sn hm λ _ hm=>le hm) λ _ hm=>ck [21] (uX l_ g2 dK) r (λ g8=>⟨[(5,iV g2.1),(6,.eF 0 0 g8.length false),(7,iV g2.2.1),(8,.ptr 1 0 0),(33,bA l_),(34,iV (l_.length:Int)),(35,iV g2.2.1)],[(0,some (.row 1 g8.length (bP iV 0 g8))),(1,some (.box [iV ((l_.getD g2.2.1.toNat aK).gq),aC ((l_.getD g2.2.1.toNat aK).aP),aC ((l_.getD g2.2.1.toNat aK).aN),iV ((l_.getD g2.2.1.toNat aK).Low),iV ((l_.getD g2.2.1.toNat aK).fP)]))],2⟩) (si hm (λ _ hm=>s2 hm λ _ _ hm=>sn hm λ _ hm=>le hm) λ _ hm=>le hm) λ g8 hm=>s2 hm λ _ _ hm=>si hm (λ _ hm=>by cases hm;exact re) λ _ hm=>sn hm λ _ hm=>le hm) λ _ hm=>by cases hm;exact re
theorem QW {s_:ay} (hm:rV s_ r):S 155 [CX s_] [] (.bool r) [] :=sp Tryz.func155 rfl<|by cases hm;exact re
theorem zR {s_:List ay} {r:Int} (hm:uh s_ r):S 205 [aV s_,.fn 155 []] [] (iV r) [] :=sp Tryz.func205 rfl<|l0 hm (λ g1=>⟨[(0,aV s_),(1,.fn 155 []),(7,iV (s_.length:Int)),(8,iV g1)],[],0⟩) <|λ aj g1 hm=>si hm (λ _ hm=>sn hm λ _ hm=>sq hm QW λ v3 hm=>si hm (λ _ hm=>by cases hm;exact re) λ _ hm=>sn hm λ _ hm=>le hm) λ _ hm=>by cases hm;exact re
theorem wV {s_:List ay} (hm:lV s_ r):S 154 [aV s_,.fn 155 []] [] (.bool r) [] :=sp Tryz.func154 rfl<|sq hm zR λ v1 hm=>by cases hm;exact re
theorem iC {n_:Int} {wR:Int} {yS:Int} (hm:iU n_ wR yS r):S 196 [iV n_,iV wR,iV yS] [] (.bool r) [] :=sp Tryz.func196 rfl<|by cases hm;exact re
theorem U5 {s_:ay} {at_:Int} (hm:CY s_ at_ r):S 156 [CX s_,iV at_] [] (.bool r) [] :=sp Tryz.func156 rfl<|sn hm λ _ hm=>sq hm iC λ v1 hm=>sb hm λ v2 hv2 hm=>cl (λ q0=>(iC (hv2 q0)))<|sb hm λ v3 hv3 hm=>cl (λ q0=>(iC (hv3 q0)))<|si hm (λ _ hm=>by cases hm;exact re) λ _ hm=>l0 hm (λ g1=>⟨[(2,.ptr 0 0 0),(42,aC s_.bK),(43,iV (s_.bK.length:Int)),(44,iV g1)],[(0,some (.box [iV s_.aM,aC s_.bK,iV s_.gB,iV s_.iy,.bool s_.fM]))],1⟩) <|λ aj g1 hm=>si hm (λ _ hm=>sn hm λ _ hm=>sq hm iC λ v6 hm=>s2 hm λ _ _ hm=>si hm (λ _ hm=>by cases hm;exact re) λ _ hm=>sn hm λ _ hm=>le hm) λ _ hm=>by cases hm;exact re
theorem rJ {l_:List ay} {r:Int} (hm:pR l_ r):S 106 [aV l_] [] (iV r) [] :=sp Tryz.func106 rfl<|sb hm λ v1 hv1 hm=>cl (λ q0=>(wV (hv1 q0)))<|si hm (λ _ hm=>by cases hm;exact re) λ _ hm=>l0 hm (λ g1=>⟨[(12,aV l_),(13,iV (l_.length:Int)),(14,iV g1)],[],0⟩) <|λ aj g1 hm=>si hm (λ _ hm=>sn hm λ _ hm=>sq hm U5 λ v4 hm=>si hm (λ _ hm=>by cases hm;exact re) λ _ hm=>sn hm λ _ hm=>le hm) λ _ hm=>by cases hm;exact re
theorem yJ {s_:ByteArray} (hm:zF s_ r):S 146 [.str s_] [] (.bool r) [] :=sp Tryz.func146 rfl<|s2 hm λ _ _ hm=>si hm (λ _ hm=>by cases hm;exact re) λ _ hm=>l0 hm (λ g1=>⟨[(0,.str s_),(3,iV g1)],[],0⟩) <|λ aj g1 hm=>si hm (λ _ hm=>sn hm λ _ hm=>si hm (λ _ hm=>by cases hm;exact re) λ _ hm=>sn hm λ _ hm=>le hm) λ _ hm=>by cases hm;exact re
theorem uR {s_:List ByteArray} {v_:ByteArray} {r:Int} (hm:slices_Index_string s_ v_ r):S 50 [gG s_,.str v_] [] (iV r) [] :=sp Tryz.func50 rfl<|l0 hm (λ g1=>⟨[(0,gG s_),(1,.str v_),(7,iV (s_.length:Int)),(8,iV g1)],[],0⟩) <|λ aj g1 hm=>si hm (λ _ hm=>sn hm λ _ hm=>si hm (λ _ hm=>by cases hm;exact re) λ _ hm=>sn hm λ _ hm=>le hm) λ _ hm=>by cases hm;exact re
theorem rM {s_:List ByteArray} {v_:ByteArray} (hm:slices_Contains_string s_ v_ r):S 206 [gG s_,.str v_] [] (.bool r) [] :=sp Tryz.func206 rfl<|sq hm uR λ v1 hm=>by cases hm;exact re
theorem YL {NJ:Int} {g_:dh} {r:Int} (hm:JZ NJ g_ r):S 157 [iV NJ,oN g_] [] (iV r) [] :=sp Tryz.func157 rfl<|si hm (λ _ hm=>by cases hm;exact re) λ _ hm=>si hm (λ _ hm=>by cases hm;exact re) λ _ hm=>l0 hm (λ g1=>⟨[(0,iV NJ),(3,.ptr 0 0 0),(27,aC g_.bQ),(28,iV (g_.bQ.length:Int)),(29,iV g1)],[(0,some (.box [.str g_.wY,aC g_.bQ,gG g_.ak]))],1⟩) <|λ aj g1 hm=>si hm (λ _ hm=>sn hm λ _ hm=>si hm (λ _ hm=>by cases hm;exact re) λ _ hm=>sn hm λ _ hm=>le hm) λ _ hm=>l0 hm (λ g2=>⟨[(3,.ptr 0 0 0),(7,iV g2)],[(0,some (.box [.str g_.wY,aC g_.bQ,gG g_.ak]))],1⟩) <|λ dK g2 hm=>si hm (λ _ hm=>s2 hm λ _ _ hm=>sn hm λ _ hm=>si hm (λ _ hm=>by cases hm;exact re) λ _ hm=>sn hm λ _ hm=>le hm) λ _ hm=>l0 hm (λ g3=>⟨[(3,.ptr 0 0 0),(61,gG g_.ak),(62,iV (g_.ak.length:Int)),(63,iV g3)],[(0,some (.box [.str g_.wY,aC g_.bQ,gG g_.ak]))],1⟩) <|λ jZ g3 hm=>si hm (λ _ hm=>sn hm λ _ hm=>sq hm yJ λ v3 hm=>si hm (λ _ hm=>by cases hm;exact re) λ _ hm=>sn hm λ _ hm=>le hm) λ _ hm=>l0 hm (λ g4=>⟨[(3,.ptr 0 0 0),(72,gG g_.ak),(73,iV (g_.ak.length:Int)),(74,iV g4)],[(0,some (.box [.str g_.wY,aC g_.bQ,gG g_.ak]))],1⟩) <|λ jq g4 hm=>si hm (λ _ hm=>s2 hm λ _ _ hm=>sb hm λ v6 hv6 hm=>cl ((rM hv6).le ⟨(.sl oz (λ _=>rfl) nofun (jP (f:=AV.str) (d:=ByteArray.empty) (by first | omega | exact Nat.min_le_left _ _ | exact Nat.le_trans (Nat.min_le_left _ _) om | (simp; omega)))),.refl _,trivial⟩ trivial)<|si hm (λ _ hm=>by cases hm;exact re) λ _ hm=>sn hm λ _ hm=>le hm) λ _ hm=>by cases hm;exact re
variable {p_:bn}
theorem vD {r:Int} (hm:vK p_ r):S 107 [l9 p_] [] (iV r) [] :=sp Tryz.func107 rfl<|si hm (λ _ hm=>by cases hm;exact re) λ _ hm=>si hm (λ _ hm=>by cases hm;exact re) λ _ hm=>lf hm (λ g1=>⟨[(1,.ptr 0 0 0),(3,.mref 1),(21,bD p_.aD),(22,iV (p_.aD.length:Int)),(23,iV g1.1)],[(0,some (.box [iV p_.bQ,bD p_.aD])),(1,some (.map .str [.bool] g1.2))],2⟩) [(1,some 112)] [] <|λ aj g1 hm=>si hm (λ _ hm=>sn hm λ _ hm=>sq hm yJ λ v5 hm=>si hm (λ _ hm=>by cases hm;exact re) λ _ hm=>si hm (λ _ hm=>by cases hm;exact re) λ _ hm=>sq hm YL λ v6 hm=>si hm (λ _ hm=>by cases hm;exact re) λ _ hm=>sn hm λ _ hm=>le hm) λ _ hm=>by cases hm;exact re
theorem zS {l_:List eG} {r:Int} (hm:wB l_ r):S 108 [dA l_] [] (iV r) [] :=sp Tryz.func108 rfl<|si hm (λ _ hm=>by cases hm;exact re) λ _ hm=>l0 hm (λ g1=>⟨[(11,dA l_),(12,iV (l_.length:Int)),(13,iV g1)],[],0⟩) <|λ aj g1 hm=>si hm (λ _ hm=>sn hm λ _ hm=>lf hm (λ g6=>⟨[(3,iV g1),(4,.ptr 0 0 0),(11,dA l_),(12,iV (l_.length:Int)),(13,iV g1),(19,aC ((l_.getD g1.toNat dz).dX)),(20,iV ((((l_.getD g1.toNat dz).dX).length:Nat):Int)),(21,iV g6)],[(0,some (.box [aC ((l_.getD g1.toNat dz).dX)]))],1⟩) [(0,some 32)] [] <|λ jH g6 hm=>si hm (λ _ hm=>sn hm λ _ hm=>si hm (λ _ hm=>by cases hm;exact re) λ _ hm=>sn hm λ _ hm=>le hm) λ _ hm=>l0 hm (λ g7=>⟨[(4,.ptr 0 0 0),(7,iV g7),(11,dA l_),(12,iV (l_.length:Int)),(13,iV g1)],[(0,some (.box [aC ((l_.getD g1.toNat dz).dX)]))],1⟩) <|λ oq g7 hm=>si hm (λ _ hm=>s2 hm λ _ _ hm=>sn hm λ _ hm=>si hm (λ _ hm=>by cases hm;exact re) λ _ hm=>sn hm λ _ hm=>le hm) λ _ hm=>sn hm λ _ hm=>le hm) λ _ hm=>by cases hm;exact re
theorem yK {l_:List dF} {r:Int} (hm:sV l_ r):S 109 [bY l_] [] (iV r) [] :=sp Tryz.func109 rfl<|si hm (λ _ hm=>by cases hm;exact re) λ _ hm=>l0 hm (λ g1=>⟨[(8,bY l_),(9,iV (l_.length:Int)),(10,iV g1)],[],0⟩) <|λ aj g1 hm=>si hm (λ _ hm=>sn hm λ _ hm=>si hm (λ _ hm=>by cases hm;exact re) λ _ hm=>sn hm λ _ hm=>le hm) λ _ hm=>by cases hm;exact re
variable {b_:aS}
theorem Jl {r:Int} (hm:AU b_ r):S 53 [jm b_] [] (iV r) [] :=sp Tryz.func53 rfl<|sq hm oW λ v1 hm=>si hm (λ _ hm=>by cases hm;exact re) λ _ hm=>sq hm rJ λ v2 hm=>si hm (λ _ hm=>by cases hm;exact re) λ _ hm=>sq hm vD λ v3 hm=>si hm (λ _ hm=>by cases hm;exact re) λ _ hm=>sq hm zS λ v4 hm=>si hm (λ _ hm=>by cases hm;exact re) λ _ hm=>sq hm yK λ v5 hm=>by cases hm;exact re
variable {n_:aJ}
theorem QX {r:List bN} (hm:xC n_ r):S 58 [xA n_] [] (fA r) [] :=sp Tryz.func58 rfl<|by cases hm;exact re
variable {l_:List aJ} {ah:List Int}
theorem EL {r:List bN} (hm:y8 l_ ah r):S 57 [dO l_,aC ah,.fn 58 []] [] (fA r) [] :=sp Tryz.func57 rfl<|lf hm (λ g1=>⟨[(0,dO l_),(2,.fn 58 []),(7,.eF 0 0 g1.2.length false),(10,aC ah),(11,iV (ah.length:Int)),(12,iV g1.1)],[(0,some (.row 3 g1.2.length (bP zC dx g1.2)))],1⟩) [(0,none)] [] <|λ aj g1 hm=>si hm (λ _ hm=>sn hm λ _ hm=>si hm (λ _ hm=>sn hm λ _ hm=>sq hm QX λ v3 hm=>s2 hm λ _ _ hm=>lc [(0,some 153)] [] hm) λ _ hm=>sn hm λ _ hm=>le hm) λ _ hm=>by cases hm;exact rt [0] []
theorem U6 {r:List bN} (hm:Um l_ ah r):S 21 [dO l_,aC ah] [] (fA r) [] :=sp Tryz.func21 rfl<|sq hm EL λ v1 hm=>by cases hm;exact re
theorem Tt {r:List bf} (hm:Ae n_ r):S 60 [xA n_] [] (fO r) [] :=sp Tryz.func60 rfl<|by cases hm;exact re
theorem Fg {r:List bf} (hm:AX l_ ah r):S 59 [dO l_,aC ah,.fn 60 []] [] (fO r) [] :=sp Tryz.func59 rfl<|lf hm (λ g1=>⟨[(0,dO l_),(2,.fn 60 []),(7,.eF 0 0 g1.2.length false),(10,aC ah),(11,iV (ah.length:Int)),(12,iV g1.1)],[(0,some (.row 4 g1.2.length (bP Ic dH g1.2)))],1⟩) [(0,none)] [] <|λ aj g1 hm=>si hm (λ _ hm=>sn hm λ _ hm=>si hm (λ _ hm=>sn hm λ _ hm=>sq hm Tt λ v3 hm=>s2 hm λ _ _ hm=>lc [(0,some 153)] [] hm) λ _ hm=>sn hm λ _ hm=>le hm) λ _ hm=>by cases hm;exact rt [0] []
theorem WS {r:List bf} (hm:XV l_ ah r):S 23 [dO l_,aC ah] [] (fO r) [] :=sp Tryz.func23 rfl<|sq hm Fg λ v1 hm=>by cases hm;exact re
theorem KG {r:List ByteArray} (hm:qY n_ r):S 134 [xA n_] [] (gG r) [] :=sp Tryz.func134 rfl<|by cases hm;exact re
theorem G8 {r:List ByteArray} (hm:Cn l_ ah r):S 133 [dO l_,aC ah,.fn 134 []] [] (gG r) [] :=sp Tryz.func133 rfl<|lf hm (λ g1=>⟨[(0,dO l_),(2,.fn 134 []),(7,.eF 0 0 g1.2.length false),(10,aC ah),(11,iV (ah.length:Int)),(12,iV g1.1)],[(0,some (.row 1 g1.2.length (bP AV.str ByteArray.empty g1.2)))],1⟩) [(0,none)] [] <|λ aj g1 hm=>si hm (λ _ hm=>sn hm λ _ hm=>si hm (λ _ hm=>sn hm λ _ hm=>sq hm KG λ v3 hm=>s2 hm λ _ _ hm=>lc [(0,some 153)] [] hm) λ _ hm=>sn hm λ _ hm=>le hm) λ _ hm=>by cases hm;exact rt [0] []
theorem Pw {r:List ByteArray} (hm:KY l_ ah r):S 89 [dO l_,aC ah] [] (gG r) [] :=sp Tryz.func89 rfl<|sq hm G8 λ v1 hm=>by cases hm;exact re
theorem QY {x_:bN} {qy:List aI} (hm:rW x_ qy r):S 223 [zC x_,.ro [bA qy]] [] (.bool r) [] :=sp Tryz.func223 rfl<|sn hm λ _ hm=>sq hm jd λ v1 hm=>sb hm λ v2 hv2 hm=>cl (λ q0=>(jd (hv2 q0)))<|sb hm λ v3 hv3 hm=>cl (λ q0=>(jd (hv3 q0)))<|by cases hm;exact re
theorem zT {s_:List bN} {f_:List aI} {r:Int} (hm:uj s_ f_ r):S 241 [fA s_,.fn 223 [.ro [bA f_]]] [] (iV r) [] :=sp Tryz.func241 rfl<|l0 hm (λ g1=>⟨[(0,fA s_),(1,.fn 223 [.ro [bA f_]]),(7,iV (s_.length:Int)),(8,iV g1)],[],0⟩) <|λ aj g1 hm=>si hm (λ _ hm=>sn hm λ _ hm=>sq hm QY λ v3 hm=>si hm (λ _ hm=>by cases hm;exact re) λ _ hm=>sn hm λ _ hm=>le hm) λ _ hm=>by cases hm;exact re
theorem wW {s_:List bN} {f_:List aI} (hm:lW s_ f_ r):S 222 [fA s_,.fn 223 [.ro [bA f_]]] [] (.bool r) [] :=sp Tryz.func222 rfl<|sq hm zT λ v1 hm=>by cases hm;exact re
variable {m_:List bN}
theorem Gm {l_:List aI} (hm:xD l_ m_ r):S 184 [bA l_,fA m_] [] (.bool r) [] :=sp Tryz.func184 rfl<|sq hm oW λ v1 hm=>sb hm λ v2 hv2 hm=>cl (λ q0=>(wW (hv2 q0)))<|by cases hm;exact re
theorem U7 {l_:List aI} {r:Int} (hm:CZ l_ m_ r):S 135 [bA l_,fA m_] [] (iV r) [] :=sp Tryz.func135 rfl<|sq hm oW λ v1 hm=>si hm (λ _ hm=>by cases hm;exact re) λ _ hm=>sq hm Gm λ v2 hm=>si hm (λ _ hm=>by cases hm;exact re) λ _ hm=>by cases hm;exact re
theorem YM {l_:List aI} {r:List jR} (hm:J3 l_ m_ r):S 185 [bA l_,fA m_] [] (Ie r) [] :=sp Tryz.func185 rfl<|lf hm (λ g1=>⟨[(0,bA l_),(1,fA m_),(5,.eF 0 0 g1.2.length false),(10,fA m_),(11,iV (m_.length:Int)),(12,iV g1.1)],[(0,some (.row 5 g1.2.length (bP Zk xu g1.2)))],1⟩) [(0,none)] [] <|λ aj g1 hm=>si hm (λ _ hm=>s2 hm λ _ _ hm=>sn hm λ _ hm=>lc [(0,some 137)] [] hm) λ _ hm=>l0 hm (λ g2=>⟨[(1,fA m_),(5,.eF 0 0 g2.2.length false),(29,bA l_),(30,iV (l_.length:Int)),(31,iV g2.1)],[(0,some (.row 5 g2.2.length (bP Zk xu g2.2)))],1⟩) <|λ dK g2 hm=>si hm (λ _ hm=>sn hm λ _ hm=>si hm (λ _ hm=>s2 hm λ _ _ hm=>sn hm λ _ hm=>lc [(0,some 177)] [] hm) λ _ hm=>sn hm λ _ hm=>le hm) λ _ hm=>by cases hm;exact rt [0] []
theorem vX {l_:List aI} (hm:qO l_ s_ r):S 224 [bA l_,aC s_] [] (.bool r) [] :=sp Tryz.func224 rfl<|si hm (λ _ hm=>by cases hm;exact re) λ _ hm=>l0 hm (λ g1=>⟨[(0,bA l_),(12,aC s_),(13,iV (s_.length:Int)),(14,iV g1)],[],0⟩) <|λ aj g1 hm=>si hm (λ _ hm=>s2 hm λ _ _ hm=>sn hm λ _ hm=>sq hm jd λ v3 hm=>si hm (λ _ hm=>by cases hm;exact re) λ _ hm=>sn hm λ _ hm=>le hm) λ _ hm=>by cases hm;exact re
theorem Gn {l_:List aI} {jF:Int} {r:Int} (hm:xE l_ s_ jF r):S 242 [bA l_,aC s_,iV jF] [] (iV r) [] :=sp Tryz.func242 rfl<|sn hm λ _ hm=>si hm (λ _ hm=>by cases hm;exact re) λ _ hm=>si hm (λ _ hm=>s2 hm λ _ _ hm=>sn hm λ _ hm=>by cases hm;exact re) λ _ hm=>sn hm λ _ hm=>by cases hm;exact re
theorem tV {a_:Int} {b_:Int} {r:Int} (hm:rX a_ b_ r):S 253 [iV a_,iV b_] [] (iV r) [] :=sp Tryz.func253 rfl<|l0 hm (λ g1=>⟨[(0,iV g1.1),(1,iV g1.2)],[],0⟩) <|λ aj g1 hm=>si hm (λ _ hm=>sn hm λ _ hm=>le hm) λ _ hm=>by cases hm;exact re
variable {r_:bL}
theorem vE (hm:vL r_ r):S 245 [qE r_] [] (.bool r) [] :=sp Tryz.func245 rfl<|sb hm λ v1 hv1 hm=>cl (λ q0=>(tV (hv1 q0)))<|by cases hm;exact re
theorem WT {QK:Int} {aam:Int} {qy:Int} {r:Int×Int} (hm:FD QK aam qy r):S 252 [.ro [iV QK,iV aam],.ro [iV qy]] [] (.kH [iV r.1,iV r.2]) [] :=sp Tryz.func252 rfl<|sq hm tV λ v1 hm=>s2 hm λ _ _ hm=>sn hm λ _ hm=>by cases hm;exact re
theorem R6 {xG:Int} {xH:Int} {r:bL×Int} (hm:NQ xG xH r):S 256 [iV xG,iV xH] [] (.kH [qE r.1,iV r.2]) [] :=sp Tryz.func256 rfl<|si hm (λ _ hm=>by cases hm;exact re) λ _ hm=>sq hm tV λ v1 hm=>s2 hm λ _ _ hm=>sq hm vE λ v2 hm=>si hm (λ _ hm=>by cases hm;exact re) λ _ hm=>by cases hm;exact re
variable {k_:Int}
theorem WU {pU:Int} {pV:Int} {pW:Int} {r:bL×Int} (hm:FE r_ k_ pU pV pW r):S 251 [qE r_,iV k_,.fn 252 [.ro [iV pU,iV pV],.ro [iV pW]]] [] (.kH [qE r.1,iV r.2]) [] :=sp Tryz.func251 rfl<|sq hm vE λ v1 hm=>si hm (λ _ hm=>by cases hm;exact re) λ _ hm=>si hm (λ _ hm=>by cases hm;exact re) λ _ hm=>sq hm WT λ v2 hm=>sq hm R6 λ v3 hm=>by cases hm;exact re
theorem Px {r:bL×Int} (hm:Ij r_ k_ r):S 243 [qE r_,iV k_] [] (.kH [qE r.1,iV r.2]) [] :=sp Tryz.func243 rfl<|sq hm WU λ v1 hm=>by cases hm;exact re
theorem U8 {iQ:Int} {BK:Int} {vM:Int} {r:Int×Int} (hm:C8 iQ BK vM r):S 254 [.ro [iV iQ],.ro [iV BK,iV vM]] [] (.kH [iV r.1,iV r.2]) [] :=sp Tryz.func254 rfl<|sq hm tV λ v1 hm=>s2 hm λ _ _ hm=>si hm (λ _ hm=>by cases hm;exact re) λ _ hm=>s2 hm λ _ _ hm=>sn hm λ _ hm=>by cases hm;exact re
theorem QZ {pU:Int} {pV:Int} {pW:Int} {r:bL×Int} (hm:xI r_ k_ pU pV pW r):S 251 [qE r_,iV k_,.fn 254 [.ro [iV pU],.ro [iV pV,iV pW]]] [] (.kH [qE r.1,iV r.2]) [] :=sp Tryz.func251 rfl<|sq hm vE λ v1 hm=>si hm (λ _ hm=>by cases hm;exact re) λ _ hm=>si hm (λ _ hm=>by cases hm;exact re) λ _ hm=>sq hm U8 λ v2 hm=>sq hm R6 λ v3 hm=>by cases hm;exact re
theorem Mr {r:bL×Int} (hm:Ec r_ k_ r):S 244 [qE r_,iV k_] [] (.kH [qE r.1,iV r.2]) [] :=sp Tryz.func244 rfl<|sq hm QZ λ v1 hm=>by cases hm;exact re
variable {dD:List Int}
theorem WV {l_:List aI} {r:List bL} (hm:FH l_ dD r):S 225 [bA l_,.eF 0 0 dD.length false] [.row 1 dD.length (bP iV 0 dD)] (rT r) [.row 1 dD.length (bP iV 0 dD)] :=sp Tryz.func225 rfl<|sn hm λ _ hm=>lf hm (λ g1=>⟨[(0,bA l_),(1,.eF 0 0 dD.length false),(5,.eF 1 0 g1.2.length false),(13,bA l_),(14,iV (l_.length:Int)),(15,iV g1.1)],[(0,some (.row 1 dD.length (bP iV 0 dD))),(1,some (.row 2 g1.2.length (bP qE dS g1.2)))],2⟩) [(1,some 25)] [] <|λ aj g1 hm=>si hm (λ _ hm=>s2 hm λ _ _ hm=>sn hm λ _ hm=>sq hm Gn λ v7 hm=>si hm (λ _ hm=>s2 hm λ _ _ hm=>le hm) λ _ hm=>sn hm λ _ hm=>si hm (λ _ hm=>s2 hm λ _ _ hm=>le hm) λ _ hm=>si hm (λ _ hm=>sn hm λ _ hm=>sq hm Px λ v8 hm=>s2 hm λ _ _ hm=>le hm) λ _ hm=>si hm (λ _ hm=>sn hm λ _ hm=>sq hm Mr λ v9 hm=>s2 hm λ _ _ hm=>le hm) λ _ hm=>s2 hm λ _ _ hm=>sn hm λ _ hm=>le hm) λ _ hm=>by cases hm;exact rt [1] []
theorem WW {l_:List aI} {r:List bL×Int} (hm:FI l_ dD r):S 186 [bA l_,.eF 0 0 dD.length false] [.row 1 dD.length (bP iV 0 dD)] (.kH [rT r.1,iV r.2]) [.row 1 dD.length (bP iV 0 dD)] :=sp Tryz.func186 rfl<|sq hm oW λ v1 hm=>si hm (λ _ hm=>by cases hm;exact re) λ _ hm=>sq hm vX λ v2 hm=>si hm (λ _ hm=>by cases hm;exact re) λ _ hm=>sq hm WV λ v3 hm=>by cases hm;exact re
theorem zU {C9:Int} {oP:Int} (hm:wC r_ C9 oP r):S 226 [qE r_,iV C9,iV oP] [] (.bool r) [] :=sp Tryz.func226 rfl<|sq hm vE λ v1 hm=>si hm (λ _ hm=>by cases hm;exact re) λ _ hm=>s2 hm λ _ _ hm=>by cases hm;exact re
theorem Fh {b_:jR} (hm:nM b_ r_ r):S 187 [Zk b_,qE r_] [] (.bool r) [] :=sp Tryz.func187 rfl<|si hm (λ _ hm=>by cases hm;exact re) λ _ hm=>sq hm zU λ v1 hm=>by cases hm;exact re
theorem zu {r:List Int} (hm:slices_Clone_int dD r):S 47 [.eF 0 0 dD.length false] [.row 1 dD.length (bP iV 0 dD)] (.eF 1 0 r.length false) [.row 1 dD.length (bP iV 0 dD),.row 1 r.length (bP iV 0 r)] :=by
 obtain ⟨h1,hm⟩:=hm
 have hm:r=dD:=hm
 subst hm
 refine nW (ct:=[1]) iX Tryz.func47 rfl rfl (Nat.le_of_ble_eq_true rfl) dk (Nat.le_of_ble_eq_true rfl) ?_
 (conv=>whnf)
 refine Sy (ct:=[]) iX (iX.slice (t:=22) (e:=3) rfl rfl rfl).1 dk dk dk dk dk [(2,.sl 0 0 true fJ),(0,.eF 0 0 r.length false)] [(0,some (.row 1 r.length (bP iV 0 r)))] 9 rfl rfl ?_ (λ hn=>?_) ?_
 ·exact rfl
 ·(conv=>whnf)
  have hn:r.length=0:=hn
  refine ⟨[],[(1,none)],?_⟩
  (conv=>whnf)
  exact ⟨⟨rfl,trivial,⟨⟨rfl,rfl,λ _ _=>.refl _⟩,hn,trivial⟩⟩,⟨rfl,rfl,rfl,rfl,rfl,hn⟩⟩
 ·(conv=>whnf)
  refine ⟨by rw [Nat.zero_add]; exact h1,?_⟩
  (conv=>whnf)
  refine ⟨[],[(1,some 25)],?_⟩
  (conv=>whnf)
  exact ⟨⟨rfl,trivial,⟨⟨rfl,rfl,λ _ _=>.refl _⟩,⟨rfl,Nat.zero_add _,jQ (l:=[]) rfl (λ _ h=>absurd h (Nat.not_lt_zero _)) rfl (λ _ _=>.refl _)⟩,trivial⟩⟩,⟨rfl,rfl,rfl,Nat.zero_add _,nofun⟩⟩
theorem Q0 {Zl:Int} {o1_:List Int} {o2_:Bool} {r:Bool×List Int×Bool} (hm:xJ Zl dD o1_ o2_ r):S 137 [.eF 0 0 dD.length false,.int .u64 Zl,.ptr 1 0 0,.ptr 2 0 0] [.row 1 dD.length (bP iV 0 dD),.box [aC o1_],.box [.bool o2_]] (.bool r.1) [.row 1 dD.length (bP iV 0 dD),.box [aC r.2.1],.box [.bool r.2.2]] :=sp Tryz.func137 rfl<|si hm (λ _ hm=>sq hm zu λ v1 hm=>by cases hm;exact rt [35] []) λ _ hm=>by cases hm;exact re
theorem U9 {l_:List aI} {o1_:Bool} {r:List Int×Bool} (hm:Da l_ m_ dD o1_ r):S 136 [bA l_,fA m_,.fn 137 [.ptr 0 0 0,.ptr 1 0 0]] [.box [aC dD],.box [.bool o1_]] (.kH []) [.box [aC r.1],.box [.bool r.2]] :=spc [14] Tryz.func136 rfl<|sq hm YM λ v1 hm=>sn hm λ _ hm=>VQ [14] hm (λ g1=>⟨[(0,bA l_),(2,.fn 137 [.ptr 0 0 0,.ptr 1 0 0]),(6,Ie v1),(7,.eF 2 0 g1.2.2.length false)],[(0,some (.box [aC g1.1])),(1,some (.box [.bool g1.2.1])),(2,some (.row 1 g1.2.2.length (bP iV 0 g1.2.2)))],3⟩) [(2,some 50)] [] <|λ aj g1 hm=>sq hm WW λ v12 hm=>VQ [14] hm (λ g10=>⟨[(0,bA l_),(2,.fn 137 [.ptr 0 0 0,.ptr 1 0 0]),(6,Ie v1),(7,.eF 2 0 g1.2.2.length false),(8,rT v12.1),(10,.int .u64 g10.1),(26,Ie v1),(27,iV (v1.length:Int)),(28,iV g10.2)],[(0,some (.box [aC g1.1])),(1,some (.box [.bool g1.2.1])),(2,some (.row 1 g1.2.2.length (bP iV 0 g1.2.2)))],3⟩) [] [] <|λ adD g10 hm=>si hm (λ _ hm=>s2 hm λ _ _ hm=>sq hm Fh λ v15 hm=>si hm (λ _ hm=>s2 hm λ _ _ hm=>le hm) λ _ hm=>sn hm λ _ hm=>le hm) λ _ hm=>sq hm Q0 λ v16 hm=>si hm (λ _ hm=>by cases hm;exact re) λ _ hm=>sn hm λ _ hm=>ck [14] (zG g1 aj v16) r (λ g12=>⟨[(0,bA l_),(2,.fn 137 [.ptr 0 0 0,.ptr 1 0 0]),(6,Ie v1),(7,.eF 2 0 g1.2.2.length false),(13,iV g12)],[(0,some (.box [aC v16.2.1])),(1,some (.box [.bool v16.2.2])),(2,some (.row 1 g1.2.2.length (bP iV 0 g1.2.2)))],3⟩) (VQ [14] hm (λ g13=>⟨[(0,bA l_),(2,.fn 137 [.ptr 0 0 0,.ptr 1 0 0]),(6,Ie v1),(7,.eF 2 0 g1.2.2.length false),(13,iV g13)],[(0,some (.box [aC v16.2.1])),(1,some (.box [.bool v16.2.2])),(2,some (.row 1 g1.2.2.length (bP iV 0 g1.2.2)))],3⟩) [] [] <|λ ahj g13 hm=>s2 hm λ _ _ hm=>sn hm λ _ hm=>si hm (λ _ hm=>sn hm λ _ hm=>le hm) λ _ hm=>le hm) λ g12 hm=>si hm (λ _ hm=>by cases hm;exact re) λ _ hm=>s2 hm λ _ _ hm=>s2 hm λ _ _ hm=>sn hm λ _ hm=>lce [] [] hm ⟨rfl,⟨sr,⟨rfl,r4,r4,trivial⟩,sr,⟨rfl,rfl,rfl,oz,nofun⟩,trivial⟩,⟨⟨sf,trivial⟩,⟨rfl,trivial⟩,⟨rfl,oz,(adB oz (FC (λ _ _=>.refl _) rfl (.refl _)) oz (Uj iV 0))⟩,trivial⟩⟩
theorem Va {l_:List aI} {r:List Int×Int} (hm:sW l_ m_ r):S 90 [bA l_,fA m_] [] (.kH [aC r.1,iV r.2]) [] :=sp Tryz.func90 rfl<|sq hm U7 λ v1 hm=>si hm (λ _ hm=>by cases hm;exact re) λ _ hm=>sb hm λ v2 hv2 hm=>cl ((U9 hv2).le ⟨.refl _,.refl _,.refl _,trivial⟩ ⟨⟨(.sl rfl (λ h=>absurd rfl h) nofun (λ _ h=>absurd h (Nat.not_lt_zero _))),trivial⟩,kZ _,trivial⟩)<|si hm (λ _ hm=>by cases hm;exact re) λ _ hm=>by cases hm;exact re
theorem Q5 {x_:bf} {qy:List ay} (hm:rY x_ qy r):S 227 [Ic x_,.ro [aV qy]] [] (.bool r) [] :=sp Tryz.func227 rfl<|sn hm λ _ hm=>sq hm iC λ v1 hm=>sb hm λ v2 hv2 hm=>cl (λ q0=>(iC (hv2 q0)))<|sb hm λ v3 hv3 hm=>cl (λ q0=>(iC (hv3 q0)))<|sb hm λ v4 hv4 hm=>cl (λ q0=>(iC (hv4 q0)))<|by cases hm;exact re
theorem Br {s_:List bf} {f_:List ay} {r:Int} (hm:uI s_ f_ r):S 231 [fO s_,.fn 227 [.ro [aV f_]]] [] (iV r) [] :=sp Tryz.func231 rfl<|l0 hm (λ g1=>⟨[(0,fO s_),(1,.fn 227 [.ro [aV f_]]),(7,iV (s_.length:Int)),(8,iV g1)],[],0⟩) <|λ aj g1 hm=>si hm (λ _ hm=>sn hm λ _ hm=>sq hm Q5 λ v3 hm=>si hm (λ _ hm=>by cases hm;exact re) λ _ hm=>sn hm λ _ hm=>le hm) λ _ hm=>by cases hm;exact re
theorem yL {s_:List bf} {f_:List ay} (hm:mg s_ f_ r):S 194 [fO s_,.fn 227 [.ro [aV f_]]] [] (.bool r) [] :=sp Tryz.func194 rfl<|sq hm Br λ v1 hm=>by cases hm;exact re
variable {d_:List bf}
theorem Gp {l_:List ay} (hm:xK l_ d_ r):S 188 [aV l_,fO d_] [] (.bool r) [] :=sp Tryz.func188 rfl<|sq hm rJ λ v1 hm=>sb hm λ v2 hv2 hm=>cl (λ q0=>(yL (hv2 q0)))<|by cases hm;exact re
theorem Vb {l_:List ay} {r:Int} (hm:J4 l_ d_ r):S 138 [aV l_,fO d_] [] (iV r) [] :=sp Tryz.func138 rfl<|sq hm rJ λ v1 hm=>si hm (λ _ hm=>by cases hm;exact re) λ _ hm=>sq hm Gp λ v2 hm=>si hm (λ _ hm=>by cases hm;exact re) λ _ hm=>by cases hm;exact re
variable {x_:Int}
theorem Py {y_:Int} {r:Int×Int} (hm:K4 x_ y_ r):S 247 [.int .u64 x_,.int .u64 y_] [] (.kH [.int .u64 r.1,.int .u64 r.2]) [] :=sp Tryz.func247 rfl<|s2 hm λ _ _ hm=>s2 hm λ _ _ hm=>sn hm λ _ hm=>by cases hm;exact re
theorem Tv {y_:Int} {r:Int×Int} (hm:Af x_ y_ r):S 228 [.int .u64 x_,.int .u64 y_] [] (.kH [.int .u64 r.1,.int .u64 r.2]) [] :=sp Tryz.func228 rfl<|sq hm Py λ v1 hm=>by cases hm;exact re
theorem DN {x_:List gT} {J5:Int} {r:List gT} (hm:mh x_ J5 r):S 189 [Uk x_,iV J5] [] (.eF 0 0 r.length false) [.row 3 r.length (bP Ac jS r)] :=spc [3,6] Tryz.func189 rfl<|ck [3,6] (nC x_ J5) r (λ g1=>⟨[(0,Uk x_),(1,iV J5)],[],0⟩) (by
 have c7:=hm.1
 have hm:=hm.2
 refine Ui (λ q=>Bool.noConfusion (c7.symm.trans q)) (λ _=>?_)
 (conv=>whnf)
 exact ⟨(),[],[],hm,⟨rfl,⟨sr,r2,trivial⟩,trivial⟩⟩) λ g1 hm=>sq hm Tv λ v1 hm=>ck [3,6] (nA x_ v1) r (λ g2=>⟨[(0,Uk x_),(6,.int .u64 v1.2)],[],0⟩) (by
 have c6:=hm.1
 have hm:=hm.2
 refine Ui (λ q=>Bool.noConfusion (c6.symm.trans q)) (λ _=>?_)
 (conv=>whnf)
 exact ⟨(),[],[],hm,⟨rfl,⟨sr,r2,trivial⟩,trivial⟩⟩) λ g2 hm=>sn hm λ _ hm=>lfe [3,6] hm (λ g3=>⟨[(7,.eF 0 0 g3.2.length false),(8,iV g3.1)],[(0,some (.row 3 g3.2.length (bP Ac jS g3.2)))],1⟩) [(0,some 16)] [] ⟨rfl,⟨⟨rfl,rfl,rfl,oz,nofun⟩,r2,trivial⟩,⟨⟨rfl,oz,(adB oz (Uj Ac jS) oz (jP (f:=Ac) (d:=jS) (by first | omega | exact Nat.min_le_left _ _ | exact Nat.le_trans (Nat.min_le_left _ _) om | (simp; omega))))⟩,trivial⟩⟩ <|λ jZ g3 hm=>si hm (λ _ hm=>s2 hm λ _ _ hm=>sn hm λ _ hm=>lce [] [] hm ⟨rfl,⟨⟨rfl,rfl,rfl,oz,nofun⟩,r2,trivial⟩,⟨⟨rfl,oz,(adB rfl (λ _ _=>.refl _) oz (jP (f:=Ac) (d:=jS) (by first | omega | exact Nat.min_le_left _ _ | exact Nat.le_trans (Nat.min_le_left _ _) om | (simp; omega))))⟩,trivial⟩⟩) λ _ hm=>by cases hm;exact re
theorem lH {s_:List ay} {r:List ay} (hm:iW s_ r):S 190 [aV s_] [] (.fn 229 [.ro [aV r]]) [] :=by
 have hm:r=s_:=hm
 subst hm
 exact abZ r
theorem zV {l_:List ay} {r:List Bool} (hm:wD l_ d_ r):S 140 [aV l_,fO d_] [] (aX r) [] :=spc [11] Tryz.func140 rfl<|sn hm λ _ hm=>VQ [11] hm (λ g1=>⟨[(0,aV l_),(5,.ptr 0 0 0),(13,fO d_),(14,iV (d_.length:Int)),(15,iV g1.1)],[(0,some (.box [.eF 1 0 g1.2.length false])),(1,some (.row 1 g1.2.length (bP AV.bool false g1.2)))],2⟩) [(0,some 32),(1,some 24)] [] <|λ aj g1 hm=>si hm (λ _ hm=>s2 hm λ _ _ hm=>sn hm λ _ hm=>le hm) λ _ hm=>sq hm lH λ v1 hm=>by
 have h11:=hm.1
 have hm:=hm.2
 refine Wm (ct:=[11]) (ct':=[11]) iX dk dk dk dk (WQ v1 h11) rfl (by intro v hv; simp at hv; exact ⟨_,hv⟩) hm (λ g2=>⟨[(5,.ptr 0 0 0),(25,.fn 229 [.ro [aV v1]])],[(0,some (.box [.eF 1 0 g2.length false])),(1,some (.row 1 g2.length (bP AV.bool false g2)))],2⟩) (λ k2 g2=>⟨[(5,.ptr 0 0 0),(8,iV ((v1.length - 1 - k2:Nat):Int)),(9,.ptr 2 0 0)],[(0,some (.box [.eF 1 0 g2.length false])),(1,some (.row 1 g2.length (bP AV.bool false g2))),(2,some (.box [iV ((v1.getD (v1.length - 1 - k2) au).aM),aC ((v1.getD (v1.length - 1 - k2) au).bK),iV ((v1.getD (v1.length - 1 - k2) au).gB),iV ((v1.getD (v1.length - 1 - k2) au).iy),.bool ((v1.getD (v1.length - 1 - k2) au).fM)]))],3⟩) (λ _ _=>r2) [] ⟨rfl,⟨r4,⟨rfl,Sd.refl _,trivial⟩,trivial⟩,⟨⟨⟨rfl,rfl,rfl,rfl,nofun⟩,trivial⟩,⟨rfl,rfl,(λ _ _=>.refl _)⟩,trivial⟩⟩ ?_ ?_ ?_
 ·intro k2 ll g2 hk
  refine ⟨Nat.le_of_ble_eq_true rfl,?_⟩
  (conv=>whnf)
  exact ⟨[(2,some 10)],⟨rfl,⟨r4,r2,r4,trivial⟩,⟨⟨⟨rfl,rfl,rfl,rfl,nofun⟩,trivial⟩,⟨rfl,rfl,(λ _ _=>.refl _)⟩,⟨r2,sr,r2,r2,rfl,trivial⟩,trivial⟩⟩⟩
 ·intro k2 ll dK g2 hk hm
  (conv=>whnf)
  refine aai (ct:=[11]) iX dk dk (BL v1 dK k2) r (λ g5=>⟨[(5,.ptr 0 0 0),(8,iV ((v1.length - 1 - k2:Nat):Int)),(9,.ptr 2 0 0)],[(0,some (.box [.eF 1 0 g5.length false])),(1,some (.row 1 g5.length (bP AV.bool false g5))),(2,some (.box [iV ((v1.getD (v1.length - 1 - k2) au).aM),aC ((v1.getD (v1.length - 1 - k2) au).bK),iV ((v1.getD (v1.length - 1 - k2) au).gB),iV ((v1.getD (v1.length - 1 - k2) au).iy),.bool ((v1.getD (v1.length - 1 - k2) au).fM)]))],3⟩) ?_ (λ g5 hm=>?_)
  ·(conv=>whnf)
   refine aZ hm λ h28 hm=>?_
   (conv=>whnf)
   refine aZ hm λ h29 hm=>?_
   (conv=>whnf)
   exact ⟨(g2.set (((v1.length - 1 - k2:Nat):Int).toNat) ((g2.getD (((v1.length - 1 - k2:Nat):Int).toNat) false)||(v1.getD (v1.length - 1 - k2) au).fM)),[],[],hm,⟨rfl,⟨r4,r2,r4,trivial⟩,⟨⟨⟨rfl,rfl,rfl,oz,nofun⟩,trivial⟩,⟨rfl,oz,(FC (λ _ _=>.refl _) rfl (.refl _))⟩,⟨r2,sr,r2,r2,rfl,trivial⟩,trivial⟩⟩⟩
  ·(conv=>whnf)
   refine aZ hm λ h26 hm=>?_
   (conv=>whnf)
   refine iY hm (λ c6 hm=>?_) (λ c6 hm=>?_)
   ·(conv=>whnf)
    refine aZ hm λ h27 hm=>?_
    (conv=>whnf)
    exact ⟨(g5.set (((v1.getD (v1.length - 1 - k2) au).aM).toNat) true),[],hm,⟨rfl,⟨r4,⟨rfl,Sd.refl _,trivial⟩,trivial⟩,⟨⟨⟨rfl,rfl,rfl,oz,nofun⟩,trivial⟩,⟨rfl,oz,(FC (λ _ _=>.refl _) rfl (.refl _))⟩,trivial⟩⟩⟩
   ·(conv=>whnf)
    exact ⟨g5,[],hm,⟨rfl,⟨r4,⟨rfl,Sd.refl _,trivial⟩,trivial⟩,⟨⟨⟨rfl,rfl,rfl,rfl,nofun⟩,trivial⟩,⟨rfl,rfl,(λ _ _=>.refl _)⟩,trivial⟩⟩⟩
 ·intro g2 hm
  (conv=>whnf)
  have hm:r=g2:=hm
  subst hm
  refine ⟨[1],[],?_⟩
  (conv=>whnf)
  exact ⟨⟨rfl,trivial,trivial⟩,sf⟩
theorem EM (hm:cmp_isNaN_int x_ r):S 255 [iV x_] [] (.bool r) [] :=sp Tryz.func255 rfl<|by cases hm;exact re
theorem Vd {y_:Int} (hm:cmp_Less_int x_ y_ r):S 248 [iV x_,iV y_] [] (.bool r) [] :=sp Tryz.func248 rfl<|sq hm EM λ v1 hm=>sb hm λ v2 hv2 hm=>cl (λ q0=>(EM (hv2 q0)))<|by cases hm;exact re
theorem zw (hm:zH x_ r):S 249 [iV x_] [] (.bool r) [] :=sp Tryz.func249 rfl<|by cases hm;exact re
theorem Cc {x_:List Int} {oD:Int} {r:Int×Bool} (hm:slices_BinarySearch_int x_ oD r):S 230 [aC x_,iV oD] [] (.kH [iV r.1,.bool r.2]) [] :=spc [8] Tryz.func230 rfl<|ck [8] (mG x_ oD) r (λ g2=>⟨[(0,aC x_),(1,iV oD),(6,iV (x_.length:Int)),(7,iV g2)],[],0⟩) (VQ [8] hm (λ g3=>⟨[(0,aC x_),(1,iV oD),(6,iV (x_.length:Int)),(7,iV g3.1),(8,iV g3.2)],[],0⟩) [] [] <|λ jZ g3 hm=>si hm (λ _ hm=>s2 hm λ _ _ hm=>sn hm λ _ hm=>sq hm Vd λ v8 hm=>si hm (λ _ hm=>sn hm λ _ hm=>le hm) λ _ hm=>le hm) λ _ hm=>le hm) λ g2 hm=>s2 hm λ _ _ hm=>sb hm λ v4 hv4 hm=>cl (λ q0 q1=>(zw (hv4 q0 q1)))<|sb hm λ v5 hv5 hm=>cl (λ q0 q1 q2=>(zw (hv5 q0 q1 q2)))<|by cases hm;exact re
theorem Ve {s_:ay} {Un:Int} {r:Int×Bool} (hm:J6 s_ Un r):S 191 [CX s_,iV Un] [] (.kH [iV r.1,.bool r.2]) [] :=sp Tryz.func191 rfl<|sq hm Cc λ v1 hm=>by cases hm;exact re
theorem Q6 {l_:List ay} {r:List gT×List Int×Int} (hm:xL l_ d_ r):S 139 [aV l_,fO d_] [] (.kH [Uk r.1,aC r.2.1,iV r.2.2]) [] :=sp Tryz.func139 rfl<|sb hm λ v1 hv1 hm=>cl ((DN hv1).le ⟨(.sl rfl (λ _=>rfl) nofun (gM Ac jS [(⟨(0:Int),(-1:Int),(-1:Int)⟩:gT)])),.refl _,trivial⟩ trivial)<|sn hm λ _ hm=>lf hm (λ g1=>⟨[(0,aV l_),(1,fO d_),(4,.ptr 0 0 0),(5,.ptr 1 0 0),(6,.ptr 2 0 0),(23,fO d_),(24,iV (d_.length:Int)),(25,iV g1.1)],[(0,some (.box [.eF 3 0 g1.2.1.length false])),(1,some (.box [.eF 4 0 g1.2.2.length false])),(2,some (.box [iV (0:Int)])),(3,some (.row 3 g1.2.1.length (bP Ac jS g1.2.1))),(4,some (.row 1 g1.2.2.length (bP iV 0 g1.2.2)))],5⟩) [(1,some 8),(2,some 16),(3,some 56),(4,some 80)] [] <|λ aj g1 hm=>si hm (λ _ hm=>s2 hm λ _ _ hm=>si hm (λ _ hm=>s2 hm λ _ _ hm=>le hm) λ _ hm=>sn hm λ _ hm=>le hm) λ _ hm=>sq hm zV λ v2 hm=>sq hm lH λ v3 hm=>by
 have h17:=hm.1
 have hm:=hm.2
 refine Wm (ct:=[]) (ct':=[]) iX dk dk dk dk (WQ v3 h17) rfl (by intro v hv; simp at hv; exact ⟨_,hv⟩) hm (λ g2=>⟨[(4,.ptr 0 0 0),(5,.ptr 1 0 0),(6,.ptr 2 0 0),(9,.ptr 3 0 0),(52,.fn 229 [.ro [aV v3]])],[(0,some (.box [.eF 4 0 g2.1.length false])),(1,some (.box [.eF 5 0 g2.2.length false])),(2,some (.box [iV (0:Int)])),(3,some (.box [aX v2])),(4,some (.row 3 g2.1.length (bP Ac jS g2.1))),(5,some (.row 1 g2.2.length (bP iV 0 g2.2)))],6⟩) (λ k2 g2=>⟨[(4,.ptr 0 0 0),(5,.ptr 1 0 0),(6,.ptr 2 0 0),(9,.ptr 3 0 0),(10,iV ((v3.length - 1 - k2:Nat):Int)),(11,.ptr 6 0 0)],[(0,some (.box [.eF 4 0 g2.1.length false])),(1,some (.box [.eF 5 0 g2.2.length false])),(2,some (.box [iV (0:Int)])),(3,some (.box [aX v2])),(4,some (.row 3 g2.1.length (bP Ac jS g2.1))),(5,some (.row 1 g2.2.length (bP iV 0 g2.2))),(6,some (.box [iV ((v3.getD (v3.length - 1 - k2) au).aM),aC ((v3.getD (v3.length - 1 - k2) au).bK),iV ((v3.getD (v3.length - 1 - k2) au).gB),iV ((v3.getD (v3.length - 1 - k2) au).iy),.bool ((v3.getD (v3.length - 1 - k2) au).fM)]))],7⟩) (λ _ _=>r2) [(3,some 37),(4,some 3),(5,some 4)] ⟨rfl,⟨r4,r4,r4,r4,⟨rfl,Sd.refl _,trivial⟩,trivial⟩,⟨⟨⟨rfl,rfl,rfl,rfl,nofun⟩,trivial⟩,⟨⟨rfl,rfl,rfl,rfl,nofun⟩,trivial⟩,⟨r2,trivial⟩,⟨sr,trivial⟩,⟨rfl,rfl,(λ _ _=>.refl _)⟩,⟨rfl,rfl,(λ _ _=>.refl _)⟩,trivial⟩⟩ ?_ ?_ ?_
 ·intro k2 ll g2 hk
  refine ⟨Nat.le_of_ble_eq_true rfl,?_⟩
  (conv=>whnf)
  exact ⟨[(6,some 14)],⟨rfl,⟨r4,r4,r4,r4,r2,r4,trivial⟩,⟨⟨⟨rfl,rfl,rfl,rfl,nofun⟩,trivial⟩,⟨⟨rfl,rfl,rfl,rfl,nofun⟩,trivial⟩,⟨r2,trivial⟩,⟨sr,trivial⟩,⟨rfl,rfl,(λ _ _=>.refl _)⟩,⟨rfl,rfl,(λ _ _=>.refl _)⟩,⟨r2,sr,r2,r2,rfl,trivial⟩,trivial⟩⟩⟩
 ·intro k2 ll dK g2 hk hm
  (conv=>whnf)
  refine aZ hm λ h32 hm=>?_
  (conv=>whnf)
  refine iY hm (λ c13 hm=>?_) (λ c13 hm=>?_)
  ·(conv=>whnf)
   exact ⟨(g2.1,g2.2),[],hm,⟨rfl,⟨r4,r4,r4,r4,⟨rfl,Sd.refl _,trivial⟩,trivial⟩,⟨⟨⟨rfl,rfl,rfl,rfl,nofun⟩,trivial⟩,⟨⟨rfl,rfl,rfl,rfl,nofun⟩,trivial⟩,⟨r2,trivial⟩,⟨sr,trivial⟩,⟨rfl,rfl,(λ _ _=>.refl _)⟩,⟨rfl,rfl,(λ _ _=>.refl _)⟩,trivial⟩⟩⟩
  ·(conv=>whnf)
   refine aZ hm λ h33 hm=>?_
   (conv=>whnf)
   refine iq hm λ v6 hv6 hm=>?_
   refine ⟨_,_,(Ve hv6),?_⟩
   (conv=>whnf)
   refine iY hm (λ c14 hm=>?_) (λ c14 hm=>?_)
   ·(conv=>whnf)
    have hm:r=(g2.1,g2.2,((v3.length - 1 - k2:Nat):Int)):=hm
    subst hm
    refine ⟨[4,5],[],?_⟩
    (conv=>whnf)
    exact ⟨⟨rfl,trivial,trivial⟩,(by (conv=>whnf); exact ⟨(by (conv=>whnf); exact sf),(by (conv=>whnf); exact ⟨(by (conv=>whnf); exact sf),(by (conv=>whnf); exact ⟨(by first | ((conv=>whnf); exact r2) | exact r2),trivial⟩)⟩)⟩)⟩
   ·(conv=>whnf)
    refine aZ hm λ h34 hm=>?_
    (conv=>whnf)
    refine aZ hm λ h35 hm=>?_
    (conv=>whnf)
    refine aZ hm λ h36 hm=>?_
    (conv=>whnf)
    refine aZ hm λ h37 hm=>?_
    (conv=>whnf)
    refine iY hm (λ c15 hm=>?_) (λ c15 hm=>?_)
    ·(conv=>whnf)
     refine aZ hm λ h38 hm=>?_
     (conv=>whnf)
     exact ⟨((g2.1.set (((v3.getD (v3.length - 1 - k2) au).aM).toNat) (⟨((((v3.getD (v3.length - 1 - k2) au).bK).getD v6.1.toNat 0)+(v3.getD (v3.length - 1 - k2) au).gB),(-1:Int),((v3.length - 1 - k2:Nat):Int)⟩:gT)),(g2.2.set (((v3.length - 1 - k2:Nat):Int).toNat) v6.1)),[],hm,⟨rfl,⟨r4,r4,r4,r4,⟨rfl,Sd.refl _,trivial⟩,trivial⟩,⟨⟨⟨rfl,rfl,rfl,oz,nofun⟩,trivial⟩,⟨⟨rfl,rfl,rfl,oz,nofun⟩,trivial⟩,⟨r2,trivial⟩,⟨sr,trivial⟩,⟨rfl,oz,(FC (λ _ _=>.refl _) rfl (.refl _))⟩,⟨rfl,oz,(FC (λ _ _=>.refl _) rfl (.refl _))⟩,trivial⟩⟩⟩
    ·(conv=>whnf)
     exact ⟨(g2.1,(g2.2.set (((v3.length - 1 - k2:Nat):Int).toNat) v6.1)),[],hm,⟨rfl,⟨r4,r4,r4,r4,⟨rfl,Sd.refl _,trivial⟩,trivial⟩,⟨⟨⟨rfl,rfl,rfl,rfl,nofun⟩,trivial⟩,⟨⟨rfl,rfl,rfl,oz,nofun⟩,trivial⟩,⟨r2,trivial⟩,⟨sr,trivial⟩,⟨rfl,rfl,(λ _ _=>.refl _)⟩,⟨rfl,oz,(FC (λ _ _=>.refl _) rfl (.refl _))⟩,trivial⟩⟩⟩
 ·intro g2 hm
  (conv=>whnf)
  have hm:r=(g2.1,g2.2,(-1:Int)):=hm
  subst hm
  refine ⟨[4,5],[],?_⟩
  (conv=>whnf)
  exact ⟨⟨rfl,trivial,trivial⟩,(by (conv=>whnf); exact ⟨(by (conv=>whnf); exact sf),(by (conv=>whnf); exact ⟨(by (conv=>whnf); exact sf),(by (conv=>whnf); exact ⟨(by first | ((conv=>whnf); exact r2) | exact r2),trivial⟩)⟩)⟩)⟩
theorem Vf {l_:List ay} {r_:cu} (hm:Dc l_ r_ r):S 192 [aV l_,BG r_] [] (.bool r) [] :=sp Tryz.func192 rfl<|sq hm rJ λ v1 hm=>si hm (λ _ hm=>by cases hm;exact re) λ _ hm=>l0 hm (λ g1=>⟨[(0,aV l_),(27,aC r_.dQ),(28,iV (r_.dQ.length:Int)),(29,iV g1)],[],0⟩) <|λ aj g1 hm=>si hm (λ _ hm=>s2 hm λ _ _ hm=>sn hm λ _ hm=>sq hm iC λ v4 hm=>si hm (λ _ hm=>by cases hm;exact re) λ _ hm=>sn hm λ _ hm=>le hm) λ _ hm=>by cases hm;exact re
theorem Vg {l_:List ay} {r:List Int} (hm:Df l_ d_ r):S 193 [aV l_,fO d_] [] (aC r) [] :=sp Tryz.func193 rfl<|sn hm λ _ hm=>lf hm (λ g1=>⟨[(0,aV l_),(5,.ptr 0 0 0),(13,fO d_),(14,iV (d_.length:Int)),(15,iV g1.1)],[(0,some (.box [.eF 1 0 g1.2.length false])),(1,some (.row 1 g1.2.length (bP iV 0 g1.2)))],2⟩) [(0,some 32),(1,some 24)] [] <|λ aj g1 hm=>si hm (λ _ hm=>s2 hm λ _ _ hm=>s2 hm λ _ _ hm=>sn hm λ _ hm=>le hm) λ _ hm=>sq hm lH λ v1 hm=>by
 have h17:=hm.1
 have hm:=hm.2
 refine Wm (ct:=[]) (ct':=[]) iX dk dk dk dk (WQ v1 h17) rfl (by intro v hv; simp at hv; exact ⟨_,hv⟩) hm (λ g2=>⟨[(5,.ptr 0 0 0),(30,.fn 229 [.ro [aV v1]])],[(0,some (.box [.eF 1 0 g2.length false])),(1,some (.row 1 g2.length (bP iV 0 g2)))],2⟩) (λ k2 g2=>⟨[(5,.ptr 0 0 0),(8,iV ((v1.length - 1 - k2:Nat):Int)),(9,.ptr 2 0 0)],[(0,some (.box [.eF 1 0 g2.length false])),(1,some (.row 1 g2.length (bP iV 0 g2))),(2,some (.box [iV ((v1.getD (v1.length - 1 - k2) au).aM),aC ((v1.getD (v1.length - 1 - k2) au).bK),iV ((v1.getD (v1.length - 1 - k2) au).gB),iV ((v1.getD (v1.length - 1 - k2) au).iy),.bool ((v1.getD (v1.length - 1 - k2) au).fM)]))],3⟩) (λ _ _=>r2) [] ⟨rfl,⟨r4,⟨rfl,Sd.refl _,trivial⟩,trivial⟩,⟨⟨⟨rfl,rfl,rfl,rfl,nofun⟩,trivial⟩,⟨rfl,rfl,(λ _ _=>.refl _)⟩,trivial⟩⟩ ?_ ?_ ?_
 ·intro k2 ll g2 hk
  refine ⟨Nat.le_of_ble_eq_true rfl,?_⟩
  (conv=>whnf)
  exact ⟨[(2,some 10)],⟨rfl,⟨r4,r2,r4,trivial⟩,⟨⟨⟨rfl,rfl,rfl,rfl,nofun⟩,trivial⟩,⟨rfl,rfl,(λ _ _=>.refl _)⟩,⟨r2,sr,r2,r2,rfl,trivial⟩,trivial⟩⟩⟩
 ·intro k2 ll dK g2 hk hm
  (conv=>whnf)
  refine iY hm (λ c6 hm=>?_) (λ c6 hm=>?_)
  ·(conv=>whnf)
   refine aZ hm λ h26 hm=>?_
   (conv=>whnf)
   refine aZ hm λ h27 hm=>?_
   (conv=>whnf)
   refine aZ hm λ h28 hm=>?_
   (conv=>whnf)
   refine aZ hm λ h29 hm=>?_
   (conv=>whnf)
   exact ⟨(g2.set (((v1.getD (v1.length - 1 - k2) au).aM).toNat) ((g2.getD (((v1.getD (v1.length - 1 - k2) au).aM).toNat) 0)+(g2.getD (((v1.length - 1 - k2:Nat):Int).toNat) 0))),[],hm,⟨rfl,⟨r4,⟨rfl,Sd.refl _,trivial⟩,trivial⟩,⟨⟨⟨rfl,rfl,rfl,oz,nofun⟩,trivial⟩,⟨rfl,oz,(FC (λ _ _=>.refl _) rfl (.refl _))⟩,trivial⟩⟩⟩
  ·(conv=>whnf)
   exact ⟨g2,[],hm,⟨rfl,⟨r4,⟨rfl,Sd.refl _,trivial⟩,trivial⟩,⟨⟨⟨rfl,rfl,rfl,rfl,nofun⟩,trivial⟩,⟨rfl,rfl,(λ _ _=>.refl _)⟩,trivial⟩⟩⟩
 ·intro g2 hm
  (conv=>whnf)
  have hm:r=g2:=hm
  subst hm
  refine ⟨[1],[],?_⟩
  (conv=>whnf)
  exact ⟨⟨rfl,trivial,trivial⟩,sf⟩
theorem Q7 {x_:bf} {qy:List ay} {ajy:List Bool} {Wn:List Int} (hm:r9 x_ qy ajy Wn r):S 195 [Ic x_,.ro [aV qy],.ro [aX ajy,aC Wn]] [] (.bool r) [] :=sp Tryz.func195 rfl<|s2 hm λ _ _ hm=>sn hm λ _ hm=>sq hm iC λ v1 hm=>by cases hm;exact re
theorem yM {s_:List bf} {BM:List ay} {Co:List Bool} {Cq:List Int} {r:Int} (hm:qZ s_ BM Co Cq r):S 231 [fO s_,.fn 195 [.ro [aV BM],.ro [aX Co,aC Cq]]] [] (iV r) [] :=sp Tryz.func231 rfl<|l0 hm (λ g1=>⟨[(0,fO s_),(1,.fn 195 [.ro [aV BM],.ro [aX Co,aC Cq]]),(7,iV (s_.length:Int)),(8,iV g1)],[],0⟩) <|λ aj g1 hm=>si hm (λ _ hm=>sn hm λ _ hm=>sq hm Q7 λ v3 hm=>si hm (λ _ hm=>by cases hm;exact re) λ _ hm=>sn hm λ _ hm=>le hm) λ _ hm=>by cases hm;exact re
theorem uS {s_:List bf} {BM:List ay} {Co:List Bool} {Cq:List Int} (hm:kJ s_ BM Co Cq r):S 194 [fO s_,.fn 195 [.ro [aV BM],.ro [aX Co,aC Cq]]] [] (.bool r) [] :=sp Tryz.func194 rfl<|sq hm yM λ v1 hm=>by cases hm;exact re
theorem Gq {l_:List ay} {r_:cu} (hm:xM l_ r_ d_ r):S 141 [aV l_,BG r_,fO d_] [] (.bool r) [] :=sp Tryz.func141 rfl<|sq hm Vf λ v1 hm=>sb hm λ v2 hv2 hm=>cl (λ q0=>(Gp (hv2 q0)))<|si hm (λ _ hm=>by cases hm;exact re) λ _ hm=>sq hm zV λ v3 hm=>sq hm Vg λ v4 hm=>lf hm (λ g1=>⟨[(2,fO d_),(3,.ptr 0 0 0),(4,.ptr 1 0 0),(7,aX v3),(8,aC v4),(28,aV l_),(29,iV (l_.length:Int)),(30,iV g1)],[(0,some (.box [aV l_])),(1,some (.box [aX r_.On,aC r_.dQ]))],2⟩) [(1,some 8)] [] <|λ aj g1 hm=>si hm (λ _ hm=>s2 hm λ _ _ hm=>si hm (λ _ hm=>sn hm λ _ hm=>si hm (λ _ hm=>by cases hm;exact re) λ _ hm=>sn hm λ _ hm=>le hm) λ _ hm=>s2 hm λ _ _ hm=>s2 hm λ _ _ hm=>s2 hm λ _ _ hm=>s2 hm λ _ _ hm=>si hm (λ _ hm=>by cases hm;exact re) λ _ hm=>sn hm λ _ hm=>le hm) λ _ hm=>sq hm uS λ v5 hm=>by cases hm;exact re
theorem Vh {l_:List ay} {r:cu×Int} (hm:Dg l_ d_ r):S 91 [aV l_,fO d_] [] (.kH [BG r.1,iV r.2]) [] :=sp Tryz.func91 rfl<|sq hm Vb λ v1 hm=>si hm (λ _ hm=>by cases hm;exact re) λ _ hm=>sq hm Q6 λ v2 hm=>sq hm zV λ v3 hm=>sb hm λ v4 hv4 hm=>cl (λ q0=>(Gq (hv4 q0)))<|si hm (λ _ hm=>by cases hm;exact re) λ _ hm=>by cases hm;exact re
theorem Tw {r:List Int} (hm:GK n_ r):S 94 [xA n_] [] (aC r) [] :=sp Tryz.func94 rfl<|by cases hm;exact re
theorem M6 {r:List Int} (hm:Io l_ ah r):S 93 [dO l_,aC ah,.fn 94 []] [] (aC r) [] :=sp Tryz.func93 rfl<|lf hm (λ g1=>⟨[(0,dO l_),(2,.fn 94 []),(7,.eF 0 0 g1.2.length false),(10,aC ah),(11,iV (ah.length:Int)),(12,iV g1.1)],[(0,some (.row 1 g1.2.length (bP iV 0 g1.2)))],1⟩) [(0,none)] [] <|λ aj g1 hm=>si hm (λ _ hm=>sn hm λ _ hm=>si hm (λ _ hm=>sn hm λ _ hm=>sq hm Tw λ v3 hm=>s2 hm λ _ _ hm=>lc [(0,some 153)] [] hm) λ _ hm=>sn hm λ _ hm=>le hm) λ _ hm=>by cases hm;exact rt [0] []
theorem Vi {l_:List eG} {eT:List Int} {r:List Bool} (hm:Dh l_ eT r):S 142 [dA l_,aC eT] [] (aX r) [] :=sp Tryz.func142 rfl<|sn hm λ _ hm=>lf hm (λ g1=>⟨[(0,dA l_),(5,.eF 0 0 g1.2.length false),(14,aC eT),(15,iV (eT.length:Int)),(16,iV g1.1)],[(0,some (.row 1 g1.2.length (bP AV.bool false g1.2)))],1⟩) [(0,some 24)] [] <|λ aj g1 hm=>si hm (λ _ hm=>s2 hm λ _ _ hm=>sn hm λ _ hm=>le hm) λ _ hm=>sn hm λ _ hm=>l0 hm (λ g2=>⟨[(0,dA l_),(5,.eF 0 0 g2.2.length false),(8,iV g2.1)],[(0,some (.row 1 g2.2.length (bP AV.bool false g2.2)))],1⟩) <|λ dK g2 hm=>si hm (λ _ hm=>sn hm λ _ hm=>l0 hm (λ g5=>⟨[(0,dA l_),(5,.eF 0 0 g5.2.length false),(8,iV g2.1),(35,aC ((l_.getD g2.1.toNat dz).dX)),(36,iV ((((l_.getD g2.1.toNat dz).dX).length:Nat):Int)),(37,iV g5.1)],[(0,some (.row 1 g5.2.length (bP AV.bool false g5.2)))],1⟩) <|λ ku g5 hm=>si hm (λ _ hm=>s2 hm λ _ _ hm=>s2 hm λ _ _ hm=>sn hm λ _ hm=>le hm) λ _ hm=>sn hm λ _ hm=>le hm) λ _ hm=>by cases hm;exact rt [0] []
theorem Vj {l_:List eG} {eT:List Int} {r:List Bool×Int} (hm:Di l_ eT r):S 92 [dA l_,aC eT] [] (.kH [aX r.1,iV r.2]) [] :=sp Tryz.func92 rfl<|sq hm zS λ v1 hm=>si hm (λ _ hm=>by cases hm;exact re) λ _ hm=>l0 hm (λ g1=>⟨[(0,dA l_),(1,aC eT),(11,aC eT),(12,iV (eT.length:Int)),(13,iV g1)],[],0⟩) <|λ aj g1 hm=>si hm (λ _ hm=>sn hm λ _ hm=>si hm (λ _ hm=>by cases hm;exact re) λ _ hm=>sn hm λ _ hm=>le hm) λ _ hm=>sq hm Vi λ v2 hm=>by cases hm;exact re
theorem Tx {r:List Int} (hm:GL n_ r):S 96 [xA n_] [] (aC r) [] :=sp Tryz.func96 rfl<|si hm (λ _ hm=>by cases hm;exact re) λ _ hm=>by cases hm;exact rt [56] []
theorem G9 {r:List Int} (hm:Cr l_ ah r):S 93 [dO l_,aC ah,.fn 96 []] [] (aC r) [] :=sp Tryz.func93 rfl<|lf hm (λ g1=>⟨[(0,dO l_),(2,.fn 96 []),(7,.eF 0 0 g1.2.length false),(10,aC ah),(11,iV (ah.length:Int)),(12,iV g1.1)],[(0,some (.row 1 g1.2.length (bP iV 0 g1.2)))],1⟩) [(0,none)] [] <|λ aj g1 hm=>si hm (λ _ hm=>sn hm λ _ hm=>si hm (λ _ hm=>sn hm λ _ hm=>sq hm Tx λ v3 hm=>s2 hm λ _ _ hm=>lc [(0,some 153)] [] hm) λ _ hm=>sn hm λ _ hm=>le hm) λ _ hm=>by cases hm;exact rt [0] []
theorem Q8 {l_:List dF} {eP:List Int} {r:Int} (hm:xO l_ eP r):S 143 [bY l_,aC eP] [] (iV r) [] :=sp Tryz.func143 rfl<|sq hm yK λ v1 hm=>si hm (λ _ hm=>by cases hm;exact re) λ _ hm=>l0 hm (λ g1=>⟨[(0,bY l_),(10,aC eP),(11,iV (eP.length:Int)),(12,iV g1)],[],0⟩) <|λ aj g1 hm=>si hm (λ _ hm=>sn hm λ _ hm=>si hm (λ _ hm=>by cases hm;exact re) λ _ hm=>sn hm λ _ hm=>le hm) λ _ hm=>by cases hm;exact re
theorem aa6 {l_:List dF} {eP:List Int} {r:List Bool×Int} (hm:Ql l_ eP r):S 95 [bY l_,aC eP] [] (.kH [aX r.1,iV r.2]) [] :=spc [9] Tryz.func95 rfl<|sq hm Q8 λ v1 hm=>si hm (λ _ hm=>by cases hm;exact re) λ _ hm=>s2 hm λ _ _ hm=>VQ [9] hm (λ g1=>⟨[(0,bY l_),(1,aC eP),(7,.eF 0 0 g1.2.length false),(8,iV g1.1)],[(0,some (.row 1 g1.2.length (bP AV.bool false g1.2)))],1⟩) [(0,some 80)] [] <|λ aj g1 hm=>si hm (λ _ hm=>ck [9] (J8 l_ g1 aj) r (λ g4=>⟨[(0,bY l_),(1,aC eP),(7,.eF 0 0 g4.length false),(8,iV g1.1)],[(0,some (.row 1 g4.length (bP AV.bool false g4)))],1⟩) (s2 hm λ _ _ hm=>sb hm λ v7 hv7 hm=>cl (λ q0=>(fE (hv7 q0)))<|sn hm λ _ hm=>le hm) λ g4 hm=>s2 hm λ _ _ hm=>si hm (λ _ hm=>s2 hm λ _ _ hm=>sn hm λ _ hm=>le hm) λ _ hm=>sn hm λ _ hm=>le hm) λ _ hm=>by cases hm;exact rt [0] []
theorem mE {iJ:List aR} {r:List Int×List Bool×List Int×List Bool×List Bool×Int×Int×List aR} (hm:lg b_ l_ ah iJ r):S 46 [jm b_,dO l_,aC ah,dP iJ] [] (.kH [.agg [aC r.1,aX r.2.1,aC r.2.2.1,.eF 0 0 r.2.2.2.2.2.2.2.length false,aX r.2.2.2.1,aX r.2.2.2.2.1],iV r.2.2.2.2.2.1,iV r.2.2.2.2.2.2.1]) [.row 3 r.2.2.2.2.2.2.2.length (bP pQ bC r.2.2.2.2.2.2.2)] :=sp Tryz.func46 rfl<|sq hm U6 λ v1 hm=>sq hm WS λ v2 hm=>si hm (λ _ hm=>sq hm Pw λ v3 hm=>si hm (λ _ hm=>by cases hm;exact rt [] [(0,none)]) λ _ hm=>sq hm Va λ v4 hm=>si hm (λ _ hm=>by cases hm;exact rt [] [(0,none)]) λ _ hm=>sq hm Vh λ v5 hm=>si hm (λ _ hm=>by cases hm;exact rt [] [(0,none)]) λ _ hm=>lf hm (λ g1=>⟨[(1,dO l_),(2,aC ah),(4,.ptr 0 0 0),(8,.ptr 1 0 0),(16,.ptr 2 0 0),(64,dP iJ),(65,iV (iJ.length:Int)),(66,iV g1.1)],[(0,some (.box [bA b_.bS,aV b_.bG,iV b_.aT.bQ,bD b_.aT.aD,dA b_.bq,bY b_.cO])),(1,some (.box [.sl 0 0 true fJ,.sl 0 0 true fJ,.sl 0 0 true fJ,.sl 0 0 true fJ,.sl 0 0 true fJ,.sl 0 0 true fJ])),(2,some (.box [aC v4.1,aX v5.1.On,aC v5.1.dQ,.eF 3 0 g1.2.length false,.sl 0 0 true fJ,.sl 0 0 true fJ])),(3,some (.row 3 g1.2.length (bP pQ bC g1.2)))],4⟩) [(1,some 8),(2,some 424),(3,none)] [] <|λ aj g1 hm=>si hm (λ _ hm=>sn hm λ _ hm=>sq hm fE λ v8 hm=>si hm (λ _ hm=>s2 hm λ _ _ hm=>lc [(3,some 108)] [] hm) λ _ hm=>sn hm λ _ hm=>le hm) λ _ hm=>sq hm M6 λ v9 hm=>sq hm Vj λ v10 hm=>sq hm G9 λ v11 hm=>sq hm aa6 λ v12 hm=>by cases hm;exact rt [] [(0,some 3)]) λ c1 hm=>by
 refine ⟨(λ q0=>absurd q0 (vac c1)),?_⟩
 (conv=>whnf)
 refine ⟨(λ q0=>absurd q0 (vac c1)),?_⟩
 (conv=>whnf)
 refine aZ hm λ h13 hm=>?_
 (conv=>whnf)
 have hm:r=(([]:List Int),([]:List Bool),([]:List Int),([]:List Bool),([]:List Bool),(4:Int),(45:Int),([]:List aR)):=hm
 subst hm
 refine ⟨[],[(0,none)],?_⟩
 (conv=>whnf)
 exact ⟨⟨rfl,trivial,⟨rfl,trivial⟩⟩,⟨⟨⟨rfl,(λ h=>absurd rfl h),nofun,(λ _ h=>absurd h (Nat.not_lt_zero _))⟩,⟨rfl,(λ h=>absurd rfl h),nofun,(λ _ h=>absurd h (Nat.not_lt_zero _))⟩,⟨rfl,(λ h=>absurd rfl h),nofun,(λ _ h=>absurd h (Nat.not_lt_zero _))⟩,⟨rfl,rfl,rfl,rfl,rfl,rfl⟩,⟨rfl,(λ h=>absurd rfl h),nofun,(λ _ h=>absurd h (Nat.not_lt_zero _))⟩,⟨rfl,(λ h=>absurd rfl h),nofun,(λ _ h=>absurd h (Nat.not_lt_zero _))⟩,trivial⟩,r2,r2,trivial⟩⟩
theorem YN {r:bg×Int} (hm:aan b_ r):S 18 [jm b_] [] (.kH [jK r.1,iV r.2]) [] :=sp Tryz.func18 rfl<|sq hm Jl λ v1 hm=>si hm (λ _ hm=>by cases hm;exact re) λ _ hm=>sb hm λ v2 hv2 hm=>cl ((mE hv2).le ⟨.refl _,(.sl rfl (λ h=>absurd rfl h) nofun (λ _ h=>absurd h (Nat.not_lt_zero _))),(.sl rfl (λ h=>absurd rfl h) nofun (λ _ h=>absurd h (Nat.not_lt_zero _))),(.sl rfl (λ h=>absurd rfl h) nofun (λ _ h=>absurd h (Nat.not_lt_zero _))),trivial⟩ trivial)<|by cases hm;exact rt [72] []
theorem kT {C9:Int} {oP:Int} (hm:qF x_ C9 oP r):S 207 [iV x_,iV C9,iV oP] [] (.bool r) [] :=sp Tryz.func207 rfl<|by cases hm;exact re
theorem YO {iM:Int} {r:Int} (hm:J9 b_ n_ iM r):S 158 [jm b_,xA n_,iV iM] [] (iV r) [] :=sp Tryz.func158 rfl<|si hm (λ _ hm=>by cases hm;exact re) λ _ hm=>lf hm (λ g1=>⟨[(2,iV iM),(3,.ptr 0 0 0),(4,.ptr 1 0 0),(35,fA n_.bU),(36,iV (n_.bU.length:Int)),(37,iV g1)],[(0,some (.box [bA b_.bS,aV b_.bG,iV b_.aT.bQ,bD b_.aT.aD,dA b_.bq,bY b_.cO])),(1,some (.box [fA n_.bU,fO n_.fF,gG n_.ak,aC n_.bq,iV n_.fT,aC n_.bT]))],2⟩) [(1,some 8)] [] <|λ aj g1 hm=>si hm (λ _ hm=>s2 hm λ _ _ hm=>sq hm kT λ v3 hm=>si hm (λ _ hm=>by cases hm;exact re) λ _ hm=>sn hm λ _ hm=>le hm) λ _ hm=>l0 hm (λ g2=>⟨[(2,iV iM),(3,.ptr 0 0 0),(4,.ptr 1 0 0),(68,fO n_.fF),(69,iV (n_.fF.length:Int)),(70,iV g2)],[(0,some (.box [bA b_.bS,aV b_.bG,iV b_.aT.bQ,bD b_.aT.aD,dA b_.bq,bY b_.cO])),(1,some (.box [fA n_.bU,fO n_.fF,gG n_.ak,aC n_.bq,iV n_.fT,aC n_.bT]))],2⟩) <|λ dK g2 hm=>si hm (λ _ hm=>s2 hm λ _ _ hm=>sq hm kT λ v8 hm=>sb hm λ v9 Wx hm=>cl (λ q0=>(kT (Wx q0)))<|si hm (λ _ hm=>by cases hm;exact re) λ _ hm=>sn hm λ _ hm=>le hm) λ _ hm=>l0 hm (λ g3=>⟨[(2,iV iM),(3,.ptr 0 0 0),(4,.ptr 1 0 0),(107,gG n_.ak),(108,iV (n_.ak.length:Int)),(109,iV g3)],[(0,some (.box [bA b_.bS,aV b_.bG,iV b_.aT.bQ,bD b_.aT.aD,dA b_.bq,bY b_.cO])),(1,some (.box [fA n_.bU,fO n_.fF,gG n_.ak,aC n_.bq,iV n_.fT,aC n_.bT]))],2⟩) <|λ jZ g3 hm=>si hm (λ _ hm=>sn hm λ _ hm=>sq hm yJ λ v12 hm=>si hm (λ _ hm=>by cases hm;exact re) λ _ hm=>sn hm λ _ hm=>le hm) λ _ hm=>l0 hm (λ g4=>⟨[(2,iV iM),(3,.ptr 0 0 0),(4,.ptr 1 0 0),(118,aC n_.bq),(119,iV (n_.bq.length:Int)),(120,iV g4)],[(0,some (.box [bA b_.bS,aV b_.bG,iV b_.aT.bQ,bD b_.aT.aD,dA b_.bq,bY b_.cO])),(1,some (.box [fA n_.bU,fO n_.fF,gG n_.ak,aC n_.bq,iV n_.fT,aC n_.bT]))],2⟩) <|λ jq g4 hm=>si hm (λ _ hm=>s2 hm λ _ _ hm=>sq hm kT λ v15 hm=>si hm (λ _ hm=>by cases hm;exact re) λ _ hm=>sn hm λ _ hm=>le hm) λ _ hm=>sn hm λ _ hm=>sq hm kT λ v16 hm=>si hm (λ _ hm=>by cases hm;exact re) λ _ hm=>lf hm (λ g5=>⟨[(2,iV iM),(4,.ptr 0 0 0),(141,aC n_.bT),(142,iV (n_.bT.length:Int)),(143,iV g5)],[(0,some (.box [fA n_.bU,fO n_.fF,gG n_.ak,aC n_.bq,iV n_.fT,aC n_.bT]))],1⟩) [(0,some 1)] [] <|λ ku g5 hm=>si hm (λ _ hm=>s2 hm λ _ _ hm=>sq hm kT λ v19 hm=>si hm (λ _ hm=>by cases hm;exact re) λ _ hm=>sn hm λ _ hm=>le hm) λ _ hm=>l0 hm (λ g6=>⟨[(4,.ptr 0 0 0),(17,iV g6)],[(0,some (.box [fA n_.bU,fO n_.fF,gG n_.ak,aC n_.bq,iV n_.fT,aC n_.bT]))],1⟩) <|λ jH g6 hm=>si hm (λ _ hm=>s2 hm λ _ _ hm=>sn hm λ _ hm=>si hm (λ _ hm=>by cases hm;exact re) λ _ hm=>sn hm λ _ hm=>le hm) λ _ hm=>by cases hm;exact re
theorem Ms {r:Int} (hm:Ef b_ l_ r):S 110 [jm b_,dO l_] [] (iV r) [] :=sp Tryz.func110 rfl<|sq hm Jl λ v1 hm=>si hm (λ _ hm=>by cases hm;exact re) λ _ hm=>si hm (λ _ hm=>by cases hm;exact re) λ _ hm=>l0 hm (λ g1=>⟨[(1,dO l_),(2,.ptr 0 0 0),(17,dO l_),(18,iV (l_.length:Int)),(19,iV g1)],[(0,some (.box [bA b_.bS,aV b_.bG,iV b_.aT.bQ,bD b_.aT.aD,dA b_.bq,bY b_.cO]))],1⟩) <|λ aj g1 hm=>si hm (λ _ hm=>sn hm λ _ hm=>sq hm YO λ v4 hm=>si hm (λ _ hm=>by cases hm;exact re) λ _ hm=>sn hm λ _ hm=>le hm) λ _ hm=>by cases hm;exact re
theorem Jm {r:Int} (hm:AY b_ l_ ah r):S 61 [jm b_,dO l_,aC ah] [] (iV r) [] :=sp Tryz.func61 rfl<|sq hm Ms λ v1 hm=>si hm (λ _ hm=>by cases hm;exact re) λ _ hm=>l0 hm (λ g1=>⟨[(1,dO l_),(2,aC ah),(16,aC ah),(17,iV (ah.length:Int)),(18,iV g1)],[],0⟩) <|λ aj g1 hm=>si hm (λ _ hm=>s2 hm λ _ _ hm=>sb hm λ v4 hv4 hm=>cl (λ q0=>((fE (hv4 q0)).le ⟨(.sl oz (λ _=>rfl) nofun (jP (f:=iV) (d:=0) (by first | omega | exact Nat.min_le_left _ _ | exact Nat.le_trans (Nat.min_le_left _ _) om | (simp; omega)))),.refl _,trivial⟩ trivial))<|si hm (λ _ hm=>by cases hm;exact re) λ _ hm=>sn hm λ _ hm=>le hm) λ _ hm=>by cases hm;exact re
theorem Pz (hm:uY l_ ah r):S 210 [dO l_,aC ah] [] (.bool r) [] :=sp Tryz.func210 rfl<|l0 hm (λ g1=>⟨[(0,dO l_),(1,aC ah),(7,aC ah),(8,iV (ah.length:Int)),(9,iV g1)],[],0⟩) <|λ aj g1 hm=>si hm (λ _ hm=>s2 hm λ _ _ hm=>sq hm kT λ v5 hm=>sn hm λ _ hm=>sb hm λ v6 hv6 hm=>cl (λ q0=>((fE (hv6 q0)).le ⟨(.sl oz (λ _=>rfl) nofun (jP (f:=iV) (d:=0) (by first | omega | exact Nat.min_le_left _ _ | exact Nat.le_trans (Nat.min_le_left _ _) om | (simp; omega)))),.refl _,trivial⟩ trivial))<|si hm (λ _ hm=>by cases hm;exact re) λ _ hm=>sn hm λ _ hm=>le hm) λ _ hm=>by cases hm;exact re
theorem KH {s_:ig} (hm:ru s_ r):S 167 [JY s_] [] (.bool r) [] :=sp Tryz.func167 rfl<|sq hm Pz λ v1 hm=>si hm (λ _ hm=>by cases hm;exact re) λ _ hm=>lf hm (λ g1=>⟨[(1,.ptr 0 0 0),(4,.ptr 1 0 0),(67,bA s_.bH.bS),(68,iV (s_.bH.bS.length:Int)),(69,iV g1)],[(0,some (.box [bA s_.bH.bS,aV s_.bH.bG,iV s_.bH.aT.bQ,bD s_.bH.aT.aD,dA s_.bH.bq,bY s_.bH.cO,dO s_.dB,aC s_.aQ,aC s_.aW.dG,aX s_.aW.fC.On,aC s_.aW.fC.dQ,dP s_.aW.bZ,aX s_.aW.d9,aX s_.aW.fB,.bool s_.jT])),(1,some (.box [aC s_.aW.dG,aX s_.aW.fC.On,aC s_.aW.fC.dQ,dP s_.aW.bZ,aX s_.aW.d9,aX s_.aW.fB]))],2⟩) [(1,some 56)] [] <|λ aj g1 hm=>si hm (λ _ hm=>s2 hm λ _ _ hm=>sn hm λ _ hm=>sq hm kT λ v4 hm=>si hm (λ _ hm=>by cases hm;exact re) λ _ hm=>sn hm λ _ hm=>le hm) λ _ hm=>l0 hm (λ g2=>⟨[(1,.ptr 0 0 0),(87,dP s_.aW.bZ),(88,iV (s_.aW.bZ.length:Int)),(89,iV g2)],[(0,some (.box [bA s_.bH.bS,aV s_.bH.bG,iV s_.bH.aT.bQ,bD s_.bH.aT.aD,dA s_.bH.bq,bY s_.bH.cO,dO s_.dB,aC s_.aQ,aC s_.aW.dG,aX s_.aW.fC.On,aC s_.aW.fC.dQ,dP s_.aW.bZ,aX s_.aW.d9,aX s_.aW.fB,.bool s_.jT]))],1⟩) <|λ dK g2 hm=>si hm (λ _ hm=>s2 hm λ _ _ hm=>sq hm kT λ v7 hm=>si hm (λ _ hm=>by cases hm;exact re) λ _ hm=>sn hm λ _ hm=>le hm) λ _ hm=>by cases hm;exact re
theorem CO {l_:List aI} {r:List bL} (hm:sj l_ s_ r):S 225 [bA l_,aC s_] [] (rT r) [] :=sp Tryz.func225 rfl<|sn hm λ _ hm=>lf hm (λ g1=>⟨[(0,bA l_),(1,aC s_),(5,.eF 0 0 g1.2.length false),(13,bA l_),(14,iV (l_.length:Int)),(15,iV g1.1)],[(0,some (.row 2 g1.2.length (bP qE dS g1.2)))],1⟩) [(0,some 24)] [] <|λ aj g1 hm=>si hm (λ _ hm=>s2 hm λ _ _ hm=>sn hm λ _ hm=>sq hm Gn λ v7 hm=>si hm (λ _ hm=>s2 hm λ _ _ hm=>le hm) λ _ hm=>sn hm λ _ hm=>si hm (λ _ hm=>s2 hm λ _ _ hm=>le hm) λ _ hm=>si hm (λ _ hm=>sn hm λ _ hm=>sq hm Px λ v8 hm=>s2 hm λ _ _ hm=>le hm) λ _ hm=>si hm (λ _ hm=>sn hm λ _ hm=>sq hm Mr λ v9 hm=>s2 hm λ _ _ hm=>le hm) λ _ hm=>s2 hm λ _ _ hm=>sn hm λ _ hm=>le hm) λ _ hm=>by cases hm;exact rt [0] []
theorem Tz {x_:bN} {qy:List bL} (hm:uJ x_ qy r):S 234 [zC x_,.ro [rT qy]] [] (.bool r) [] :=sp Tryz.func234 rfl<|s2 hm λ _ _ hm=>sb hm λ v1 hv1 hm=>cl (λ q0=>(zU (hv1 q0)))<|by cases hm;exact re
theorem wX {s_:List bN} {f_:List bL} {r:Int} (hm:qG s_ f_ r):S 241 [fA s_,.fn 234 [.ro [rT f_]]] [] (iV r) [] :=sp Tryz.func241 rfl<|l0 hm (λ g1=>⟨[(0,fA s_),(1,.fn 234 [.ro [rT f_]]),(7,iV (s_.length:Int)),(8,iV g1)],[],0⟩) <|λ aj g1 hm=>si hm (λ _ hm=>sn hm λ _ hm=>sq hm Tz λ v3 hm=>si hm (λ _ hm=>by cases hm;exact re) λ _ hm=>sn hm λ _ hm=>le hm) λ _ hm=>by cases hm;exact re
theorem uD {s_:List bN} {f_:List bL} (hm:kg s_ f_ r):S 222 [fA s_,.fn 234 [.ro [rT f_]]] [] (.bool r) [] :=sp Tryz.func222 rfl<|sq hm wX λ v1 hm=>by cases hm;exact re
theorem WX {l_:List aI} (hm:FN l_ s_ m_ r):S 211 [bA l_,aC s_,fA m_] [] (.bool r) [] :=sp Tryz.func211 rfl<|sq hm Gm λ v1 hm=>sb hm λ v2 hv2 hm=>cl (λ q0=>(vX (hv2 q0)))<|si hm (λ _ hm=>by cases hm;exact re) λ _ hm=>sq hm CO λ v3 hm=>lf hm (λ g1=>⟨[(2,fA m_),(7,.ptr 0 0 0),(23,bA l_),(24,iV (l_.length:Int)),(25,iV g1)],[(0,some (.box [rT v3]))],1⟩) [(0,some 112)] [] <|λ aj g1 hm=>si hm (λ _ hm=>s2 hm λ _ _ hm=>sn hm λ _ hm=>sb hm λ v6 hv6 hm=>cl (λ q0=>(zU (hv6 q0)))<|si hm (λ _ hm=>by cases hm;exact re) λ _ hm=>sn hm λ _ hm=>le hm) λ _ hm=>sq hm uD λ v7 hm=>by cases hm;exact re
theorem Jo {s_:ig} (hm:pX s_ r):S 168 [JY s_] [] (.bool r) [] :=sp Tryz.func168 rfl<|sb hm λ v1 hv1 hm=>cl ((WX hv1).le ⟨.refl _,.refl _,(.sl rfl (λ h=>absurd rfl h) nofun (λ _ h=>absurd h (Nat.not_lt_zero _))),trivial⟩ trivial)<|by cases hm;exact re
theorem Q9 {l_:List aI} {r:List bL×Int} (hm:xP l_ s_ r):S 186 [bA l_,aC s_] [] (.kH [rT r.1,iV r.2]) [] :=sp Tryz.func186 rfl<|sq hm oW λ v1 hm=>si hm (λ _ hm=>by cases hm;exact re) λ _ hm=>sq hm vX λ v2 hm=>si hm (λ _ hm=>by cases hm;exact re) λ _ hm=>sq hm CO λ v3 hm=>by cases hm;exact re
theorem Jp {s_:ig} (hm:pY s_ r):S 169 [JY s_] [] (.bool r) [] :=sp Tryz.func169 rfl<|sq hm Q9 λ v1 hm=>si hm (λ _ hm=>by cases hm;exact re) λ _ hm=>l0 hm (λ g1=>⟨[(1,.ptr 0 0 0),(3,rT v1.1),(23,aC s_.aQ),(24,iV (s_.aQ.length:Int)),(25,iV g1)],[(0,some (.box [bA s_.bH.bS,aV s_.bH.bG,iV s_.bH.aT.bQ,bD s_.bH.aT.aD,dA s_.bH.bq,bY s_.bH.cO,dO s_.dB,aC s_.aQ,aC s_.aW.dG,aX s_.aW.fC.On,aC s_.aW.fC.dQ,dP s_.aW.bZ,aX s_.aW.d9,aX s_.aW.fB,.bool s_.jT]))],1⟩) <|λ aj g1 hm=>si hm (λ _ hm=>s2 hm λ _ _ hm=>l0 hm (λ g4=>⟨[(1,.ptr 0 0 0),(3,rT v1.1),(23,aC s_.aQ),(24,iV (s_.aQ.length:Int)),(25,iV g1),(34,fA ((s_.dB.getD ((s_.aQ.getD g1.toNat 0).toNat) bB).bU)),(35,iV ((((s_.dB.getD ((s_.aQ.getD g1.toNat 0).toNat) bB).bU).length:Nat):Int)),(36,iV g4)],[(0,some (.box [bA s_.bH.bS,aV s_.bH.bG,iV s_.bH.aT.bQ,bD s_.bH.aT.aD,dA s_.bH.bq,bY s_.bH.cO,dO s_.dB,aC s_.aQ,aC s_.aW.dG,aX s_.aW.fC.On,aC s_.aW.fC.dQ,dP s_.aW.bZ,aX s_.aW.d9,aX s_.aW.fB,.bool s_.jT]))],1⟩) <|λ jq g4 hm=>si hm (λ _ hm=>s2 hm λ _ _ hm=>s2 hm λ _ _ hm=>si hm (λ _ hm=>by cases hm;exact re) λ _ hm=>sn hm λ _ hm=>le hm) λ _ hm=>sn hm λ _ hm=>le hm) λ _ hm=>by cases hm;exact re
theorem qw {s_:List Bool} {r:List Bool} (hm:lN s_ r):S 103 [aX s_] [] (.eF 0 0 r.length false) [.row 1 r.length (bP AV.bool false r)] :=by
 obtain ⟨h1,hm⟩:=hm
 have hm:r=s_:=hm
 subst hm
 refine nW (ct:=[1]) iX Tryz.func103 rfl rfl (Nat.le_of_ble_eq_true rfl) dk (Nat.le_of_ble_eq_true rfl) ?_
 (conv=>whnf)
 refine aaj (ct:=[]) iX (iX.slice (t:=36) (e:=4) rfl rfl rfl).1 dk dk dk dk dk [(2,.sl 0 0 true fJ),(0,aX r)] [] 8 rfl ?_ (λ hn=>?_) ?_
 ·exact rfl
 ·(conv=>whnf)
  have hn:r.length=0:=hn
  refine ⟨[],[(0,none)],?_⟩
  (conv=>whnf)
  exact ⟨⟨rfl,trivial,⟨hn,trivial⟩⟩,⟨rfl,rfl,rfl,rfl,rfl,hn⟩⟩
 ·(conv=>whnf)
  refine ⟨by rw [Nat.zero_add]; exact h1,?_⟩
  (conv=>whnf)
  refine ⟨[],[(0,some 24)],?_⟩
  (conv=>whnf)
  exact ⟨⟨rfl,trivial,⟨⟨rfl,Nat.zero_add _,jQ (l:=[]) rfl (λ _ h=>absurd h (Nat.not_lt_zero _)) rfl (λ _ _=>.refl _)⟩,trivial⟩⟩,⟨rfl,rfl,rfl,Nat.zero_add _,nofun⟩⟩
theorem kU {r:List Int} (hm:jv s_ r):S 47 [aC s_] [] (.eF 0 0 r.length false) [.row 1 r.length (bP iV 0 r)] :=by
 obtain ⟨h1,hm⟩:=hm
 have hm:r=s_:=hm
 subst hm
 refine nW (ct:=[1]) iX Tryz.func47 rfl rfl (Nat.le_of_ble_eq_true rfl) dk (Nat.le_of_ble_eq_true rfl) ?_
 (conv=>whnf)
 refine aaj (ct:=[]) iX (iX.slice (t:=22) (e:=3) rfl rfl rfl).1 dk dk dk dk dk [(2,.sl 0 0 true fJ),(0,aC r)] [] 8 rfl ?_ (λ hn=>?_) ?_
 ·exact rfl
 ·(conv=>whnf)
  have hn:r.length=0:=hn
  refine ⟨[],[(0,none)],?_⟩
  (conv=>whnf)
  exact ⟨⟨rfl,trivial,⟨hn,trivial⟩⟩,⟨rfl,rfl,rfl,rfl,rfl,hn⟩⟩
 ·(conv=>whnf)
  refine ⟨by rw [Nat.zero_add]; exact h1,?_⟩
  (conv=>whnf)
  refine ⟨[],[(0,some 24)],?_⟩
  (conv=>whnf)
  exact ⟨⟨rfl,trivial,⟨⟨rfl,Nat.zero_add _,jQ (l:=[]) rfl (λ _ h=>absurd h (Nat.not_lt_zero _)) rfl (λ _ _=>.refl _)⟩,trivial⟩⟩,⟨rfl,rfl,rfl,Nat.zero_add _,nofun⟩⟩
theorem PD {r_:cu} {r:cu} (hm:Iq r_ r):S 101 [BG r_] [] (BG r) [] :=sp Tryz.func101 rfl<|sq hm qw λ v1 hm=>sq hm kU λ v2 hm=>by cases hm;exact rt [32,56] []
theorem Fj {s_:ig} (hm:nN s_ r):S 170 [JY s_] [] (.bool r) [] :=sp Tryz.func170 rfl<|lf hm (λ g1=>⟨[(1,.ptr 0 0 0),(3,.eF 1 0 g1.2.length false),(7,aC s_.aQ),(8,iV (s_.aQ.length:Int)),(9,iV g1.1)],[(0,some (.box [bA s_.bH.bS,aV s_.bH.bG,iV s_.bH.aT.bQ,bD s_.bH.aT.aD,dA s_.bH.bq,bY s_.bH.cO,dO s_.dB,aC s_.aQ,aC s_.aW.dG,aX s_.aW.fC.On,aC s_.aW.fC.dQ,dP s_.aW.bZ,aX s_.aW.d9,aX s_.aW.fB,.bool s_.jT])),(1,some (.row 4 g1.2.length (bP Ic dH g1.2)))],2⟩) [(1,none)] [] <|λ aj g1 hm=>si hm (λ _ hm=>s2 hm λ _ _ hm=>s2 hm λ _ _ hm=>lc [(1,some 90)] [] hm) λ _ hm=>sq hm PD λ v1 hm=>sq hm Gq λ v2 hm=>by cases hm;exact re
theorem WY {l_:List ou} {r:((Nat→Int)×Int)} (hm:FP p_ l_ r):S 235 [l9 p_,Rq l_] [] (.kH [anN r.1,iV r.2]) [] :=sp Tryz.func235 rfl<|lf hm (λ g1=>⟨[(1,Rq l_),(2,.ptr 0 0 0),(4,.ptr 1 0 0),(6,.ptr 2 0 0),(13,iV g1.1)],[(0,some (.box [iV p_.bQ,bD p_.aD])),(1,some (.row 1 64 (MP iV g1.2.1))),(2,some (.row 1 64 (MP iV g1.2.2)))],3⟩) [(1,some 8),(2,some 24)] [] <|λ aj g1 hm=>si hm (λ _ hm=>s2 hm λ _ _ hm=>le hm) λ _ hm=>sq hm vD λ v1 hm=>si hm (λ _ hm=>by cases hm;exact re) λ _ hm=>sn hm λ _ hm=>lf hm (λ g2=>⟨[(2,.ptr 0 0 0),(4,.ptr 1 0 0),(6,.ptr 2 0 0),(8,.eF 3 0 g2.2.2.length false),(27,Rq l_),(28,iV (l_.length:Int)),(29,iV g2.1)],[(0,some (.box [iV p_.bQ,bD p_.aD])),(1,some (.row 1 64 (MP iV g1.2.1))),(2,some (.row 1 64 (MP iV g2.2.1))),(3,some (.row 1 g2.2.2.length (bP AV.bool false g2.2.2)))],4⟩) [(3,some 59)] [] <|λ dK g2 hm=>si hm (λ _ hm=>s2 hm λ _ _ hm=>si hm (λ _ hm=>by cases hm;exact re) λ _ hm=>sn hm λ _ hm=>si hm (λ _ hm=>by cases hm;exact re) λ _ hm=>s2 hm λ _ _ hm=>lf hm (λ g5=>⟨[(2,.ptr 0 0 0),(4,.ptr 1 0 0),(6,.ptr 2 0 0),(8,.eF 3 0 g5.2.2.length false),(10,.ptr 4 0 0),(27,Rq l_),(28,iV (l_.length:Int)),(29,iV g2.1),(79,aC ((p_.aD.getD (((l_.getD g2.1.toNat fU).cZ).toNat) aH).bQ)),(80,iV ((((p_.aD.getD (((l_.getD g2.1.toNat fU).cZ).toNat) aH).bQ).length:Nat):Int)),(81,iV g5.1)],[(0,some (.box [iV p_.bQ,bD p_.aD])),(1,some (.row 1 64 (MP iV g1.2.1))),(2,some (.row 1 64 (MP iV g5.2.1))),(3,some (.row 1 g5.2.2.length (bP AV.bool false g5.2.2))),(4,some (.box [iV ((l_.getD g2.1.toNat fU).cZ),iV ((l_.getD g2.1.toNat fU).gL)]))],5⟩) [(4,some 28)] [] <|λ ku g5 hm=>si hm (λ _ hm=>s2 hm λ _ _ hm=>si hm (λ _ hm=>by cases hm;exact re) λ _ hm=>s2 hm λ _ _ hm=>le hm) λ _ hm=>sn hm λ _ hm=>le hm) λ _ hm=>by cases hm;exact re
theorem He {s_:Nat} {r:List Int} (hm:oF s_ dD r):S 47 [.eF 0 0 s_ false] [.row 1 dD.length (bP iV 0 dD)] (.eF 1 0 r.length false) [.row 1 dD.length (bP iV 0 dD),.row 1 r.length (bP iV 0 r)] :=by
 obtain ⟨⟨h0,h1⟩,hm⟩:=hm
 have hm:r=dD.take s_:=hm
 have hl:r.length=s_:=by rw [hm,List.length_take]; omega
 refine nW (ct:=[1]) iX Tryz.func47 rfl rfl (Nat.le_of_ble_eq_true rfl) dk (Nat.le_of_ble_eq_true rfl) ?_
 (conv=>whnf)
 refine Sy (ct:=[]) iX (iX.slice (t:=22) (e:=3) rfl rfl rfl).1 dk dk dk dk dk [(2,.sl 0 0 true fJ),(0,.eF 0 0 s_ false)] [(0,some (.row 1 dD.length (bP iV 0 dD)))] 9 rfl rfl ?_ (λ hn=>?_) ?_
 ·exact rfl
 ·(conv=>whnf)
  have hn:r.length=0:=hl.trans hn
  refine ⟨[],[(1,none)],?_⟩
  (conv=>whnf)
  exact ⟨⟨rfl,trivial,⟨⟨rfl,rfl,λ _ _=>.refl _⟩,hn,trivial⟩⟩,⟨rfl,rfl,rfl,rfl,rfl,hn⟩⟩
 ·(conv=>whnf)
  refine ⟨by rw [Nat.zero_add]; exact h1,?_⟩
  (conv=>whnf)
  refine ⟨[],[(1,some 25)],?_⟩
  (conv=>whnf)
  subst hm
  exact ⟨⟨rfl,trivial,⟨⟨rfl,rfl,λ _ _=>.refl _⟩,⟨rfl,(Nat.zero_add _).trans hl.symm,jQ (l:=[]) rfl (λ _ h=>absurd h (Nat.not_lt_zero _)) hl.symm (jP (f:=iV) (d:=0) h0)⟩,trivial⟩⟩,⟨rfl,rfl,rfl,(Nat.zero_add _).trans hl.symm,nofun⟩⟩
theorem WZ {l_:List ou} {r:List Int×Int} (hm:FT p_ l_ r):S 212 [l9 p_,Rq l_] [] (.kH [aC r.1,iV r.2]) [] :=spc [4,6] Tryz.func212 rfl<|sq hm WY λ v1 hm=>ck [4,6] (Ei p_) r (λ g1=>⟨[(2,.ptr 0 0 0),(6,.ptr 1 0 0)],[(0,some (.box [iV p_.bQ,bD p_.aD])),(1,some (.row 1 64 (MP iV g1)))],2⟩) (si hm (λ _ hm=>by cases hm;exact re) λ _ hm=>lce [(1,some 72)] [] hm ⟨rfl,⟨r4,r4,trivial⟩,⟨⟨r2,sr,trivial⟩,⟨rfl,rfl,(acB (f:=iV) (X:=v1.1) (n:=64) (λ _=>rfl))⟩,trivial⟩⟩) λ g1 hm=>sn hm λ _ hm=>sb hm λ v2 hv2 hm=>cl ((He hv2).le ⟨.refl _,trivial⟩ ⟨⟨rfl,oz,(anM (f:=iV) (X:=g1))⟩,trivial⟩)<|by cases hm;exact rt [26] []
theorem M7 {s_:ig} (hm:sZ s_ r):S 171 [JY s_] [] (.bool r) [] :=sp Tryz.func171 rfl<|lf hm (λ g1=>⟨[(1,.ptr 0 0 0),(3,.eF 1 0 g1.2.length false),(10,dP s_.aW.bZ),(11,iV (s_.aW.bZ.length:Int)),(12,iV g1.1)],[(0,some (.box [bA s_.bH.bS,aV s_.bH.bG,iV s_.bH.aT.bQ,bD s_.bH.aT.aD,dA s_.bH.bq,bY s_.bH.cO,dO s_.dB,aC s_.aQ,aC s_.aW.dG,aX s_.aW.fC.On,aC s_.aW.fC.dQ,dP s_.aW.bZ,aX s_.aW.d9,aX s_.aW.fB,.bool s_.jT])),(1,some (.row 2 g1.2.length (bP anO fU g1.2)))],2⟩) [(1,none)] [] <|λ aj g1 hm=>si hm (λ _ hm=>s2 hm λ _ _ hm=>sn hm λ _ hm=>lc [(1,some 74)] [] hm) λ _ hm=>sq hm WZ λ v1 hm=>by cases hm;exact re
theorem EN {s_:ig} (hm:mX s_ r):S 172 [JY s_] [] (.bool r) [] :=sp Tryz.func172 rfl<|l0 hm (λ g1=>⟨[(1,.ptr 0 0 0),(11,aC s_.aQ),(12,iV (s_.aQ.length:Int)),(13,iV g1)],[(0,some (.box [bA s_.bH.bS,aV s_.bH.bG,iV s_.bH.aT.bQ,bD s_.bH.aT.aD,dA s_.bH.bq,bY s_.bH.cO,dO s_.dB,aC s_.aQ,aC s_.aW.dG,aX s_.aW.fC.On,aC s_.aW.fC.dQ,dP s_.aW.bZ,aX s_.aW.d9,aX s_.aW.fB,.bool s_.jT]))],1⟩) <|λ aj g1 hm=>si hm (λ _ hm=>sn hm λ _ hm=>lf hm (λ g6=>⟨[(1,.ptr 0 0 0),(4,iV (s_.aQ.getD g1.toNat 0)),(5,.mref 1),(11,aC s_.aQ),(12,iV (s_.aQ.length:Int)),(13,iV g1),(20,dP s_.aW.bZ),(21,iV (s_.aW.bZ.length:Int)),(22,iV g6.1)],[(0,some (.box [bA s_.bH.bS,aV s_.bH.bG,iV s_.bH.aT.bQ,bD s_.bH.aT.aD,dA s_.bH.bq,bY s_.bH.cO,dO s_.dB,aC s_.aQ,aC s_.aW.dG,aX s_.aW.fC.On,aC s_.aW.fC.dQ,dP s_.aW.bZ,aX s_.aW.d9,aX s_.aW.fB,.bool s_.jT])),(1,some (.map .str [(.int .i64)] g6.2))],2⟩) [(1,some 33)] [] <|λ jH g6 hm=>si hm (λ _ hm=>sn hm λ _ hm=>si hm (λ _ hm=>s2 hm λ _ _ hm=>s2 hm λ _ _ hm=>le hm) λ _ hm=>sn hm λ _ hm=>le hm) λ _ hm=>sn hm λ _ hm=>l0 hm (λ g7=>⟨[(1,.ptr 0 0 0),(5,.mref 1),(11,aC s_.aQ),(12,iV (s_.aQ.length:Int)),(13,iV g1),(54,gG ((s_.dB.getD ((s_.aQ.getD g1.toNat 0).toNat) bB).ak)),(55,iV ((((s_.dB.getD ((s_.aQ.getD g1.toNat 0).toNat) bB).ak).length:Nat):Int)),(56,iV g7.1)],[(0,some (.box [bA s_.bH.bS,aV s_.bH.bG,iV s_.bH.aT.bQ,bD s_.bH.aT.aD,dA s_.bH.bq,bY s_.bH.cO,dO s_.dB,aC s_.aQ,aC s_.aW.dG,aX s_.aW.fC.On,aC s_.aW.fC.dQ,dP s_.aW.bZ,aX s_.aW.d9,aX s_.aW.fB,.bool s_.jT])),(1,some (.map .str [(.int .i64)] g7.2))],2⟩) <|λ oq g7 hm=>si hm (λ _ hm=>s2 hm λ _ _ hm=>si hm (λ _ hm=>by cases hm;exact re) λ _ hm=>sn hm λ _ hm=>le hm) λ _ hm=>sn hm λ _ hm=>le hm) λ _ hm=>by cases hm;exact re
theorem Vk {l_:List eG} {dM:List Bool} (hm:Dj l_ dM r):S 236 [dA l_,aX dM] [] (.bool r) [] :=sp Tryz.func236 rfl<|si hm (λ _ hm=>by cases hm;exact re) λ _ hm=>l0 hm (λ g1=>⟨[(1,aX dM),(14,dA l_),(15,iV (l_.length:Int)),(16,iV g1)],[],0⟩) <|λ aj g1 hm=>si hm (λ _ hm=>sn hm λ _ hm=>l0 hm (λ g4=>⟨[(1,aX dM),(5,iV g1),(14,dA l_),(15,iV (l_.length:Int)),(16,iV g1),(22,aC ((l_.getD g1.toNat dz).dX)),(23,iV ((((l_.getD g1.toNat dz).dX).length:Nat):Int)),(24,iV g4)],[],0⟩) <|λ jq g4 hm=>si hm (λ _ hm=>s2 hm λ _ _ hm=>sn hm λ _ hm=>si hm (λ _ hm=>by cases hm;exact re) λ _ hm=>sn hm λ _ hm=>le hm) λ _ hm=>sn hm λ _ hm=>le hm) λ _ hm=>by cases hm;exact re
theorem Vl {l_:List eG} {dM:List Bool} (hm:Dk l_ dM r):S 213 [dA l_,aX dM] [] (.bool r) [] :=sp Tryz.func213 rfl<|sq hm zS λ v1 hm=>sb hm λ v2 hv2 hm=>cl (λ q0=>(Vk (hv2 q0)))<|by cases hm;exact re
theorem Fp {N9:Int} {BK:List aI} {vM:List ay} {aao:Int} {aap:List dh} {aaq:List eG} {aar:List dF} {GN:List aJ} {aas:List Int} {aat:List Int} {aau:List Bool} {Oa:List Int} {Ob:List aR} {Ej:List Bool} {El:List Bool} {Oc:Bool} (hm:lq N9 BK vM aao aap aaq aar GN aas aat aau Oa Ob Ej El Oc r):S 214 [iV N9,.ro [bA BK,aV vM,iV aao,bD aap,dA aaq,bY aar,dO GN,aC aas,aC aat,aX aau,aC Oa,dP Ob,aX Ej,aX El,.bool Oc]] [] (.bool r) [] :=sp Tryz.func214 rfl<|sn hm λ _ hm=>by cases hm;exact re
variable {BM:List aI} {Co:List ay} {Cq:Int} {SB:List dh} {SC:List eG} {SE:List dF} {MQ:List aJ} {SF:List Int} {SG:List Int} {SH:List Bool} {vN:List Int} {vO:List aR} {tq:List Bool} {tu:List Bool} {vP:Bool}
theorem Ce {r:Int} (hm:wF s_ BM Co Cq SB SC SE MQ SF SG SH vN vO tq tu vP r):S 130 [aC s_,.fn 214 [.ro [bA BM,aV Co,iV Cq,bD SB,dA SC,bY SE,dO MQ,aC SF,aC SG,aX SH,aC vN,dP vO,aX tq,aX tu,.bool vP]]] [] (iV r) [] :=sp Tryz.func130 rfl<|l0 hm (λ g1=>⟨[(0,aC s_),(1,.fn 214 [.ro [bA BM,aV Co,iV Cq,bD SB,dA SC,bY SE,dO MQ,aC SF,aC SG,aX SH,aC vN,dP vO,aX tq,aX tu,.bool vP]]),(7,iV (s_.length:Int)),(8,iV g1)],[],0⟩) <|λ aj g1 hm=>si hm (λ _ hm=>sn hm λ _ hm=>sq hm Fp λ v3 hm=>si hm (λ _ hm=>by cases hm;exact re) λ _ hm=>sn hm λ _ hm=>le hm) λ _ hm=>by cases hm;exact re
theorem yX (hm:mH s_ BM Co Cq SB SC SE MQ SF SG SH vN vO tq tu vP r):S 200 [aC s_,.fn 214 [.ro [bA BM,aV Co,iV Cq,bD SB,dA SC,bY SE,dO MQ,aC SF,aC SG,aX SH,aC vN,dP vO,aX tq,aX tu,.bool vP]]] [] (.bool r) [] :=sp Tryz.func200 rfl<|sq hm Ce λ v1 hm=>by cases hm;exact re
theorem Jq {s_:ig} (hm:p8 s_ r):S 173 [JY s_] [] (.bool r) [] :=sp Tryz.func173 rfl<|sq hm Vl λ v1 hm=>si hm (λ _ hm=>by cases hm;exact re) λ _ hm=>l0 hm (λ g1=>⟨[(1,.ptr 0 0 0),(14,aC s_.aQ),(15,iV (s_.aQ.length:Int)),(16,iV g1)],[(0,some (.box [bA s_.bH.bS,aV s_.bH.bG,iV s_.bH.aT.bQ,bD s_.bH.aT.aD,dA s_.bH.bq,bY s_.bH.cO,dO s_.dB,aC s_.aQ,aC s_.aW.dG,aX s_.aW.fC.On,aC s_.aW.fC.dQ,dP s_.aW.bZ,aX s_.aW.d9,aX s_.aW.fB,.bool s_.jT]))],1⟩) <|λ aj g1 hm=>si hm (λ _ hm=>s2 hm λ _ _ hm=>sq hm yX λ v4 hm=>si hm (λ _ hm=>by cases hm;exact re) λ _ hm=>sn hm λ _ hm=>le hm) λ _ hm=>by cases hm;exact re
theorem Vm {l_:List dF} {rz:List Bool} (hm:Dl l_ rz r):S 237 [bY l_,aX rz] [] (.bool r) [] :=sp Tryz.func237 rfl<|si hm (λ _ hm=>by cases hm;exact re) λ _ hm=>l0 hm (λ g1=>⟨[(1,aX rz),(12,bY l_),(13,iV (l_.length:Int)),(14,iV g1)],[],0⟩) <|λ aj g1 hm=>si hm (λ _ hm=>s2 hm λ _ _ hm=>s2 hm λ _ _ hm=>si hm (λ _ hm=>by cases hm;exact re) λ _ hm=>sn hm λ _ hm=>le hm) λ _ hm=>by cases hm;exact re
theorem Vn {l_:List dF} {rz:List Bool} (hm:Dn l_ rz r):S 215 [bY l_,aX rz] [] (.bool r) [] :=sp Tryz.func215 rfl<|sq hm yK λ v1 hm=>sb hm λ v2 hv2 hm=>cl (λ q0=>(Vm (hv2 q0)))<|by cases hm;exact re
theorem EO {m_:Int} {BK:List aI} {vM:List ay} {aao:Int} {aap:List dh} {aaq:List eG} {aar:List dF} {GN:List aJ} {aas:List Int} {aat:List Int} {aau:List Bool} {Oa:List Int} {Ob:List aR} {Ej:List Bool} {El:List Bool} {Oc:Bool} (hm:kC m_ BK vM aao aap aaq aar GN aas aat aau Oa Ob Ej El Oc r):S 216 [iV m_,.ro [bA BK,aV vM,iV aao,bD aap,dA aaq,bY aar,dO GN,aC aas,aC aat,aX aau,aC Oa,dP Ob,aX Ej,aX El,.bool Oc]] [] (.bool r) [] :=sp Tryz.func216 rfl<|s2 hm λ _ _ hm=>by cases hm;exact re
theorem Cg {r:Int} (hm:wG s_ BM Co Cq SB SC SE MQ SF SG SH vN vO tq tu vP r):S 130 [aC s_,.fn 216 [.ro [bA BM,aV Co,iV Cq,bD SB,dA SC,bY SE,dO MQ,aC SF,aC SG,aX SH,aC vN,dP vO,aX tq,aX tu,.bool vP]]] [] (iV r) [] :=sp Tryz.func130 rfl<|l0 hm (λ g1=>⟨[(0,aC s_),(1,.fn 216 [.ro [bA BM,aV Co,iV Cq,bD SB,dA SC,bY SE,dO MQ,aC SF,aC SG,aX SH,aC vN,dP vO,aX tq,aX tu,.bool vP]]),(7,iV (s_.length:Int)),(8,iV g1)],[],0⟩) <|λ aj g1 hm=>si hm (λ _ hm=>sn hm λ _ hm=>sq hm EO λ v3 hm=>si hm (λ _ hm=>by cases hm;exact re) λ _ hm=>sn hm λ _ hm=>le hm) λ _ hm=>by cases hm;exact re
theorem yY (hm:mI s_ BM Co Cq SB SC SE MQ SF SG SH vN vO tq tu vP r):S 200 [aC s_,.fn 216 [.ro [bA BM,aV Co,iV Cq,bD SB,dA SC,bY SE,dO MQ,aC SF,aC SG,aX SH,aC vN,dP vO,aX tq,aX tu,.bool vP]]] [] (.bool r) [] :=sp Tryz.func200 rfl<|sq hm Cg λ v1 hm=>by cases hm;exact re
theorem Hf {s_:ig} (hm:oG s_ r):S 174 [JY s_] [] (.bool r) [] :=sp Tryz.func174 rfl<|sq hm Vn λ v1 hm=>si hm (λ _ hm=>by cases hm;exact re) λ _ hm=>sq hm yY λ v2 hm=>by cases hm;exact re
theorem Jr {s_:ig} {r:Int} (hm:p9 s_ r):S 120 [JY s_] [] (iV r) [] :=sp Tryz.func120 rfl<|by
 refine afn 9 ?_
 refine pO (ct:=[]) iX dk ?_
 (conv=>whnf)
 refine aZ hm λ h1 hm=>?_
 (conv=>whnf)
 refine iq hm λ v1 hv1 hm=>?_
 refine ⟨_,_,(KH hv1),?_⟩
 (conv=>whnf)
 refine iY hm (λ c1 hm=>?_) (λ c1 hm=>?_)
 ·(conv=>whnf)
  refine aZ hm λ h2 hm=>?_
  (conv=>whnf)
  have hm:r=((0:Int)+(1:Int)):=hm
  subst hm
  refine ⟨[],[],?_⟩
  (conv=>whnf)
  exact ⟨⟨rfl,trivial,trivial⟩,r2⟩
 ·(conv=>whnf)
  refine aZ hm λ h3 hm=>?_
  (conv=>whnf)
  refine pO (ct:=[]) iX dk ?_
  (conv=>whnf)
  refine aZ hm λ h4 hm=>?_
  (conv=>whnf)
  refine iq hm λ v2 hv2 hm=>?_
  refine ⟨_,_,(Jo hv2),?_⟩
  (conv=>whnf)
  refine iY hm (λ c2 hm=>?_) (λ c2 hm=>?_)
  ·(conv=>whnf)
   refine aZ hm λ h5 hm=>?_
   (conv=>whnf)
   have hm:r=(((0:Int)+(1:Int))+(1:Int)):=hm
   subst hm
   refine ⟨[],[],?_⟩
   (conv=>whnf)
   exact ⟨⟨rfl,trivial,trivial⟩,r2⟩
  ·(conv=>whnf)
   refine aZ hm λ h6 hm=>?_
   (conv=>whnf)
   refine pO (ct:=[]) iX dk ?_
   (conv=>whnf)
   refine aZ hm λ h7 hm=>?_
   (conv=>whnf)
   refine iq hm λ v3 hv3 hm=>?_
   refine ⟨_,_,(Jp hv3),?_⟩
   (conv=>whnf)
   refine iY hm (λ c3 hm=>?_) (λ c3 hm=>?_)
   ·(conv=>whnf)
    refine aZ hm λ h8 hm=>?_
    (conv=>whnf)
    have hm:r=((((0:Int)+(1:Int))+(1:Int))+(1:Int)):=hm
    subst hm
    refine ⟨[],[],?_⟩
    (conv=>whnf)
    exact ⟨⟨rfl,trivial,trivial⟩,r2⟩
   ·(conv=>whnf)
    refine aZ hm λ h9 hm=>?_
    (conv=>whnf)
    refine pO (ct:=[]) iX dk ?_
    (conv=>whnf)
    refine aZ hm λ h10 hm=>?_
    (conv=>whnf)
    refine iq hm λ v4 hv4 hm=>?_
    refine ⟨_,_,(Fj hv4),?_⟩
    (conv=>whnf)
    refine iY hm (λ c4 hm=>?_) (λ c4 hm=>?_)
    ·(conv=>whnf)
     refine aZ hm λ h11 hm=>?_
     (conv=>whnf)
     have hm:r=(((((0:Int)+(1:Int))+(1:Int))+(1:Int))+(1:Int)):=hm
     subst hm
     refine ⟨[],[],?_⟩
     (conv=>whnf)
     exact ⟨⟨rfl,trivial,trivial⟩,r2⟩
    ·(conv=>whnf)
     refine aZ hm λ h12 hm=>?_
     (conv=>whnf)
     refine pO (ct:=[]) iX dk ?_
     (conv=>whnf)
     refine aZ hm λ h13 hm=>?_
     (conv=>whnf)
     refine iq hm λ v5 hv5 hm=>?_
     refine ⟨_,_,(M7 hv5),?_⟩
     (conv=>whnf)
     refine iY hm (λ c5 hm=>?_) (λ c5 hm=>?_)
     ·(conv=>whnf)
      refine aZ hm λ h14 hm=>?_
      (conv=>whnf)
      have hm:r=((((((0:Int)+(1:Int))+(1:Int))+(1:Int))+(1:Int))+(1:Int)):=hm
      subst hm
      refine ⟨[],[],?_⟩
      (conv=>whnf)
      exact ⟨⟨rfl,trivial,trivial⟩,r2⟩
     ·(conv=>whnf)
      refine aZ hm λ h15 hm=>?_
      (conv=>whnf)
      refine pO (ct:=[]) iX dk ?_
      (conv=>whnf)
      refine aZ hm λ h16 hm=>?_
      (conv=>whnf)
      refine iq hm λ v6 hv6 hm=>?_
      refine ⟨_,_,(EN hv6),?_⟩
      (conv=>whnf)
      refine iY hm (λ c6 hm=>?_) (λ c6 hm=>?_)
      ·(conv=>whnf)
       refine aZ hm λ h17 hm=>?_
       (conv=>whnf)
       have hm:r=(((((((0:Int)+(1:Int))+(1:Int))+(1:Int))+(1:Int))+(1:Int))+(1:Int)):=hm
       subst hm
       refine ⟨[],[],?_⟩
       (conv=>whnf)
       exact ⟨⟨rfl,trivial,trivial⟩,r2⟩
      ·(conv=>whnf)
       refine aZ hm λ h18 hm=>?_
       (conv=>whnf)
       refine pO (ct:=[]) iX dk ?_
       (conv=>whnf)
       refine aZ hm λ h19 hm=>?_
       (conv=>whnf)
       refine iq hm λ v7 hv7 hm=>?_
       refine ⟨_,_,(Jq hv7),?_⟩
       (conv=>whnf)
       refine iY hm (λ c7 hm=>?_) (λ c7 hm=>?_)
       ·(conv=>whnf)
        refine aZ hm λ h20 hm=>?_
        (conv=>whnf)
        have hm:r=((((((((0:Int)+(1:Int))+(1:Int))+(1:Int))+(1:Int))+(1:Int))+(1:Int))+(1:Int)):=hm
        subst hm
        refine ⟨[],[],?_⟩
        (conv=>whnf)
        exact ⟨⟨rfl,trivial,trivial⟩,r2⟩
       ·(conv=>whnf)
        refine aZ hm λ h21 hm=>?_
        (conv=>whnf)
        refine pO (ct:=[]) iX dk ?_
        (conv=>whnf)
        refine aZ hm λ h22 hm=>?_
        (conv=>whnf)
        refine iq hm λ v8 vU hm=>?_
        refine ⟨_,_,(Hf vU),?_⟩
        (conv=>whnf)
        refine iY hm (λ c8 hm=>?_) (λ c8 hm=>?_)
        ·(conv=>whnf)
         refine aZ hm λ h23 hm=>?_
         (conv=>whnf)
         have hm:r=(((((((((0:Int)+(1:Int))+(1:Int))+(1:Int))+(1:Int))+(1:Int))+(1:Int))+(1:Int))+(1:Int)):=hm
         subst hm
         refine ⟨[],[],?_⟩
         (conv=>whnf)
         exact ⟨⟨rfl,trivial,trivial⟩,r2⟩
        ·(conv=>whnf)
         refine aZ hm λ h24 hm=>?_
         (conv=>whnf)
         refine pO (ct:=[]) iX dk ?_
         (conv=>whnf)
         have hm:r=(0:Int):=hm
         subst hm
         refine ⟨[],[],?_⟩
         (conv=>whnf)
         exact ⟨⟨rfl,trivial,trivial⟩,r2⟩
variable {g_:bg}
theorem Vo {gU:Bool} {r:Int} (hm:Dp b_ l_ ah g_ gU r):S 68 [jm b_,dO l_,aC ah,jK g_,.bool gU] [] (iV r) [] :=sp Tryz.func68 rfl<|sq hm Ms λ v1 hm=>si hm (λ _ hm=>by cases hm;exact re) λ _ hm=>sq hm Jr λ v2 hm=>by cases hm;exact re
theorem oZ (hm:pE b_ l_ ah g_ r):S 28 [jm b_,dO l_,aC ah,jK g_] [] (.bool r) [] :=sp Tryz.func28 rfl<|sq hm Vo λ v1 hm=>by cases hm;exact re
theorem rO {aU:Int} {r:Int} (hm:qb b_ l_ ah g_ aU r):S 44 [jm b_,dO l_,aC ah,jK g_,iV aU] [] (iV r) [] :=sp Tryz.func44 rfl<|sq hm Jm λ v1 hm=>si hm (λ _ hm=>by cases hm;exact re) λ _ hm=>sq hm oZ λ v2 hm=>si hm (λ _ hm=>by cases hm;exact re) λ _ hm=>si hm (λ _ hm=>by cases hm;exact re) λ _ hm=>by cases hm;exact re
theorem W9 {iJ:List aR} {Ll:List ByteArray} {r:List ByteArray×List Int} (hm:FU b_ iJ Ll r):S 48 [jm b_,dP iJ,gG Ll] [] (.kH [gG r.1,aC r.2]) [] :=sp Tryz.func48 rfl<|lf hm (λ g1=>⟨[(2,gG Ll),(3,.ptr 0 0 0),(6,.eF 1 0 g1.2.1.length false),(7,.eF 2 0 g1.2.2.length false),(10,dP iJ),(11,iV (iJ.length:Int)),(12,iV g1.1)],[(0,some (.box [bA b_.bS,aV b_.bG,iV b_.aT.bQ,bD b_.aT.aD,dA b_.bq,bY b_.cO])),(1,some (.row 1 g1.2.1.length (bP AV.str ByteArray.empty g1.2.1))),(2,some (.row 1 g1.2.2.length (bP iV 0 g1.2.2)))],3⟩) [(1,none),(2,none)] [] <|λ aj g1 hm=>si hm (λ _ hm=>s2 hm λ _ _ hm=>s2 hm λ _ _ hm=>s2 hm λ _ _ hm=>lc [(1,some 171),(2,some 227)] [] hm) λ _ hm=>sn hm λ _ hm=>by cases hm;exact rt [27,2] []
theorem PE {f_:ByteArray} (hm:Lm f_ r):S 145 [.str f_] [] (.bool r) [] :=sp Tryz.func145 rfl<|sq hm yJ λ v1 hm=>by cases hm;exact re
theorem Ch {s_:List ByteArray} {r:Int} (hm:oQ s_ r):S 197 [gG s_,.fn 145 []] [] (iV r) [] :=sp Tryz.func197 rfl<|l0 hm (λ g1=>⟨[(0,gG s_),(1,.fn 145 []),(7,iV (s_.length:Int)),(8,iV g1)],[],0⟩) <|λ aj g1 hm=>si hm (λ _ hm=>sn hm λ _ hm=>sq hm PE λ v3 hm=>si hm (λ _ hm=>by cases hm;exact re) λ _ hm=>sn hm λ _ hm=>le hm) λ _ hm=>by cases hm;exact re
theorem yZ {s_:List ByteArray} (hm:mJ s_ r):S 144 [gG s_,.fn 145 []] [] (.bool r) [] :=sp Tryz.func144 rfl<|sq hm Ch λ v1 hm=>by cases hm;exact re
theorem Xa {fD:ByteArray} {r:List Int} (hm:FV p_ fD r):S 198 [l9 p_,.str fD] [] (aC r) [] :=sp Tryz.func198 rfl<|sq hm vD λ v1 hm=>si hm (λ _ hm=>by cases hm;exact re) λ _ hm=>lf hm (λ g1=>⟨[(1,.str fD),(5,.eF 0 0 g1.2.length false),(12,bD p_.aD),(13,iV (p_.aD.length:Int)),(14,iV g1.1)],[(0,some (.row 1 g1.2.length (bP iV 0 g1.2)))],1⟩) [(0,none)] [] <|λ aj g1 hm=>si hm (λ _ hm=>sn hm λ _ hm=>sq hm rM λ v4 hm=>si hm (λ _ hm=>s2 hm λ _ _ hm=>lc [(0,some 113)] [] hm) λ _ hm=>sn hm λ _ hm=>le hm) λ _ hm=>by cases hm;exact rt [0] []
theorem PG {fD:ByteArray} {r:List Int} (hm:Lp p_ fD r):S 147 [l9 p_,.str fD] [] (aC r) [] :=sp Tryz.func147 rfl<|sq hm Xa λ v1 hm=>by cases hm;exact re
theorem TA {l_:List ByteArray} {eu:List Int} {r:eH×Int} (hm:Ag p_ l_ eu r):S 97 [l9 p_,gG l_,aC eu] [] (.kH [aak r.1,iV r.2]) [] :=sp Tryz.func97 rfl<|sq hm vD λ v1 hm=>sb hm λ v2 hv2 hm=>cl (λ q0=>(yZ (hv2 q0)))<|si hm (λ _ hm=>by cases hm;exact re) λ _ hm=>lf hm (λ g1=>⟨[(1,gG l_),(2,aC eu),(3,.ptr 0 0 0),(6,.ptr 1 0 0),(8,.ptr 2 0 0),(31,gG l_),(32,iV (l_.length:Int)),(33,iV g1.1)],[(0,some (.box [iV p_.bQ,bD p_.aD])),(1,some (.box [.sl 0 0 true fJ,.sl 0 0 true fJ,.sl 0 0 true fJ,.int .u64 (0:Int)])),(2,some (.box [.eF 3 0 g1.2.length false,.sl 0 0 true fJ,.sl 0 0 true fJ,.int .u64 (0:Int)])),(3,some (.row 1 g1.2.length (bP aC [] g1.2)))],4⟩) [(1,some 8),(2,some 120),(3,none)] [] <|λ aj g1 hm=>si hm (λ _ hm=>sn hm λ _ hm=>sq hm PG λ v5 hm=>s2 hm λ _ _ hm=>lc [(3,some 84)] [] hm) λ _ hm=>lf hm (λ g2=>⟨[(1,gG l_),(2,aC eu),(6,.ptr 0 0 0),(8,.ptr 1 0 0),(47,bD p_.aD),(48,iV (p_.aD.length:Int)),(49,iV g2.1)],[(0,some (.box [.sl 0 0 true fJ,.sl 0 0 true fJ,.sl 0 0 true fJ,.int .u64 (0:Int)])),(1,some (.box [.eF 2 0 g1.2.length false,.eF 3 0 g2.2.length false,.sl 0 0 true fJ,.int .u64 (0:Int)])),(2,some (.row 1 g1.2.length (bP aC [] g1.2))),(3,some (.row 1 g2.2.length (bP (AV.int .u64) 0 g2.2)))],4⟩) [(0,some 1),(1,some 2),(2,some 3),(3,none)] [] <|λ dK g2 hm=>si hm (λ _ hm=>sn hm λ _ hm=>l0 hm (λ g5=>⟨[(1,gG l_),(2,aC eu),(6,.ptr 0 0 0),(8,.ptr 1 0 0),(13,.int .u64 g5.1),(47,bD p_.aD),(48,iV (p_.aD.length:Int)),(49,iV g2.1),(54,aC ((p_.aD.getD g2.1.toNat aH).bQ)),(55,iV ((((p_.aD.getD g2.1.toNat aH).bQ).length:Nat):Int)),(56,iV g5.2)],[(0,some (.box [.sl 0 0 true fJ,.sl 0 0 true fJ,.sl 0 0 true fJ,.int .u64 (0:Int)])),(1,some (.box [.eF 2 0 g1.2.length false,.eF 3 0 g2.2.length false,.sl 0 0 true fJ,.int .u64 (0:Int)])),(2,some (.row 1 g1.2.length (bP aC [] g1.2))),(3,some (.row 1 g2.2.length (bP (AV.int .u64) 0 g2.2)))],4⟩) <|λ ku g5 hm=>si hm (λ _ hm=>s2 hm λ _ _ hm=>sn hm λ _ hm=>le hm) λ _ hm=>s2 hm λ _ _ hm=>lc [(3,some 44)] [] hm) λ _ hm=>si hm (λ _ hm=>by cases hm;exact re) λ _ hm=>l0 hm (λ g6=>⟨[(2,aC eu),(6,.ptr 0 0 0),(8,.ptr 1 0 0),(78,aC eu),(79,iV (eu.length:Int)),(80,iV g6.1)],[(0,some (.box [.sl 0 0 true fJ,.sl 0 0 true fJ,.sl 0 0 true fJ,.int .u64 (0:Int)])),(1,some (.box [.eF 2 0 g1.2.length false,.eF 3 0 g2.2.length false,.sl 0 0 true fJ,.int .u64 g6.2])),(2,some (.row 1 g1.2.length (bP aC [] g1.2))),(3,some (.row 1 g2.2.length (bP (AV.int .u64) 0 g2.2)))],4⟩) <|λ jH g6 hm=>si hm (λ _ hm=>s2 hm λ _ _ hm=>sq hm fE λ v8 hm=>sn hm λ _ hm=>si hm (λ _ hm=>by cases hm;exact re) λ _ hm=>s2 hm λ _ _ hm=>le hm) λ _ hm=>by cases hm;exact rt [2,3] []
theorem Fq {x_:eH} {r:List Int} (hm:nO x_ r):S 99 [aak x_] [] (aC r) [] :=sp Tryz.func99 rfl<|lf hm (λ g1=>⟨[(1,.ptr 0 0 0),(3,.eF 1 0 g1.2.length false),(4,iV g1.1)],[(0,some (.box [zD x_.fH,XU x_.oM,aC x_.ny,.int .u64 x_.xw])),(1,some (.row 1 g1.2.length (bP iV 0 g1.2)))],2⟩) [(1,none)] [] <|λ aj g1 hm=>si hm (λ _ hm=>s2 hm λ _ _ hm=>lc [(1,some 66)] [] hm) λ _ hm=>by cases hm;exact rt [1] []
theorem EP:∀(n:Nat) (iQ:Int×List Int×eH×List Int) (r:Bool×Nat×List Int×eH×List Int),itM iO n iQ r→S 148 [.int .u64 iQ.1,.ptr 0 0 0,.ptr 1 0 0,.ptr 2 0 0,.ptr 3 0 0] [.box [.eF 4 0 iQ.2.2.2.length false],.box [aC iQ.2.1],.box [zD iQ.2.2.1.fH,XU iQ.2.2.1.oM,aC iQ.2.2.1.ny,.int .u64 iQ.2.2.1.xw],.box [.fn 148 [.ptr 0 0 0,.ptr 1 0 0,.ptr 2 0 0,.ptr 3 0 0]],.row 1 iQ.2.2.2.length (bP iV 0 iQ.2.2.2)] (.bool r.1) [.box [.eF 5 0 r.2.1 false],.box [aC r.2.2.1],.box [zD r.2.2.2.1.fH,XU r.2.2.2.1.oM,aC r.2.2.2.1.ny,.int .u64 r.2.2.2.1.xw],.box [.fn 148 [.ptr 0 0 0,.ptr 1 0 0,.ptr 2 0 0,.ptr 3 0 0]],aoy,.row 1 r.2.2.2.2.length (bP iV 0 r.2.2.2.2)] :=by
 intro n
 induction n with
 | zero=>intro iQ r hm; exact hm.elim
 | succ n ih=>
   intro iQ r hm
   have hm:iO (itM iO n) iQ r:=hm
   generalize itM iO n=BN at hm ih
   refine nW (ct:=[8]) iX Tryz.func148 rfl rfl (Nat.le_of_ble_eq_true rfl) dk (Nat.le_of_ble_eq_true rfl) ?_
   (conv=>whnf)
   refine iY hm (λ c1 hm=>?_) (λ c1 hm=>?_)
   · (conv=>whnf)
     have hm:r=(true,iQ.2.2.2.length,iQ.2.1,iQ.2.2.1,iQ.2.2.2):=hm
     subst hm
     refine ⟨[],[(5,some 4)],?_⟩
     (conv=>whnf)
     exact ⟨⟨rfl,trivial,⟨⟨⟨rfl,rfl,rfl,rfl,nofun⟩,trivial⟩,⟨sf,trivial⟩,⟨sf,sf,sf,r2,trivial⟩,⟨⟨rfl,r4,r4,r4,r4,trivial⟩,trivial⟩,⟨rfl,rfl,(λ _ _=>.refl _)⟩,trivial⟩⟩,rfl⟩
   · (conv=>whnf)
     refine aZ hm λ h1 hm=>?_
     (conv=>whnf)
     refine aZ hm λ h2 hm=>?_
     (conv=>whnf)
     refine wz (ct:=[8]) iX dk hm (λ g1=>⟨[(0,.int .u64 iQ.1),(1,.ptr 0 0 0),(3,.ptr 2 0 0),(4,.ptr 3 0 0),(22,aC (iQ.2.2.1.fH.getD ((iQ.2.1.getD ((iQ.2.2.2.length:Int).toNat) 0).toNat) [])),(23,iV (((iQ.2.2.1.fH.getD ((iQ.2.1.getD ((iQ.2.2.2.length:Int).toNat) 0).toNat) []).length:Nat):Int)),(24,iV g1.1)],[(0,some (.box [.eF 5 0 g1.2.1 false])),(1,some (.box [aC g1.2.2.1])),(2,some (.box [zD g1.2.2.2.1,XU g1.2.2.2.2.1,aC g1.2.2.2.2.2.1,.int .u64 g1.2.2.2.2.2.2.1])),(3,some (.box [.fn 148 [.ptr 0 0 0,.ptr 1 0 0,.ptr 2 0 0,.ptr 3 0 0]])),(5,some (.row 1 g1.2.2.2.2.2.2.2.length (bP iV 0 g1.2.2.2.2.2.2.2)))],6⟩) [(5,some 4)] [] ⟨rfl,⟨r2,r4,r4,r4,sr,r2,r2,trivial⟩,⟨⟨⟨rfl,rfl,rfl,rfl,nofun⟩,trivial⟩,⟨sf,trivial⟩,⟨sf,sf,sf,r2,trivial⟩,⟨⟨rfl,r4,r4,r4,r4,trivial⟩,trivial⟩,⟨rfl,rfl,(λ _ _=>.refl _)⟩,trivial⟩⟩ ?_
     intro aj g1 hm
     (conv=>whnf)
     have h33:=hm.1
     have hm:=hm.2
     refine iY hm (λ c8 hm=>?_) (λ c8 hm=>?_)
     · (conv=>whnf)
       refine aZ hm λ h23 hm=>?_
       (conv=>whnf)
       refine aZ hm λ h24 hm=>?_
       (conv=>whnf)
       refine iY hm (λ c9 hm=>?_) (λ c9 hm=>?_)
       · (conv=>whnf)
         refine aZ hm λ h25 hm=>?_
         (conv=>whnf)
         exact ⟨((g1.1+(1:Int)),g1.2.1,g1.2.2.1,g1.2.2.2.1,g1.2.2.2.2.1,g1.2.2.2.2.2.1,g1.2.2.2.2.2.2.1,g1.2.2.2.2.2.2.2),[],[],hm,⟨rfl,⟨r2,r4,r4,r4,sr,r2,r2,trivial⟩,⟨⟨⟨rfl,rfl,rfl,rfl,nofun⟩,trivial⟩,⟨sf,trivial⟩,⟨sf,sf,sf,r2,trivial⟩,⟨⟨rfl,r4,r4,r4,r4,trivial⟩,trivial⟩,⟨rfl,rfl,(λ _ _=>.refl _)⟩,trivial⟩⟩⟩
       · (conv=>whnf)
         refine aai (ct:=[8]) iX dk dk (mK BN iQ g1 aj) r (λ g4=>⟨[(0,.int .u64 iQ.1),(1,.ptr 0 0 0),(3,.ptr 2 0 0),(4,.ptr 3 0 0),(8,iV ((iQ.2.2.1.fH.getD ((iQ.2.1.getD ((iQ.2.2.2.length:Int).toNat) 0).toNat) []).getD g1.1.toNat 0)),(22,aC (iQ.2.2.1.fH.getD ((iQ.2.1.getD ((iQ.2.2.2.length:Int).toNat) 0).toNat) [])),(23,iV (((iQ.2.2.1.fH.getD ((iQ.2.1.getD ((iQ.2.2.2.length:Int).toNat) 0).toNat) []).length:Nat):Int)),(24,iV g1.1)],[(0,some (.box [.eF 5 0 g4.length false])),(1,some (.box [aC g1.2.2.1])),(2,some (.box [zD g1.2.2.2.1,XU g1.2.2.2.2.1,aC g1.2.2.2.2.2.1,.int .u64 g1.2.2.2.2.2.2.1])),(3,some (.box [.fn 148 [.ptr 0 0 0,.ptr 1 0 0,.ptr 2 0 0,.ptr 3 0 0]])),(5,some (.row 1 g4.length (bP iV 0 g4)))],6⟩) ?_ (λ g4 hm=>?_)
         · (conv=>whnf)
           refine aZ hm λ h32 hm=>?_
           (conv=>whnf)
           exact ⟨((g1.2.2.2.2.2.2.2.take (g1.2.1))++([((iQ.2.2.1.fH.getD ((iQ.2.1.getD ((iQ.2.2.2.length:Int).toNat) 0).toNat) []).getD g1.1.toNat 0)]:List Int)),[(5,some 126)],[],hm,⟨rfl,⟨r2,r4,r4,r4,r2,sr,r2,r2,trivial⟩,⟨⟨⟨rfl,rfl,rfl,oz,nofun⟩,trivial⟩,⟨sr,trivial⟩,⟨sr,sr,sr,r2,trivial⟩,⟨⟨rfl,r4,r4,r4,r4,trivial⟩,trivial⟩,⟨rfl,oz,(jQ oz (jP (f:=iV) (d:=0) (by first | omega | exact Nat.min_le_left _ _ | exact Nat.le_trans (Nat.min_le_left _ _) om | (simp; omega))) rfl (gM iV 0 [((iQ.2.2.1.fH.getD ((iQ.2.1.getD ((iQ.2.2.2.length:Int).toNat) 0).toNat) []).getD g1.1.toNat 0)]))⟩,trivial⟩⟩⟩
         · (conv=>whnf)
           refine aZ hm λ h27 hm=>?_
           (conv=>whnf)
           refine iq hm λ v3 hv3 hm=>?_
           refine ⟨_,_,(ih _ _ hv3),?_⟩
           (conv=>whnf)
           have h28:=hm.1
           have hm:=hm.2
           refine iY hm (λ c10 hm=>?_) (λ c10 hm=>?_)
           · (conv=>whnf)
             have hm:r=(true,v3.2.1,v3.2.2.1,v3.2.2.2.1,v3.2.2.2.2):=hm
             subst hm
             refine ⟨[],[(5,some 70)],?_⟩
             (conv=>whnf)
             exact ⟨⟨rfl,trivial,⟨⟨⟨rfl,rfl,rfl,rfl,nofun⟩,trivial⟩,⟨sf,trivial⟩,⟨sf,sf,sf,r2,trivial⟩,⟨⟨rfl,r4,r4,r4,r4,trivial⟩,trivial⟩,⟨rfl,rfl,(λ _ _=>.refl _)⟩,trivial⟩⟩,rfl⟩
           · (conv=>whnf)
             refine aZ hm λ h29 hm=>?_
             (conv=>whnf)
             refine aZ hm λ h30 hm=>?_
             (conv=>whnf)
             refine aZ hm λ h31 hm=>?_
             (conv=>whnf)
             exact ⟨((g1.1+(1:Int)),(((v3.2.1:Nat):Int) - (1:Int)).toNat,v3.2.2.1,v3.2.2.2.1.fH,v3.2.2.2.1.oM,v3.2.2.2.1.ny,v3.2.2.2.1.xw,v3.2.2.2.2),[(5,some 70)],[],hm,⟨rfl,⟨r2,r4,r4,r4,sr,r2,r2,trivial⟩,⟨⟨⟨rfl,rfl,rfl,rfl,nofun⟩,trivial⟩,⟨sf,trivial⟩,⟨sf,sf,sf,r2,trivial⟩,⟨⟨rfl,r4,r4,r4,r4,trivial⟩,trivial⟩,⟨rfl,rfl,(λ _ _=>.refl _)⟩,trivial⟩⟩⟩
     · (conv=>whnf)
       have hm:r=(false,g1.2.1,g1.2.2.1,(⟨g1.2.2.2.1,g1.2.2.2.2.1,g1.2.2.2.2.2.1,g1.2.2.2.2.2.2.1⟩:eH),g1.2.2.2.2.2.2.2):=hm
       subst hm
       refine ⟨[],[],?_⟩
       (conv=>whnf)
       exact ⟨⟨rfl,trivial,⟨⟨⟨rfl,rfl,rfl,rfl,nofun⟩,trivial⟩,⟨sf,trivial⟩,⟨sf,sf,sf,r2,trivial⟩,⟨⟨rfl,r4,r4,r4,r4,trivial⟩,trivial⟩,⟨rfl,rfl,(λ _ _=>.refl _)⟩,trivial⟩⟩,rfl⟩
theorem Ci {aav:Int} {o1_:List Int} {o2_:eH} {o4_:List Int} {r:Bool×Nat×List Int×eH×List Int} (hm:lQ aav o1_ o2_ o4_ r):S 148 [.int .u64 aav,.ptr 0 0 0,.ptr 1 0 0,.ptr 2 0 0,.ptr 3 0 0] [.box [.eF 4 0 o4_.length false],.box [aC o1_],.box [zD o2_.fH,XU o2_.oM,aC o2_.ny,.int .u64 o2_.xw],.box [.fn 148 [.ptr 0 0 0,.ptr 1 0 0,.ptr 2 0 0,.ptr 3 0 0]],.row 1 o4_.length (bP iV 0 o4_)] (.bool r.1) [.box [.eF 5 0 r.2.1 false],.box [aC r.2.2.1],.box [zD r.2.2.2.1.fH,XU r.2.2.2.1.oM,aC r.2.2.2.1.ny,.int .u64 r.2.2.2.1.xw],.box [.fn 148 [.ptr 0 0 0,.ptr 1 0 0,.ptr 2 0 0,.ptr 3 0 0]],aoy,.row 1 r.2.2.2.2.length (bP iV 0 r.2.2.2.2)] :=by
 obtain ⟨n,hm⟩:=hm
 exact EP n (aav,o1_,o2_,o4_) r hm
theorem ER {x_:eH} {Qm:List Int} {r:List Int×Bool} (hm:mY x_ Qm r):S 98 [aak x_,aC Qm] [] (.kH [aC r.1,.bool r.2]) [] :=sp Tryz.func98 rfl<|sn hm λ _ hm=>sb hm λ v1 hv1 hm=>cl ((Ci hv1).le ⟨.refl _,.refl _,.refl _,.refl _,.refl _,trivial⟩ ⟨kZ _,kZ _,kZ _,kZ _,⟨rfl,rfl,(λ _ h=>absurd h (Nat.not_lt_zero _))⟩,trivial⟩)<|by
 have h2:=hm.1
 have hm:=hm.2
 have hm:r=((v1.2.2.2.2.take (v1.2.1)),v1.1):=hm
 subst hm
 refine ⟨[120],[],?_⟩
 (conv=>whnf)
 exact ⟨⟨rfl,trivial,trivial⟩,(by (conv=>whnf); exact ⟨(by (conv=>whnf); exact ⟨oz,(λ _=>rfl),nofun,(jP (f:=iV) (d:=0) (by first | omega | exact Nat.min_le_left _ _ | exact Nat.le_trans (Nat.min_le_left _ _) om | (simp; omega)))⟩),(by (conv=>whnf); exact ⟨(by first | ((conv=>whnf); exact rfl) | exact rfl),trivial⟩)⟩)⟩
theorem Js {n_:Int} {r:Nat×List Int} (hm:qc n_ r):S 149 [.sl 0 0 true fJ,iV n_] [] (.eF 0 0 r.1 false) [.row 1 r.2.length (bP iV 0 r.2)] :=spc [3] Tryz.func149 rfl<|ck [3] (qU n_) r (λ g1=>⟨[(0,.sl 0 0 true fJ),(1,iV n_)],[],0⟩) (by
 have c3:=hm.1
 have hm:=hm.2
 refine Ui (λ q=>Bool.noConfusion (c3.symm.trans q)) (λ _=>?_)
 (conv=>whnf)
 exact ⟨(),[],[],hm,⟨rfl,⟨sr,r2,trivial⟩,trivial⟩⟩) λ g1 hm=>s2 hm λ _ _ hm=>si hm (λ _ hm=>s2 hm λ _ _ hm=>sn hm λ _ hm=>by cases hm;exact rt [] [(0,some 120)]) λ _ hm=>by cases hm;exact rt [] [(0,none)]
theorem KI {jE:(List (List Int))} {r:List Int} (hm:rA jE r):S 100 [zD jE] [] (aC r) [] :=sp Tryz.func100 rfl<|l0 hm (λ g1=>⟨[(0,zD jE),(3,iV g1.1),(9,zD jE),(10,iV (jE.length:Int)),(11,iV g1.2)],[],0⟩) <|λ aj g1 hm=>si hm (λ _ hm=>s2 hm λ _ _ hm=>by
 have c6:=hm.1
 have hm:=hm.2
 refine Ui (λ q=>Bool.noConfusion (c6.symm.trans q)) (λ _=>?_)
 (conv=>whnf)
 refine aZ hm λ h9 hm=>?_
 (conv=>whnf)
 exact ⟨((g1.1+(((jE.getD g1.2.toNat []).length:Nat):Int)),(g1.2+(1:Int))),[],[],hm,⟨rfl,⟨sr,r2,sr,r2,r2,trivial⟩,trivial⟩⟩) λ _ hm=>sq hm Js λ v1 hm=>by
 have h10:=hm.1
 have hm:=hm.2
 refine wz (ct:=[]) iX dk hm (λ g2=>⟨[(6,.eF 0 0 g2.1 false),(25,zD jE),(26,iV (jE.length:Int)),(27,iV g2.2.1)],[(0,some (.row 1 g2.2.2.length (bP iV 0 g2.2.2)))],1⟩) [(0,some 16)] [] ⟨rfl,⟨⟨rfl,rfl,rfl,rfl,nofun⟩,sr,r2,r2,trivial⟩,⟨⟨rfl,rfl,(λ _ _=>.refl _)⟩,trivial⟩⟩ ?_
 intro dK g2 hm
 (conv=>whnf)
 have h20:=hm.1
 have hm:=hm.2
 refine iY hm (λ c9 hm=>?_) (λ c9 hm=>?_)
 ·(conv=>whnf)
  refine aZ hm λ h17 hm=>?_
  (conv=>whnf)
  refine aZ hm λ h18 hm=>?_
  (conv=>whnf)
  refine aZ hm λ h19 hm=>?_
  (conv=>whnf)
  exact ⟨((g2.1+(jE.getD g2.2.1.toNat []).length),(g2.2.1+(1:Int)),((g2.2.2.take (g2.1))++(jE.getD g2.2.1.toNat []))),[(0,some 49)],[],hm,⟨rfl,⟨⟨rfl,rfl,rfl,rfl,nofun⟩,sr,r2,r2,trivial⟩,⟨⟨rfl,oz,(jQ oz (jP (f:=iV) (d:=0) (by first | omega | exact Nat.min_le_left _ _ | exact Nat.le_trans (Nat.min_le_left _ _) om | (simp; omega))) rfl (λ _ _=>.refl _))⟩,trivial⟩⟩⟩
 ·(conv=>whnf)
  have hm:r=(g2.2.2.take (g2.1)):=hm
  subst hm
  refine ⟨[0],[],?_⟩
  (conv=>whnf)
  exact ⟨⟨rfl,trivial,trivial⟩,⟨oz,(λ _=>rfl),nofun,(jP (f:=iV) (d:=0) (by first | omega | exact Nat.min_le_left _ _ | exact Nat.le_trans (Nat.min_le_left _ _) om | (simp; omega)))⟩⟩
theorem Ra {l_:List ByteArray} {eu:List Int} {r:List Int×Int} (hm:xQ p_ l_ eu r):S 49 [l9 p_,gG l_,aC eu] [] (.kH [aC r.1,iV r.2]) [] :=sp Tryz.func49 rfl<|sq hm TA λ v1 hm=>si hm (λ _ hm=>by cases hm;exact re) λ _ hm=>sq hm Fq λ v2 hm=>sq hm ER λ v3 hm=>si hm (λ _ hm=>by cases hm;exact re) λ _ hm=>sb hm λ v4 hv4 hm=>cl ((KI hv4).le ⟨(.sl rfl (λ _=>rfl) nofun (gM aC [] [eu,v3.1])),trivial⟩ trivial)<|by cases hm;exact re
theorem ES {s_:List aR} {r:List aR} (hm:mZ s_ r):S 102 [dP s_] [] (.eF 0 0 r.length false) [.row 3 r.length (bP pQ bC r)] :=by
 obtain ⟨h1,hm⟩:=hm
 have hm:r=s_:=hm
 subst hm
 refine nW (ct:=[1]) iX Tryz.func102 rfl rfl (Nat.le_of_ble_eq_true rfl) dk (Nat.le_of_ble_eq_true rfl) ?_
 (conv=>whnf)
 refine aaj (ct:=[]) iX (iX.slice (t:=39) (e:=57) rfl rfl rfl).1 dk dk dk dk dk [(2,.sl 0 0 true fJ),(0,dP r)] [] 8 rfl ?_ (λ hn=>?_) ?_
 ·exact rfl
 ·(conv=>whnf)
  have hn:r.length=0:=hn
  refine ⟨[],[(0,none)],?_⟩
  (conv=>whnf)
  exact ⟨⟨rfl,trivial,⟨hn,trivial⟩⟩,⟨rfl,rfl,rfl,rfl,rfl,hn⟩⟩
 ·(conv=>whnf)
  refine ⟨by rw [Nat.zero_add]; exact h1,?_⟩
  (conv=>whnf)
  refine ⟨[],[(0,some 24)],?_⟩
  (conv=>whnf)
  exact ⟨⟨rfl,trivial,⟨⟨rfl,Nat.zero_add _,jQ (l:=[]) rfl (λ _ h=>absurd h (Nat.not_lt_zero _)) rfl (λ _ _=>.refl _)⟩,trivial⟩⟩,⟨rfl,rfl,rfl,Nat.zero_add _,nofun⟩⟩
theorem aa7 {r:bg} (hm:Qn g_ r):S 51 [jK g_] [] (jK r) [] :=sp Tryz.func51 rfl<|sq hm kU λ v1 hm=>sq hm PD λ v2 hm=>sq hm ES λ v3 hm=>sq hm qw λ v4 hm=>sq hm qw λ v5 hm=>by cases hm;exact rt [32,80,104,128] []
theorem Gr {aU:Int} {r:bg×Int×Int} (hm:xR b_ l_ ah g_ aU r):S 13 [jm b_,dO l_,aC ah,jK g_,iV aU] [] (.kH [jK r.1,iV r.2.1,iV r.2.2]) [] :=spc [13] Tryz.func13 rfl<|sq hm rO λ v1 hm=>si hm (λ _ hm=>by cases hm;exact re) λ _ hm=>sq hm fE λ v2 hm=>si hm (λ _ hm=>by cases hm;exact re) λ _ hm=>ck [13] (zJ b_ l_ ah aU) r (λ g2=>⟨[(1,dO l_),(2,aC ah),(4,iV aU),(5,.ptr 0 0 0),(10,.ptr 1 0 0),(14,dP g2)],[(0,some (.box [bA b_.bS,aV b_.bG,iV b_.aT.bQ,bD b_.aT.aD,dA b_.bq,bY b_.cO])),(1,some (.box [.sl 0 0 true fJ,.sl 0 0 true fJ,.sl 0 0 true fJ,.sl 0 0 true fJ,.sl 0 0 true fJ,.sl 0 0 true fJ]))],2⟩) (VQ [13] hm (λ g4=>⟨[(1,dO l_),(2,aC ah),(4,iV aU),(5,.ptr 0 0 0),(10,.ptr 1 0 0),(14,.eF 2 0 g4.2.length false),(41,dP g_.bZ),(42,iV (g_.bZ.length:Int)),(43,iV g4.1)],[(0,some (.box [bA b_.bS,aV b_.bG,iV b_.aT.bQ,bD b_.aT.aD,dA b_.bq,bY b_.cO])),(1,some (.box [.sl 0 0 true fJ,.sl 0 0 true fJ,.sl 0 0 true fJ,.sl 0 0 true fJ,.sl 0 0 true fJ,.sl 0 0 true fJ])),(2,some (.row 3 g4.2.length (bP pQ bC g4.2)))],3⟩) [(1,some 16),(2,none)] [] <|λ jq g4 hm=>si hm (λ _ hm=>sn hm λ _ hm=>sq hm fE λ v16 hm=>si hm (λ _ hm=>s2 hm λ _ _ hm=>lc [(2,some 99)] [] hm) λ _ hm=>sn hm λ _ hm=>le hm) λ _ hm=>lc [] [2] hm) λ g2 hm=>sq hm kU λ v6 hm=>sn hm λ _ hm=>sb hm λ v7 hv7 hm=>cl ((mE hv7).le ⟨.refl _,.refl _,(.sl oz (λ _=>rfl) nofun (jQ rfl (λ _ _=>.refl _) rfl (gM iV 0 [aU]))),.refl _,trivial⟩ trivial)<|si hm (λ _ hm=>by cases hm;exact re) λ _ hm=>sn hm λ _ hm=>sq hm W9 λ v8 hm=>sq hm Ra λ v9 hm=>si hm (λ _ hm=>by cases hm;exact re) λ _ hm=>sn hm λ _ hm=>lfe [13] hm (λ g3=>⟨[(4,iV aU),(5,.ptr 0 0 0),(10,.ptr 1 0 0),(17,.ptr 2 0 0),(20,gG v8.1),(21,aC v8.2),(99,aC g3.1),(100,iV (((v9.1.length - (v8.2.length:Int).toNat):Nat):Int)),(101,iV g3.2.1)],[(0,some (.box [bA b_.bS,aV b_.bG,iV b_.aT.bQ,bD b_.aT.aD,dA b_.bq,bY b_.cO])),(1,some (.box [.sl 0 0 true fJ,.sl 0 0 true fJ,.sl 0 0 true fJ,.sl 0 0 true fJ,.sl 0 0 true fJ,.sl 0 0 true fJ])),(2,some (.box [aC v7.1,aX v7.2.1,aC v7.2.2.1,.eF 3 0 g3.2.2.length false,aX v7.2.2.2.1,aX v7.2.2.2.2.1])),(3,some (.row 3 g3.2.2.length (bP pQ bC g3.2.2)))],4⟩) [(2,some 106),(3,some 66)] [] ⟨rfl,⟨r2,r4,r4,r4,sr,sr,⟨oz,(λ _=>rfl),nofun,(ajw (a:=(v8.2.length:Int).toNat) (N:=v9.1.length) (λ _ _=>.refl _) (by first | omega | (simp; omega)))⟩,r2,r2,trivial⟩,⟨⟨sr,sr,r2,sr,sr,sr,trivial⟩,⟨sr,sr,sr,sr,sr,sr,trivial⟩,⟨sr,sr,sr,⟨rfl,rfl,rfl,rfl,nofun⟩,sr,sr,trivial⟩,⟨rfl,rfl,(λ _ _=>.refl _)⟩,trivial⟩⟩ <|λ jZ g3 hm=>si hm (λ _ hm=>s2 hm λ _ _ hm=>s2 hm λ _ _ hm=>sq hm uR λ v12 hm=>s2 hm λ _ _ hm=>lc [(3,some 244)] [] hm) λ _ hm=>sq hm aa7 λ v13 hm=>by cases hm;exact re
theorem Hg {r:List Int} (hm:Cu dD r):S 47 [.eF 0 0 dD.length true] [.row 1 dD.length (bP iV 0 dD)] (.eF 1 0 r.length false) [.row 1 dD.length (bP iV 0 dD),.row 1 r.length (bP iV 0 r)] :=by
 obtain ⟨h1,hm⟩:=hm
 have hm:r=dD:=hm
 subst hm
 refine nW (ct:=[1]) iX Tryz.func47 rfl rfl (Nat.le_of_ble_eq_true rfl) dk (Nat.le_of_ble_eq_true rfl) ?_
 (conv=>whnf)
 refine Sy (ct:=[]) iX (iX.slice (t:=22) (e:=3) rfl rfl rfl).1 dk dk dk dk dk [(2,.sl 0 0 true fJ),(0,.eF 0 0 r.length true)] [(0,some (.row 1 r.length (bP iV 0 r)))] 9 rfl rfl ?_ (λ hn=>?_) ?_
 ·exact rfl
 ·(conv=>whnf)
  have hn:r.length=0:=hn
  refine ⟨[],[(1,none)],?_⟩
  (conv=>whnf)
  exact ⟨⟨rfl,trivial,⟨⟨rfl,rfl,λ _ _=>.refl _⟩,hn,trivial⟩⟩,⟨rfl,rfl,rfl,rfl,rfl,hn⟩⟩
 ·(conv=>whnf)
  refine ⟨by rw [Nat.zero_add]; exact h1,?_⟩
  (conv=>whnf)
  refine ⟨[],[(1,some 25)],?_⟩
  (conv=>whnf)
  exact ⟨⟨rfl,trivial,⟨⟨rfl,rfl,λ _ _=>.refl _⟩,⟨rfl,Nat.zero_add _,jQ (l:=[]) rfl (λ _ h=>absurd h (Nat.not_lt_zero _)) rfl (λ _ _=>.refl _)⟩,trivial⟩⟩,⟨rfl,rfl,rfl,Nat.zero_add _,nofun⟩⟩
theorem CP {m_:Int} {qy:Int} (hm:Eo m_ qy r):S 76 [iV m_,.ro [iV qy]] [] (.bool r) [] :=sp Tryz.func76 rfl<|by cases hm;exact re
theorem Cj {f_:Int} {r:Int} (hm:lS s_ f_ r):S 130 [aC s_,.fn 76 [.ro [iV f_]]] [] (iV r) [] :=sp Tryz.func130 rfl<|l0 hm (λ g1=>⟨[(0,aC s_),(1,.fn 76 [.ro [iV f_]]),(7,iV (s_.length:Int)),(8,iV g1)],[],0⟩) <|λ aj g1 hm=>si hm (λ _ hm=>sn hm λ _ hm=>sq hm CP λ v3 hm=>si hm (λ _ hm=>by cases hm;exact re) λ _ hm=>sn hm λ _ hm=>le hm) λ _ hm=>by cases hm;exact re
theorem mW {afp:Int} {r:Nat×List Int} (hm:jy afp dD r):S 75 [.eF 0 0 dD.length false,.fn 76 [.ro [iV afp]]] [.row 1 dD.length (bP iV 0 dD)] (.eF 0 0 r.1 false) [.row 1 r.2.length (bP iV 0 r.2)] :=sp Tryz.func75 rfl<|sq hm Cj λ v1 hm=>si hm (λ _ hm=>by cases hm;exact re) λ _ hm=>sn hm λ _ hm=>l0 hm (λ g1=>⟨[(0,.eF 0 0 g1.2.2.length false),(1,.fn 76 [.ro [iV afp]]),(5,iV g1.1),(6,iV g1.2.1)],[(0,some (.row 1 g1.2.2.length (bP iV 0 g1.2.2)))],1⟩) <|λ aj g1 hm=>si hm (λ _ hm=>sn hm λ _ hm=>sq hm CP λ v4 hm=>si hm (λ _ hm=>s2 hm λ _ _ hm=>sn hm λ _ hm=>le hm) λ _ hm=>sn hm λ _ hm=>le hm) λ _ hm=>s2 hm λ _ _ hm=>by cases hm;exact rt [] [] (by (conv=>whnf);exact ⟨⟨rfl,trivial,⟨⟨rfl,oz,(adB rfl (λ _ _=>.refl _) oz (Uj iV 0))⟩,trivial⟩⟩,⟨rfl,rfl,rfl,rfl,nofun⟩⟩)
theorem Vp {aU:Int} {r:bg×Int} (hm:Uq b_ l_ g_ aU dD r):S 32 [jm b_,dO l_,.eF 0 0 dD.length true,jK g_,iV aU] [.row 1 dD.length (bP iV 0 dD)] (.kH [jK r.1,iV r.2]) [.row 1 dD.length (bP iV 0 dD)] :=sp Tryz.func32 rfl<|sb hm λ v1 hv1 hm=>cl ((rO hv1).le ⟨.refl _,.refl _,(.sl rfl (λ _=>rfl) nofun (λ _ _=>.refl _)),.refl _,.refl _,trivial⟩ trivial)<|si hm (λ _ hm=>by cases hm;exact re) λ _ hm=>sb hm λ v2 hv2 hm=>cl ((fE hv2).le ⟨(.sl rfl (λ _=>rfl) nofun (λ _ _=>.refl _)),.refl _,trivial⟩ trivial)<|si hm (λ _ hm=>by cases hm;exact re) λ _ hm=>sq hm Hg λ v3 hm=>sq hm mW λ v4 hm=>by
 have h1:=hm.1
 have hm:=hm.2
 refine iq hm λ v5 hv5 hm=>?_
 refine ⟨_,_,((mE hv5).le ⟨.refl _,.refl _,(.sl oz (λ _=>rfl) nofun (jP (f:=iV) (d:=0) (by first | omega | exact Nat.min_le_left _ _ | exact Nat.le_trans (Nat.min_le_left _ _) om | (simp; omega)))),.refl _,trivial⟩ trivial),?_⟩
 (conv=>whnf)
 have hm:r=((⟨v5.1,(⟨v5.2.1,v5.2.2.1⟩:cu),v5.2.2.2.2.2.2.2,v5.2.2.2.1,v5.2.2.2.2.1⟩:bg),v5.2.2.2.2.2.2.1):=hm
 subst hm
 refine ⟨[225],[],?_⟩
 (conv=>whnf)
 exact ⟨⟨rfl,trivial,⟨⟨rfl,rfl,(λ _ _=>.refl _)⟩,trivial⟩⟩,(by (conv=>whnf); exact ⟨(by (conv=>whnf); exact ⟨(by (conv=>whnf); exact sf),(by (conv=>whnf); exact ⟨(by (conv=>whnf); exact sf),(by (conv=>whnf); exact ⟨(by (conv=>whnf); exact sf),(by (conv=>whnf); exact ⟨(by (conv=>whnf); exact sf),(by (conv=>whnf); exact ⟨(by (conv=>whnf); exact sf),(by (conv=>whnf); exact ⟨(by (conv=>whnf); exact sf),trivial⟩)⟩)⟩)⟩)⟩)⟩),(by (conv=>whnf); exact ⟨(by first | ((conv=>whnf); exact r2) | exact r2),trivial⟩)⟩)⟩
theorem nI  {r:Bool} (hm:nX r):S 9 [] [] (.bool r) [] :=sp Tryz.func9 rfl<|sb hm λ v1 hv1 hm=>cl ((YN hv1).le ⟨(Le.Sl ⟨(.sl rfl (λ h=>absurd rfl h) nofun (λ _ h=>absurd h (Nat.not_lt_zero _))),(.sl rfl (λ h=>absurd rfl h) nofun (λ _ h=>absurd h (Nat.not_lt_zero _))),(.refl _),(.sl rfl (λ h=>absurd rfl h) nofun (λ _ h=>absurd h (Nat.not_lt_zero _))),(.sl rfl (λ h=>absurd rfl h) nofun (λ _ h=>absurd h (Nat.not_lt_zero _))),(.sl rfl (λ h=>absurd rfl h) nofun (λ _ h=>absurd h (Nat.not_lt_zero _))),trivial⟩),trivial⟩ trivial)<|sb hm λ v2 hv2 hm=>cl ((Gr hv2).le ⟨(Le.Sl ⟨(.sl rfl (λ h=>absurd rfl h) nofun (λ _ h=>absurd h (Nat.not_lt_zero _))),(.sl rfl (λ h=>absurd rfl h) nofun (λ _ h=>absurd h (Nat.not_lt_zero _))),(.refl _),(.sl rfl (λ h=>absurd rfl h) nofun (λ _ h=>absurd h (Nat.not_lt_zero _))),(.sl rfl (λ h=>absurd rfl h) nofun (λ _ h=>absurd h (Nat.not_lt_zero _))),(.sl rfl (λ h=>absurd rfl h) nofun (λ _ h=>absurd h (Nat.not_lt_zero _))),trivial⟩),(.sl rfl (λ _=>rfl) nofun (xq (Le.Sl ⟨(.sl rfl (λ h=>absurd rfl h) nofun (λ _ h=>absurd h (Nat.not_lt_zero _))),(.sl rfl (λ h=>absurd rfl h) nofun (λ _ h=>absurd h (Nat.not_lt_zero _))),(.sl rfl (λ h=>absurd rfl h) nofun (λ _ h=>absurd h (Nat.not_lt_zero _))),(.sl rfl (λ h=>absurd rfl h) nofun (λ _ h=>absurd h (Nat.not_lt_zero _))),(.refl _),(.sl rfl (λ h=>absurd rfl h) nofun (λ _ h=>absurd h (Nat.not_lt_zero _))),trivial⟩) (λ _ h=>absurd h (Nat.not_lt_zero _)))),(.sl rfl (λ h=>absurd rfl h) nofun (λ _ h=>absurd h (Nat.not_lt_zero _))),.refl _,.refl _,trivial⟩ trivial)<|sb hm λ v3 hv3 hm=>cl ((Vp hv3).le ⟨(Le.Sl ⟨(.sl rfl (λ h=>absurd rfl h) nofun (λ _ h=>absurd h (Nat.not_lt_zero _))),(.sl rfl (λ h=>absurd rfl h) nofun (λ _ h=>absurd h (Nat.not_lt_zero _))),(.refl _),(.sl rfl (λ h=>absurd rfl h) nofun (λ _ h=>absurd h (Nat.not_lt_zero _))),(.sl rfl (λ h=>absurd rfl h) nofun (λ _ h=>absurd h (Nat.not_lt_zero _))),(.sl rfl (λ h=>absurd rfl h) nofun (λ _ h=>absurd h (Nat.not_lt_zero _))),trivial⟩),(.sl rfl (λ _=>rfl) nofun (xq (Le.Sl ⟨(.sl rfl (λ h=>absurd rfl h) nofun (λ _ h=>absurd h (Nat.not_lt_zero _))),(.sl rfl (λ h=>absurd rfl h) nofun (λ _ h=>absurd h (Nat.not_lt_zero _))),(.sl rfl (λ h=>absurd rfl h) nofun (λ _ h=>absurd h (Nat.not_lt_zero _))),(.sl rfl (λ h=>absurd rfl h) nofun (λ _ h=>absurd h (Nat.not_lt_zero _))),(.refl _),(.sl rfl (λ h=>absurd rfl h) nofun (λ _ h=>absurd h (Nat.not_lt_zero _))),trivial⟩) (λ _ h=>absurd h (Nat.not_lt_zero _)))),.refl _,.refl _,.refl _,trivial⟩ ⟨⟨rfl,rfl,(gM iV 0 [(0:Int)])⟩,trivial⟩)<|si hm (λ _ hm=>si hm (λ _ hm=>sb hm λ v4 hv4 hm=>cl (λ q0=>((oZ (hv4 q0)).le ⟨(Le.Sl ⟨(.sl rfl (λ h=>absurd rfl h) nofun (λ _ h=>absurd h (Nat.not_lt_zero _))),(.sl rfl (λ h=>absurd rfl h) nofun (λ _ h=>absurd h (Nat.not_lt_zero _))),(.refl _),(.sl rfl (λ h=>absurd rfl h) nofun (λ _ h=>absurd h (Nat.not_lt_zero _))),(.sl rfl (λ h=>absurd rfl h) nofun (λ _ h=>absurd h (Nat.not_lt_zero _))),(.sl rfl (λ h=>absurd rfl h) nofun (λ _ h=>absurd h (Nat.not_lt_zero _))),trivial⟩),(.sl rfl (λ _=>rfl) nofun (xq (Le.Sl ⟨(.sl rfl (λ h=>absurd rfl h) nofun (λ _ h=>absurd h (Nat.not_lt_zero _))),(.sl rfl (λ h=>absurd rfl h) nofun (λ _ h=>absurd h (Nat.not_lt_zero _))),(.sl rfl (λ h=>absurd rfl h) nofun (λ _ h=>absurd h (Nat.not_lt_zero _))),(.sl rfl (λ h=>absurd rfl h) nofun (λ _ h=>absurd h (Nat.not_lt_zero _))),(.refl _),(.sl rfl (λ h=>absurd rfl h) nofun (λ _ h=>absurd h (Nat.not_lt_zero _))),trivial⟩) (λ _ h=>absurd h (Nat.not_lt_zero _)))),(.sl rfl (λ _=>rfl) nofun (gM iV 0 [(0:Int)])),.refl _,trivial⟩ trivial))<|by cases hm;exact re) λ c2 hm=>by
 refine ⟨.bool false,[],(λ q0=>absurd q0 (vac c2)),?_⟩
 (conv=>whnf)
 have hm:r=(((((v1.2==(0:Int))&&(v2.2.2==(0:Int)))&&(v2.2.1==(0:Int)))&&(v3.2==(0:Int)))&&false):=hm
 subst hm
 refine ⟨[],[],?_⟩
 (conv=>whnf)
 exact ⟨⟨rfl,trivial,trivial⟩,rfl⟩) λ c1 hm=>si hm (λ _ hm=>by
 refine ⟨.bool false,[],(λ q0=>absurd q0 (vac c1)),?_⟩
 (conv=>whnf)
 have hm:r=(((((v1.2==(0:Int))&&(v2.2.2==(0:Int)))&&(v2.2.1==(0:Int)))&&(v3.2==(0:Int)))&&false):=hm
 subst hm
 refine ⟨[],[],?_⟩
 (conv=>whnf)
 exact ⟨⟨rfl,trivial,trivial⟩,rfl⟩) λ _ hm=>by
 refine ⟨.bool false,[],(λ q0=>absurd q0 (vac c1)),?_⟩
 (conv=>whnf)
 have hm:r=(((((v1.2==(0:Int))&&(v2.2.2==(0:Int)))&&(v2.2.1==(0:Int)))&&(v3.2==(0:Int)))&&false):=hm
 subst hm
 refine ⟨[],[],?_⟩
 (conv=>whnf)
 exact ⟨⟨rfl,trivial,trivial⟩,rfl⟩
theorem aa8 {l_:List Int} {r:List Int×Int} (hm:Qo l_ r):S 10 [aC l_] [] (.ptr 0 0 0) [.box [aC r.1,iV r.2]] :=sp Tryz.func10 rfl<|sn hm λ _ hm=>by cases hm;exact rt [] [(0,some 56)]
theorem aa9 {n_:Int} {r:Int} (hm:Qp x_ n_ r):S 70 [iV x_,iV n_] [] (iV r) [] :=sp Tryz.func70 rfl<|si hm (λ _ hm=>by cases hm;exact re) λ _ hm=>s2 hm λ _ _ hm=>sn hm λ _ hm=>by cases hm;exact re
theorem cB {n_:Int} {dD:dJ} {r:Int×dJ} (hm:dZ n_ dD r):S 30 [.ptr 0 0 0,iV n_] [.box [aC dD.L,iV dD.At]] (iV r.1) [.box [aC r.2.L,iV r.2.At]] :=sp Tryz.func30 rfl<|si hm (λ _ hm=>by cases hm;exact re) λ _ hm=>s2 hm λ _ _ hm=>sn hm λ _ hm=>sq hm aa9 λ v1 hm=>by cases hm;exact re
theorem gV {l_:List Int} {dD:dJ} {r:Int×dJ} (hm:iA l_ dD r):S 56 [.ptr 0 0 0,aC l_] [.box [aC dD.L,iV dD.At]] (iV r.1) [.box [aC r.2.L,iV r.2.At]] :=sp Tryz.func56 rfl<|sq hm cB λ v1 hm=>sn hm λ _ hm=>by cases hm;exact re
theorem M8 {dD:dJ} {r:List aI×dJ} (hm:tC dD r):S 79 [.ptr 0 0 0] [.box [aC dD.L,iV dD.At]] (bA r.1) [.box [aC r.2.L,iV r.2.At]] :=spc [20,22] Tryz.func79 rfl<|sq hm cB λ v1 hm=>VQ [20,22] hm (λ g1=>⟨[(0,.ptr 0 0 0),(3,.eF 1 0 g1.2.2.2.length false),(4,iV g1.1)],[(0,some (.box [aC g1.2.1,iV g1.2.2.1])),(1,some (.row 5 g1.2.2.2.length (bP NC aK g1.2.2.2)))],2⟩) [(1,none)] [] <|λ aj g1 hm=>si hm (λ _ hm=>sb hm λ v28 hv28 hm=>cl ((gV hv28).le ⟨.refl _,(.sl rfl (λ _=>rfl) nofun (gM iV 0 [(12:Int),(24:Int),(48:Int),(100:Int)])),trivial⟩ ⟨kZ _,trivial⟩)<|ck [20,22] (eO g1 aj) r (λ g7=>⟨[(0,.ptr 0 0 0),(3,.eF 1 0 g1.2.2.2.length false),(4,iV g1.1),(5,.ptr 2 0 0)],[(0,some (.box [aC g7.1,iV g7.2.1])),(1,some (.row 5 g1.2.2.2.length (bP NC aK g1.2.2.2))),(2,some (.box [iV g7.2.2.1,.eF 3 0 g7.2.2.2.2.1.length false,.eF 4 0 g7.2.2.2.2.2.length false,iV (0:Int),iV g7.2.2.2.1])),(3,some (.row 1 g7.2.2.2.2.1.length (bP iV 0 g7.2.2.2.2.1))),(4,some (.row 1 g7.2.2.2.2.2.length (bP iV 0 g7.2.2.2.2.2)))],5⟩) (si hm (λ _ hm=>sq hm cB λ v41 hm=>si hm (λ _ hm=>sq hm cB λ v42 hm=>ck [20,22] (gK g1 aj) r (λ g8=>⟨[(0,.ptr 0 0 0),(3,.eF 1 0 g1.2.2.2.length false),(4,iV g1.1),(5,.ptr 2 0 0),(25,iV v41.1)],[(0,some (.box [aC g8.1,iV g8.2.1])),(1,some (.row 5 g1.2.2.2.length (bP NC aK g1.2.2.2))),(2,some (.box [iV g8.2.2.1,.eF 3 0 g8.2.2.2.1.length false,.eF 4 0 g8.2.2.2.2.length false,iV (0:Int),iV (0:Int)])),(3,some (.row 1 g8.2.2.2.1.length (bP iV 0 g8.2.2.2.1))),(4,some (.row 1 g8.2.2.2.2.length (bP iV 0 g8.2.2.2.2)))],5⟩) (sq hm cB λ v49 hm=>si hm (λ _ hm=>sb hm λ v50 adF hm=>cl ((gV adF).le ⟨.refl _,(.sl rfl (λ _=>rfl) nofun (gM iV 0 [(3:Int),(4:Int),(8:Int)])),trivial⟩ ⟨kZ _,trivial⟩)<|lc [(2,some 58),(3,some 178),(4,some 258)] [] hm) λ _ hm=>si hm (λ _ hm=>sb hm λ v51 apN hm=>cl ((gV apN).le ⟨.refl _,(.sl rfl (λ _=>rfl) nofun (gM iV 0 [(2:Int),(3:Int)])),trivial⟩ ⟨kZ _,trivial⟩)<|lc [(2,some 58),(3,some 178),(4,some 274)] [] hm) λ _ hm=>si hm (λ _ hm=>lc [(2,some 58),(3,some 178),(4,some 266)] [] hm) λ _ hm=>si hm (λ _ hm=>sn hm λ _ hm=>sq hm cB λ v52 hm=>sn hm λ _ hm=>lc [(2,some 58),(3,some 346),(4,some 354)] [] hm) λ _ hm=>lc [(2,some 58),(3,some 178),(4,some 282)] [] hm) λ g8 hm=>sq hm cB λ v47 hm=>si hm (λ _ hm=>sb hm λ v48 aaB hm=>cl ((gV aaB).le ⟨.refl _,(.sl rfl (λ _=>rfl) nofun (gM iV 0 [(24:Int),(48:Int),(96:Int)])),trivial⟩ ⟨kZ _,trivial⟩)<|le hm) λ _ hm=>le hm) λ _ hm=>lc [(2,some 58),(3,none),(4,some 42)] [] hm) λ c37 hm=>by
 refine ⟨(λ q0=>absurd q0 (vac c37)),?_⟩
 (conv=>whnf)
 refine aZ hm λ h28 hm=>?_
 (conv=>whnf)
 exact ⟨(v28.2.L,v28.2.At,(1:Int),(0:Int),([]:List Int),([v28.1]:List Int)),[(2,some 58),(3,none),(4,some 42)],[],hm,⟨rfl,⟨r4,⟨rfl,rfl,rfl,rfl,nofun⟩,r2,r4,trivial⟩,⟨⟨sf,r2,trivial⟩,⟨rfl,rfl,(λ _ _=>.refl _)⟩,⟨r2,⟨rfl,rfl,rfl,rfl,rfl,rfl⟩,⟨rfl,rfl,rfl,rfl,nofun⟩,r2,r2,trivial⟩,rfl,⟨rfl,rfl,(gM iV 0 [v28.1])⟩,trivial⟩⟩⟩) λ g7 hm=>s2 hm λ _ _ hm=>lc [(1,some 29)] [] hm) λ _ hm=>by cases hm;exact rt [1] []
end Go.Proofs.YtccjmcmolnbiiaaGreatDoor

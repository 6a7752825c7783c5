/- A part of the proof. -/
import Derived.Test.YtccjmcmolnbiiaaGreatDoorA8
import Derived.Test.YtccjmcmolnbiiaaGreatDoorA4
set_option linter.defProp false
set_option linter.unusedVariables false
set_option linter.unusedSimpArgs false
set_option maxHeartbeats 20000000
namespace Go.Proofs.YtccjmcmolnbiiaaGreatDoor
open Go.ChangeShapes Go.WideShapes Go.ChangeAt Go.RowKit
open Go.Ab
set_option maxRecDepth 100000
def QI (n:Int):Prop:=(Lit.int .i64 n).wf=true
def QL {α:Type} (Q:α->Prop) (l:List α):Prop:=l.length<=1048576/\∀x∈l,Q x
section
variable {H:Type} {enc:TypeId×Value->H} {W:World}
def JW:Rd enc W 3 iV QI:=asy Tryz.underlying3
def asA:Rd enc W 4 AV.bool (λ _=>True):=apt Tryz.underlying4
def auH:Rd enc W 9 AV.str (λ s=>s.size<=1048576):=asz Tryz.underlying9
def tq:Rd enc W 22 au (QL QI):=qL (α:=Int) (F:=iV) 0 1 Tryz.underlying22 (by kernel_rfl) (by decide) (λ _=>rfl) JW
def aeU (x:aJ):Prop:=QI x.gG/\(QL QI) x.aS/\(QL QI) x.aP/\QI x.Low/\QI x.fV/\True
def anU:Rd enc W 191 EA aeU:=lW (tot:=5) EA aeU (λ p:Int×ag8×ag8×Int×Int×Unit=>⟨p.1,p.2.1,p.2.2.1,p.2.2.2.1,p.2.2.2.2.1⟩) Tryz.underlying191 (by kernel_rfl) (fG (o:=0) (o':=1) JW rfl (by kernel_rfl) (fG (o:=1) (o':=2) tq rfl (by kernel_rfl) (fG (o:=2) (o':=3) tq rfl (by kernel_rfl) (fG (o:=3) (o':=4) JW rfl (by kernel_rfl) (fG (o:=4) (o':=5) JW rfl (by kernel_rfl) rJ))))) (λ _=>rfl) (λ _ h=>h)
def aiE:Rd enc W 26 bA (QL aeU):=qL (α:=aJ) (F:=EA) aL 5 Tryz.underlying26 (by kernel_rfl) (by decide) (λ _=>rfl) anU
def ZT (x:aI):Prop:=QI x.aW/\(QL QI) x.bY/\QI x.gU/\QI x.iP/\(λ _=>True) x.gF/\True
def akX:Rd enc W 175 u7 ZT:=lW (tot:=5) u7 ZT (λ p:Int×ag8×Int×Int×Bool×Unit=>⟨p.1,p.2.1,p.2.2.1,p.2.2.2.1,p.2.2.2.2.1⟩) Tryz.underlying175 (by kernel_rfl) (fG (o:=0) (o':=1) JW rfl (by kernel_rfl) (fG (o:=1) (o':=2) tq rfl (by kernel_rfl) (fG (o:=2) (o':=3) JW rfl (by kernel_rfl) (fG (o:=3) (o':=4) JW rfl (by kernel_rfl) (fG (o:=4) (o':=5) asA rfl (by kernel_rfl) rJ))))) (λ _=>rfl) (λ _ h=>h)
def ag0:Rd enc W 27 bf (QL ZT):=qL (α:=aI) (F:=u7) aD 5 Tryz.underlying27 (by kernel_rfl) (by decide) (λ _=>rfl) akX
def ag2:Rd enc W 51 gM (QL (λ s=>s.size<=1048576)):=qL (α:=ByteArray) (F:=AV.str) ByteArray.empty 1 Tryz.underlying51 (by kernel_rfl) (by decide) (λ _=>rfl) auH
def Q9 (x:cu):Prop:=(λ s=>s.size<=1048576) x.wh/\(QL QI) x.bU/\(QL (λ s=>s.size<=1048576)) x.ak/\True
def ag3:Rd enc W 60 lS Q9:=lW (tot:=3) lS Q9 (λ p:ByteArray×ag8×aiS×Unit=>⟨p.1,p.2.1,p.2.2.1⟩) Tryz.underlying60 (by kernel_rfl) (fG (o:=0) (o':=1) auH rfl (by kernel_rfl) (fG (o:=1) (o':=2) tq rfl (by kernel_rfl) (fG (o:=2) (o':=3) ag2 rfl (by kernel_rfl) rJ))) (λ _=>rfl) (λ _ h=>h)
def acM:Rd enc W 28 bn (QL Q9):=qL (α:=cu) (F:=lS) aF 3 Tryz.underlying28 (by kernel_rfl) (by decide) (λ _=>rfl) ag3
def aeV (x:bg):Prop:=QI x.bU/\(QL Q9) x.av/\True
def akY:Rd enc W 30 kU aeV:=lW (tot:=2) kU aeV (λ p:Int×ajZ×Unit=>⟨p.1,p.2.1⟩) Tryz.underlying30 (by kernel_rfl) (fG (o:=0) (o':=1) JW rfl (by kernel_rfl) (fG (o:=1) (o':=2) acM rfl (by kernel_rfl) rJ)) (λ _=>rfl) (λ _ h=>h)
def aeW (x:dX):Prop:=(QL QI) x.eG/\True
def anV:Rd enc W 133 aaK aeW:=lW (tot:=1) aaK aeW (λ p:ag8×Unit=>⟨p.1⟩) Tryz.underlying133 (by kernel_rfl) (fG (o:=0) (o':=1) tq rfl (by kernel_rfl) rJ) (λ _=>rfl) (λ _ h=>h)
def aiF:Rd enc W 31 dn (QL aeW):=qL (α:=dX) (F:=aaK) dJ 1 Tryz.underlying31 (by kernel_rfl) (by decide) (λ _=>rfl) anV
def ZU (x:dD):Prop:=QI x.aW/\(λ _=>True) x.gF/\True
def akZ:Rd enc W 136 UM ZU:=lW (tot:=2) UM ZU (λ p:Int×Bool×Unit=>⟨p.1,p.2.1⟩) Tryz.underlying136 (by kernel_rfl) (fG (o:=0) (o':=1) JW rfl (by kernel_rfl) (fG (o:=1) (o':=2) asA rfl (by kernel_rfl) rJ)) (λ _=>rfl) (λ _ h=>h)
def ag4:Rd enc W 32 bX (QL ZU):=qL (α:=dD) (F:=UM) dQ 2 Tryz.underlying32 (by kernel_rfl) (by decide) (λ _=>rfl) akZ
def aeX (x:aM):Prop:=(QL aeU) x.bS/\(QL ZT) x.bF/\aeV x.aT/\(QL aeW) x.aZ/\(QL ZU) x.dz/\True
def anW:Rd enc W 34 iO aeX:=lW (tot:=6) iO aeX (λ p:ah3×ahf×bg×ajB×ajk×Unit=>⟨p.1,p.2.1,p.2.2.1,p.2.2.2.1,p.2.2.2.2.1⟩) Tryz.underlying34 (by kernel_rfl) (fG (o:=0) (o':=1) aiE rfl (by kernel_rfl) (fG (o:=1) (o':=2) ag0 rfl (by kernel_rfl) (fG (o:=2) (o':=4) akY rfl (by kernel_rfl) (fG (o:=4) (o':=5) aiF rfl (by kernel_rfl) (fG (o:=5) (o':=6) ag4 rfl (by kernel_rfl) rJ))))) (λ _=>rfl) (λ _ h=>h)
def aeY (x:bP):Prop:=QI x.fE/\QI x.Low/\QI x.fV/\True
def anX:Rd enc W 112 rU aeY:=lW (tot:=3) rU aeY (λ p:Int×Int×Int×Unit=>⟨p.1,p.2.1,p.2.2.1⟩) Tryz.underlying112 (by kernel_rfl) (fG (o:=0) (o':=1) JW rfl (by kernel_rfl) (fG (o:=1) (o':=2) JW rfl (by kernel_rfl) (fG (o:=2) (o':=3) JW rfl (by kernel_rfl) rJ))) (λ _=>rfl) (λ _ h=>h)
def aiG:Rd enc W 49 fH (QL aeY):=qL (α:=bP) (F:=rU) dM 3 Tryz.underlying49 (by kernel_rfl) (by decide) (λ _=>rfl) anX
def ajJ (x:bO):Prop:=QI x.dG/\QI x.Low/\QI x.fV/\QI x.Load/\True
def apu:Rd enc W 114 A9 ajJ:=lW (tot:=4) A9 ajJ (λ p:Int×Int×Int×Int×Unit=>⟨p.1,p.2.1,p.2.2.1,p.2.2.2.1⟩) Tryz.underlying114 (by kernel_rfl) (fG (o:=0) (o':=1) JW rfl (by kernel_rfl) (fG (o:=1) (o':=2) JW rfl (by kernel_rfl) (fG (o:=2) (o':=3) JW rfl (by kernel_rfl) (fG (o:=3) (o':=4) JW rfl (by kernel_rfl) rJ)))) (λ _=>rfl) (λ _ h=>h)
def ak0:Rd enc W 50 fJ (QL ajJ):=qL (α:=bO) (F:=A9) dV 4 Tryz.underlying50 (by kernel_rfl) (by decide) (λ _=>rfl) apu
def ag5 (x:aH):Prop:=(QL aeY) x.bG/\(QL ajJ) x.d9/\(QL (λ s=>s.size<=1048576)) x.ak/\(QL QI) x.aZ/\QI x.fO/\(QL QI) x.aY/\True
def apv:Rd enc W 53 rV ag5:=lW (tot:=6) rV ag5 (λ p:ajc×ai8×aiS×ag8×Int×ag8×Unit=>⟨p.1,p.2.1,p.2.2.1,p.2.2.2.1,p.2.2.2.2.1,p.2.2.2.2.2.1⟩) Tryz.underlying53 (by kernel_rfl) (fG (o:=0) (o':=1) aiG rfl (by kernel_rfl) (fG (o:=1) (o':=2) ak0 rfl (by kernel_rfl) (fG (o:=2) (o':=3) ag2 rfl (by kernel_rfl) (fG (o:=3) (o':=4) tq rfl (by kernel_rfl) (fG (o:=4) (o':=5) JW rfl (by kernel_rfl) (fG (o:=5) (o':=6) tq rfl (by kernel_rfl) rJ)))))) (λ _=>rfl) (λ _ h=>h)
def ak1:Rd enc W 35 cO (QL ag5):=qL (α:=aH) (F:=rV) aU 6 Tryz.underlying35 (by kernel_rfl) (by decide) (λ _=>rfl) apv
def Xo:Rd enc W 36 aQ (QL (λ _=>True)):=qL (α:=Bool) (F:=AV.bool) false 1 Tryz.underlying36 (by kernel_rfl) (by decide) (λ _=>rfl) asA
def aiH (x:bZ):Prop:=(QL (λ _=>True)) x.On/\(QL QI) x.dL/\True
def anY:Rd enc W 38 xD aiH:=lW (tot:=2) xD aiH (λ p:ag9×ag8×Unit=>⟨p.1,p.2.1⟩) Tryz.underlying38 (by kernel_rfl) (fG (o:=0) (o':=1) Xo rfl (by kernel_rfl) (fG (o:=1) (o':=2) tq rfl (by kernel_rfl) rJ)) (λ _=>rfl) (λ _ h=>h)
def asB (x:mJ):Prop:=QI x.dF/\QI x.gL/\True
def asC:Rd enc W 55 aks asB:=lW (tot:=2) aks asB (λ p:Int×Int×Unit=>⟨p.1,p.2.1⟩) Tryz.underlying55 (by kernel_rfl) (fG (o:=0) (o':=1) JW rfl (by kernel_rfl) (fG (o:=1) (o':=2) JW rfl (by kernel_rfl) rJ)) (λ _=>rfl) (λ _ h=>h)
def ZV (x:aR):Prop:=QI x.iW/\asB x.l7/\True
def ak2:Rd enc W 57 kG ZV:=lW (tot:=3) kG ZV (λ p:Int×mJ×Unit=>⟨p.1,p.2.1⟩) Tryz.underlying57 (by kernel_rfl) (fG (o:=0) (o':=1) JW rfl (by kernel_rfl) (fG (o:=1) (o':=3) asC rfl (by kernel_rfl) rJ)) (λ _=>rfl) (λ _ h=>h)
def ag6:Rd enc W 39 cK (QL ZV):=qL (α:=aR) (F:=kG) bE 3 Tryz.underlying39 (by kernel_rfl) (by decide) (λ _=>rfl) ak2
def aeZ (x:aO):Prop:=(QL QI) x.bM/\aiH x.dB/\(QL ZV) x.dK/\(QL (λ _=>True)) x.bV/\(QL (λ _=>True)) x.dH/\True
def anZ:Rd enc W 41 iT aeZ:=lW (tot:=6) iT aeZ (λ p:ag8×bZ×aiX×ag9×ag9×Unit=>⟨p.1,p.2.1,p.2.2.1,p.2.2.2.1,p.2.2.2.2.1⟩) Tryz.underlying41 (by kernel_rfl) (fG (o:=0) (o':=1) tq rfl (by kernel_rfl) (fG (o:=1) (o':=3) anY rfl (by kernel_rfl) (fG (o:=3) (o':=4) ag6 rfl (by kernel_rfl) (fG (o:=4) (o':=5) Xo rfl (by kernel_rfl) (fG (o:=5) (o':=6) Xo rfl (by kernel_rfl) rJ))))) (λ _=>rfl) (λ _ h=>h)
end
end Go.Proofs.YtccjmcmolnbiiaaGreatDoor
namespace Go.Proofs.YtccjmcmolnbiiaaGreatDoor
open Go.Ab
variable {p:Prop}
def z (h:p:=by
 repeat' first
  | with_reducible exact trivial
  | with_reducible exact rfl
  | with_reducible refine And.intro ?_ ?_
  | ((conv=>whnf);first
   | with_reducible refine And.intro ?_ ?_
   | with_reducible refine Emb.mk ?_ ?_ ?_
   | with_reducible exact trivial)
  | exact rfl
  | exact λ _ _=>Le.refl _
  | exact λ _=>rfl
  | exact id
  | exact λ h=>Bool.noConfusion h
  | exact Le.refl _
  | exact SN.refl _
  | exact λ h=>absurd rfl h
  | exact λ _ h=>absurd h (Nat.not_lt_zero _)
  | exact oI (.refl _) rfl (Nat.lt_of_sub_pos (by exact Nat.zero_lt_succ _))
  | omega
  | (simp[iE];done)
  | (simp[iE];omega)
  | (simp[iE,Uw];done)
  | (simp[iE,Uw];omega)
  | refine lQ ?_ ?_ ?_
  | refine iN ?_ ?_ ?_ ?_
  | exact aoK (λ _ _=>Le.refl _) (Le.refl _)
  | exact ac8 (λ _=>rfl)
  | exact lC om
  | exact fK _ _ _
  | exact UL _ _
  | refine uO ?_ ?_
  | refine Le.Ez ?_
  | refine Le.sl ?_ ?_ ?_ ?_):p:=h
def dk (h:p:=by decide +kernel):p:=h
def oz (h:p:=by first | omega | (simp[iE];done) | (simp[iE];omega)):p:=h
def sr {n es:Nat} {f:Bool} {g:Nat->AV}:n=n/\(n≠0->es=es)/\(f=true->f=true)/\∀i,i<n->Le (g i) (g i):=⟨rfl,λ _=>rfl,id,λ _ _=>.refl _⟩
def sf {n es:Nat} {f:Bool} {g:Nat->AV}:n=n/\(n≠0->es=es)/\(false=true->f=true)/\∀i,i<n->Le (g i) (g i):=⟨rfl,λ _=>rfl,nofun,λ _ _=>.refl _⟩
variable {A:Type} {B:Type} {C:Type}
def r4 {D:Type} {a:A} {b:B} {c:C} {d:D}:a=a/\b=b/\c=c/\d=d:=⟨rfl,rfl,rfl,rfl⟩
def r2 {a:A} {b:B}:a=a/\b=b:=⟨rfl,rfl⟩
def sn {R:Type} {d:Decidable p} {m:M R} {r:R} {K:Prop} (hm:need p m r) (h:p->m r->K):p/\K:=⟨hm.1,h hm.1 hm.2⟩
def sq {A R B C : Type} {m : M A} {k : A -> M R} {r : R} {p K : B -> C -> Prop} {a : A -> B} {b : A -> C} (hm : bnd m k r) (F : ∀ {v}, m v -> p (a v) (b v)) (h : ∀ v, k v r -> K (a v) (b v)) : ∃ a b, p a b /\ K a b := iJ hm λ v hv hm => ⟨a v, b v, F hv, h v hm⟩
def s2 {R:Type} {q:Prop} {d:Decidable p} {d2:Decidable q} {m:M R} {r:R} {K:Prop} (hm:need p (need q m) r) (h:p->q->m r->K):p/\q/\K:=⟨hm.1,hm.2.1,h hm.1 hm.2.1 hm.2.2⟩
def si {R:Type} {c:Bool} {x y:M R} {r:R} {A B:Prop} (hm:(cond c x y) r) (h1:c=true->x r->A) (h2:c=false->y r->B):Z7 c A B:=jd hm h1 h2
def aly {E R:Type} {i:Int} {l:List E} {x y:M R} {r:R} {A B:Prop} (hm:(ak8 i l x y) r) (h1:x r->A) (h2:y r->B):Z7 (decide (i<(l.length:Int))) ((0<=i/\i<(l.length:Int))/\A) B:=si hm (λ _ m=>⟨m.1,h1 m.2⟩) λ _=>h2
def al3 {E R:Type} {q:Prop} {d:Decidable q} {i:Int} {l:List E} {x y:M R} {r:R} {A B:Prop} (hm:(ak8 i l (need q x) y) r) (h1:x r->A) (h2:y r->B):Z7 (decide (i<(l.length:Int))) ((0<=i/\i<(l.length:Int))/\q/\A) B:=si hm (λ _ m=>⟨m.1,m.2.1,h1 m.2.2⟩) λ _=>h2
def ak3 {R:Type} {d:Decidable p} {m:M R} {r:R} {K:Prop} (hm:need p m r) (h:m r->K):p/\K:=⟨hm.1,h hm.2⟩
def ak4 {R:Type} {q:Prop} {d:Decidable p} {d2:Decidable q} {m:M R} {r:R} {K:Prop} (hm:need p (need q m) r) (h:m r->K):p/\q/\K:=⟨hm.1,hm.2.1,h hm.2.2⟩
def ak5 {R:Type} {c:Bool} {x y:M R} {r:R} {A B:Prop} (hm:(cond c x y) r) (h1:x r->A) (h2:y r->B):Z7 c A B:=jd hm (λ _=>h1) λ _=>h2
def ak6 {R:Type} {c:Bool} {x y:M R} {r:R} {A B:Prop} (hm:(cond c x y) r) (h1:c=true->x r->A) (h2:y r->B):Z7 c A B:=jd hm h1 λ _=>h2
def sb {R:Type} {m:M A} {k:A->M R} {r:R} {G:Prop} (hm:bnd m k r) (h:∀v,m v->k v r->G):G:=iJ hm h
def cl {p K:A->B->Prop} {a:A} {b:B} (h:p a b) (k:K a b):∃a b,p a b/\K a b:=⟨a,b,h,k⟩
def re {P:List A->List B->Prop} (h:P [] []:=by exact z):∃a b,P a b:=⟨_,_,h⟩
def am2 {n:Nat} {g:Nat->AV}:∀i,i<n->Le (g i) (g i):=λ _ _=>.refl _
abbrev adl {A:Type} (o k:Nat) (e:A->AV) (d:A) (l:List A):Nat×Option eD:=(o,some (.row k l.length (bT e d l)))
abbrev adn (o:Nat) (l:aiA):Nat×Option eD:=(o,some (.box l))
abbrev adr {A:Type} (o:Nat) (l:List A):AV:=.eO o 0 l.length false
abbrev acN:AV:=.sl 0 0 true fq
def abZ {a b:Nat} {c:Bool} {g h:Nat->AV}:Le (.sl a 0 c g) (.sl b 0 false h):=.sl rfl (λ h=>absurd rfl h) nofun (λ _ h=>absurd h (Nat.not_lt_zero _))
def bD {A G:Prop} (m:A) (h:A->G:=by intro h;cases h;exact re):G:=h m
def bR {A B G:Prop} (h:A->B->G:=by intro _ h;cases h;exact re):A->B->G:=h
def abY {B G:Prop} (h:B->G:=by intro h;cases h;exact re):B->G:=h
def aag {p:Prop} (h:p:=by(conv=>whnf);exact sf):p:=h
def aal {p q:Prop} (h:p) (k:q):p/\q:=⟨h,k⟩
def aaI {p:Prop} (h:p:=by exact⟨rfl,rfl,rfl,rfl,nofun⟩):p:=h
def abX {p:Prop} (h:p:=by exact⟨rfl,rfl,(λ _ _=>.refl _)⟩):p:=h
def rt {P:A->B->Prop} (a:A) (b:B) (h:P a b:=by exact z):∃a b,P a b:=⟨_,_,h⟩
def lc {p:A->Prop} {E:A->B->C->Prop} {a:A} (b:B) (c:C) (hm:p a) (h:E a b c:=by exact z):∃a b c,p a/\E a b c:=⟨a,b,c,hm,h⟩
def lce {p:A->Prop} {E:A->B->C->Prop} {a:A} (b:B) (c:C) (hm:p a) (h:E a b c):∃a b c,p a/\E a b c:=⟨a,b,c,hm,h⟩
def le {p:A->Prop} {E:A->List B->List C->Prop} {a:A} (hm:p a) (h:E a [] []:=by exact z):∃a b c,p a/\E a b c:=⟨a,_,_,hm,h⟩
def ZW (ct:ahb) {fn:Func} {f:FuncId} {c:Code} {args:aiA} {obs:ajN} {r:AV} {gy:ajN} (hf:Tryz.prog.funcs[f]? = some fn) (hb:fn.body=some c)
  (h:lN cfg (Ab.Spec Tryz.prog cfg) ct (Loops Tryz.prog cfg fn.ntmps none obs.length) c ⟨Lr args 0,Kq.pE obs 0,obs.length⟩ (amf cfg fn.results.toList obs.length r gy))
  (hnm:(fn.name == "runtime.NumGoroutine")=false:=by exact rfl)
  (hN:args.length<=fn.ntmps:=by exact Nat.le_of_ble_eq_true rfl) (hok:jq fn.ntmps c=true:=by decide +kernel) (hle:obs.length<=gy.length:=by exact Nat.le_of_ble_eq_true rfl):S f args obs r gy:=
 nT jh hf hb hnm hN hok hle h
def sp {fn:Func} {f:FuncId} {c:Code} {args:aiA} {obs:ajN} {r:AV} {gy:ajN} (hf:Tryz.prog.funcs[f]? = some fn) (hb:fn.body=some c)
  (h:lN cfg (Ab.Spec Tryz.prog cfg) [] (Loops Tryz.prog cfg fn.ntmps none obs.length) c ⟨Lr args 0,Kq.pE obs 0,obs.length⟩ (amf cfg fn.results.toList obs.length r gy))
  (hnm:(fn.name == "runtime.NumGoroutine")=false:=by exact rfl)
  (hN:args.length<=fn.ntmps:=by exact Nat.le_of_ble_eq_true rfl) (hok:jq fn.ntmps c=true:=by decide +kernel) (hle:obs.length<=gy.length:=by exact Nat.le_of_ble_eq_true rfl):S f args obs r gy:=
 nT jh hf hb hnm hN hok hle h
section
variable {N:Nat} {rr:Option Nat} {m:Nat}
variable {c:Code} {s:St} {K:Exit->St->Prop} {σ R:Type} {F:(σ->M R)->σ->M R} {x0:σ} {r:R}
def lfe (ct:ahb) (hm:dx F x0 r) (st:σ->St) (ρ0:List (Nat×Option Nat)) (os0:ahb) (hE:Tc m ρ0 os0 s (st x0))
  (round:∀(self:σ->M R) (x:σ),F self x r->lN cfg (Ab.Spec Tryz.prog cfg) ct (Loops Tryz.prog cfg N rr m) c (st x) (λ e s'=>match e with | .normal=>∃x' ρ os,self x' r/\Tc m ρ os s' (st x') | e=>K e s'))
  (hok:jq N c=true:=by decide +kernel):Loops Tryz.prog cfg N rr m (.loop c) s K:=wB jh hok hm st ρ0 os0 hE round
def SG (ct:ahb) (hm:dx F x0 r) (st:σ->St) (ρ0:List (Nat×Option Nat)) (os0:ahb)
  (round:∀(self:σ->M R) (x:σ),F self x r->lN cfg (Ab.Spec Tryz.prog cfg) ct (Loops Tryz.prog cfg N rr m) c (st x) (λ e s'=>match e with | .normal=>∃x' ρ os,self x' r/\Tc m ρ os s' (st x') | e=>K e s'))
  (hE:Tc m ρ0 os0 s (st x0):=by exact z) (hok:jq N c=true:=by decide +kernel):Loops Tryz.prog cfg N rr m (.loop c) s K:=wB jh hok hm st ρ0 os0 hE round
def lf (hm:dx F x0 r) (st:σ->St) (ρ0:List (Nat×Option Nat)) (os0:ahb)
  (round:∀(self:σ->M R) (x:σ),F self x r->lN cfg (Ab.Spec Tryz.prog cfg) [] (Loops Tryz.prog cfg N rr m) c (st x) (λ e s'=>match e with | .normal=>∃x' ρ os,self x' r/\Tc m ρ os s' (st x') | e=>K e s'))
  (hE:Tc m ρ0 os0 s (st x0):=by exact z) (hok:jq N c=true:=by decide +kernel):Loops Tryz.prog cfg N rr m (.loop c) s K:=wB jh hok hm st ρ0 os0 hE round
def l0 (hm:dx F x0 r) (st:σ->St)
  (round:∀(self:σ->M R) (x:σ),F self x r->lN cfg (Ab.Spec Tryz.prog cfg) [] (Loops Tryz.prog cfg N rr m) c (st x) (λ e s'=>match e with | .normal=>∃x' ρ os,self x' r/\Tc m ρ os s' (st x') | e=>K e s'))
  (hE:Tc m [] [] s (st x0):=by exact z) (hok:jq N c=true:=by decide +kernel):Loops Tryz.prog cfg N rr m (.loop c) s K:=wB jh hok hm st [] [] hE round
def ck (ct:ahb) {x y:Code} {s:St} {K:Exit->St->Prop} (k:σ->M R) (r:R) (st:σ->St)
  (h1:lN cfg (Ab.Spec Tryz.prog cfg) ct (Loops Tryz.prog cfg N rr m) x s (λ e s'=>match e with | .normal=>∃x' ρ os,k x' r/\Tc m ρ os s' (st x') | e=>K e s'))
  (h2:∀x',k x' r->lN cfg (Ab.Spec Tryz.prog cfg) ct (Loops Tryz.prog cfg N rr m) y (st x') K) (aqX:jq N x=true:=by decide +kernel) (aqY:jq N y=true:=by decide +kernel):Loops Tryz.prog cfg N rr m (.seq x y) s K:=aaH jh aqX aqY k r st h1 h2
end
end Go.Proofs.YtccjmcmolnbiiaaGreatDoor
namespace Go.Proofs.YtccjmcmolnbiiaaGreatDoor
open Go.Ab
set_option maxRecDepth 100000
set_option maxHeartbeats 20000000
variable {r:Bool}
def T9 {c_:aJ} (m:H7 c_ r):S 152 [EA c_] [] (.bool r) [] :=sp Tryz.func152 rfl<|bD m
def zW {s_:ah3} {r:Int} (m:uw s_ r):S 199 [bA s_,.fn 152 []] [] (iV r) [] :=sp Tryz.func199 rfl<|l0 m (λ g1=>⟨[(0,bA s_),(1,.fn 152 []),(7,iV (s_.length:Int)),(8,iV g1)],[],0⟩) <|λ aj g1 m=>aly m (λ m=>sq m T9 λ v3 m=>si m bR λ _ m=>ak3 m λ m=>le m) abY
def wY {s_:ah3} (m:lY s_ r):S 151 [bA s_,.fn 152 []] [] (.bool r) [] :=sp Tryz.func151 rfl<|sq m zW λ v1 m=>bD m
def jl {n_:Int} {wU:Int} {yT:Int} (m:j4 n_ wU yT r):S 202 [iV n_,iV wU,iV yT] [] (.bool r) [] :=sp Tryz.func202 rfl<|bD m
def Ua {p_:Int} {qw:Int} (m:Al p_ qw r):S 201 [iV p_,.ro [iV qw]] [] (.bool r) [] :=sp Tryz.func201 rfl<|ak3 m λ m=>sq m jl λ v1 m=>bD m
variable {s_:ag8}
def F4 {f_:Int} {r:Int} (m:Ba s_ f_ r):S 130 [au s_,.fn 201 [.ro [iV f_]]] [] (iV r) [] :=sp Tryz.func130 rfl<|l0 m (λ g1=>⟨[(0,au s_),(1,.fn 201 [.ro [iV f_]]),(7,iV (s_.length:Int)),(8,iV g1)],[],0⟩) <|λ aj g1 m=>aly m (λ m=>sq m Ua λ v3 m=>si m bR λ _ m=>ak3 m λ m=>le m) abY
def Cx {f_:Int} (m:oJ s_ f_ r):S 200 [au s_,.fn 201 [.ro [iV f_]]] [] (.bool r) [] :=sp Tryz.func200 rfl<|sq m F4 λ v1 m=>bD m
def Ny {v_:Int} {r:Int} (m:slices_Index_int s_ v_ r):S 88 [au s_,iV v_] [] (iV r) [] :=sp Tryz.func88 rfl<|l0 m (λ g1=>⟨[(0,au s_),(1,iV v_),(7,iV (s_.length:Int)),(8,iV g1)],[],0⟩) <|λ aj g1 m=>aly m (λ m=>si m bR λ _ m=>ak3 m λ m=>le m) abY
def gq {v_:Int} (m:slices_Contains_int s_ v_ r):S 45 [au s_,iV v_] [] (.bool r) [] :=sp Tryz.func45 rfl<|sq m Ny λ v1 m=>bD m
def nQ {l_:ag8} {wU:Int} {yT:Int} (m:nE l_ wU yT r):S 203 [au l_,iV wU,iV yT] [] (.bool r) [] :=sp Tryz.func203 rfl<|l0 m (λ g1=>⟨[(0,au l_),(1,iV wU),(2,iV yT),(9,au l_),(10,iV (l_.length:Int)),(11,iV g1)],[],0⟩) <|λ aj g1 m=>si m (λ _ m=>sn m λ _ m=>sq m jl λ v5 m=>sn m λ _ m=>sb m λ v6 hv6 m=>cl (λ q0=>((gq (hv6 q0)).le ⟨(.sl oz (λ _=>rfl) nofun (lC (f:=iV) (d:=0) (by first | omega | exact Nat.min_le_left _ _ | exact Nat.le_trans (Nat.min_le_left _ _) om | (simp;omega)))),.refl _,ag7⟩ trivial))<|si m bR λ _ m=>sn m λ _ m=>le m) bR
def zy {s1_:ag8} {s2_:ag8} (m:slices_Equal_int s1_ s2_ r):S 204 [au s1_,au s2_] [] (.bool r) [] :=sp Tryz.func204 rfl<|si m bR λ _ m=>l0 m (λ g1=>⟨[(0,au s1_),(1,au s2_),(12,iV (s1_.length:Int)),(13,iV g1)],[],0⟩) <|λ aj g1 m=>al3 m (λ m=>si m bR λ _ m=>ak3 m λ m=>le m) abY
def Xp {c_:aJ} {at_:Int} (m:Oh c_ at_ r):S 153 [EA c_,iV at_] [] (.bool r) [] :=sp Tryz.func153 rfl<|sq m Cx λ v1 m=>sb m λ v2 hv2 m=>cl (λ q0=>(jl (hv2 q0)))<|sb m λ v3 hv3 m=>cl (λ q0=>(jl (hv3 q0)))<|si m bR λ _ m=>si m (λ _ m=>sn m λ _ m=>sb m λ v4 hv4 m=>cl (λ q0=>(jl (hv4 q0)))<|bD m) λ _ m=>si m (λ _ m=>si m (λ _ m=>sb m λ v5 hv5 m=>cl (λ q0=>(nQ (hv5 q0)))<|bD m) λ _ m=>si m (λ _ m=>sn m λ _ m=>sb m λ v6 hv6 m=>cl (λ q0=>(nQ (hv6 q0)))<|bD m) λ _ m=>si m (λ _ m=>si m (λ _ m=>sb m λ v7 hv7 m=>cl (λ q0=>((zy (hv7 q0)).le ⟨.refl _,(.sl rfl (λ _=>rfl) nofun (fK iV 0 [(0:Int),(1:Int)])),ag7⟩ trivial))<|bD m) λ c7 m=>by
 refine⟨.bool false,[],(λ q0=>absurd q0 (vac c7)),?_⟩;(conv=>whnf);have m:r=(((c_.aS.length:Int)==(1:Int))&&false):=m;subst m;refine⟨[],[],?_⟩;(conv=>whnf);exact⟨⟨rfl,ag7,ag7⟩,rfl⟩) bR) λ _ m=>si m (λ _ m=>sb m λ v8 xk m=>cl (λ q0=>(nQ (xk q0)))<|bD m) λ _ m=>si m (λ _ m=>sn m λ _ m=>sb m λ v9 Kk m=>cl (λ q0=>(nQ (Kk q0)))<|bD m) λ _ m=>si m (λ _ m=>si m (λ _ m=>sb m λ v10 JN m=>cl (λ q0=>((zy (JN q0)).le ⟨.refl _,(.sl rfl (λ _=>rfl) nofun (fK iV 0 [(0:Int),(1:Int)])),ag7⟩ trivial))<|bD m) λ c11 m=>by
 refine⟨.bool false,[],(λ q0=>absurd q0 (vac c11)),?_⟩;(conv=>whnf);have m:r=(((c_.aS.length:Int)==(1:Int))&&false):=m;subst m;refine⟨[],[],?_⟩;(conv=>whnf);exact⟨⟨rfl,ag7,ag7⟩,rfl⟩) bR
def oU {l_:ah3} {r:Int} (m:rX l_ r):S 105 [bA l_] [] (iV r) [] :=ZW [21] Tryz.func105 rfl<|sb m λ v1 hv1 m=>cl (λ q0=>(wY (hv1 q0)))<|si m bR λ _ m=>SG [21] m (λ g1=>⟨[(0,bA l_),(18,bA l_),(19,iV (l_.length:Int)),(20,iV g1)],[],0⟩) [] [] <|λ aj g1 m=>ak5 m (λ m=>ak3 m λ m=>sq m Xp λ v4 m=>si m bR λ _ m=>ak3 m λ m=>le m) λ m=>ak3 m λ m=>SG [21] m (λ g2=>⟨[(5,iV g2.1),(6,adr 0 g2.2.2),(33,bA l_),(34,iV (l_.length:Int)),(35,iV g2.2.1)],[adl 0 1 iV 0 g2.2.2],1⟩) [(0,some 32)] [] <|λ dR g2 m=>aly m (λ m=>SG [21] m (λ g7=>⟨[(5,iV g2.1),(6,adr 0 g7.2),(7,iV g2.2.1),(8,.ptr 1 0 0),(33,bA l_),(34,iV (l_.length:Int)),(35,iV g2.2.1),(41,au ((l_.getD g2.2.1.toNat aL).aS)),(42,iV ((((l_.getD g2.2.1.toNat aL).aS).length:Nat):Int)),(43,iV g7.1)],[adl 0 1 iV 0 g7.2,adn 1 [iV ((l_.getD g2.2.1.toNat aL).gG),au ((l_.getD g2.2.1.toNat aL).aS),au ((l_.getD g2.2.1.toNat aL).aP),iV ((l_.getD g2.2.1.toNat aL).Low),iV ((l_.getD g2.2.1.toNat aL).fV)]],2⟩) [(1,some 33)] [] <|λ nX g7 m=>ak5 m (λ m=>ak4 m λ m=>ak4 m λ m=>ak3 m λ m=>le m) λ m=>ck [21] (vg l_ g2 dR) r (λ g8=>⟨[(5,iV g2.1),(6,adr 0 g8),(7,iV g2.2.1),(8,.ptr 1 0 0),(33,bA l_),(34,iV (l_.length:Int)),(35,iV g2.2.1)],[adl 0 1 iV 0 g8,adn 1 [iV ((l_.getD g2.2.1.toNat aL).gG),au ((l_.getD g2.2.1.toNat aL).aS),au ((l_.getD g2.2.1.toNat aL).aP),iV ((l_.getD g2.2.1.toNat aL).Low),iV ((l_.getD g2.2.1.toNat aL).fV)]],2⟩) (ak5 m (λ m=>ak4 m λ m=>ak3 m λ m=>le m) λ m=>le m) λ g8 m=>ak4 m λ m=>si m bR λ _ m=>ak3 m λ m=>le m) abY
def Rv {s_:aI} (m:rY s_ r):S 155 [u7 s_] [] (.bool r) [] :=sp Tryz.func155 rfl<|bD m
def zX {s_:ahf} {r:Int} (m:uy s_ r):S 205 [bf s_,.fn 155 []] [] (iV r) [] :=sp Tryz.func205 rfl<|l0 m (λ g1=>⟨[(0,bf s_),(1,.fn 155 []),(7,iV (s_.length:Int)),(8,iV g1)],[],0⟩) <|λ aj g1 m=>aly m (λ m=>sq m Rv λ v3 m=>si m bR λ _ m=>ak3 m λ m=>le m) abY
def wZ {s_:ahf} (m:lZ s_ r):S 154 [bf s_,.fn 155 []] [] (.bool r) [] :=sp Tryz.func154 rfl<|sq m zX λ v1 m=>bD m
def iF {n_:Int} {wU:Int} {yT:Int} (m:je n_ wU yT r):S 196 [iV n_,iV wU,iV yT] [] (.bool r) [] :=sp Tryz.func196 rfl<|bD m
def VD {s_:aI} {at_:Int} (m:Du s_ at_ r):S 156 [u7 s_,iV at_] [] (.bool r) [] :=sp Tryz.func156 rfl<|ak3 m λ m=>sq m iF λ v1 m=>sb m λ v2 hv2 m=>cl (λ q0=>(iF (hv2 q0)))<|sb m λ v3 hv3 m=>cl (λ q0=>(iF (hv3 q0)))<|si m bR λ _ m=>l0 m (λ g1=>⟨[(2,.ptr 0 0 0),(42,au s_.bY),(43,iV (s_.bY.length:Int)),(44,iV g1)],[adn 0 [iV s_.aW,au s_.bY,iV s_.gU,iV s_.iP,.bool s_.gF]],1⟩) <|λ aj g1 m=>aly m (λ m=>sq m iF λ v6 m=>ak4 m λ m=>si m bR λ _ m=>ak3 m λ m=>le m) abY
def rM {l_:ahf} {r:Int} (m:pK l_ r):S 106 [bf l_] [] (iV r) [] :=sp Tryz.func106 rfl<|sb m λ v1 hv1 m=>cl (λ q0=>(wZ (hv1 q0)))<|si m bR λ _ m=>l0 m (λ g1=>⟨[(12,bf l_),(13,iV (l_.length:Int)),(14,iV g1)],[],0⟩) <|λ aj g1 m=>aly m (λ m=>sq m VD λ v4 m=>si m bR λ _ m=>ak3 m λ m=>le m) abY
def yM {s_:ByteArray} (m:tJ s_ r):S 146 [.str s_] [] (.bool r) [] :=sp Tryz.func146 rfl<|ak4 m λ m=>si m bR λ _ m=>l0 m (λ g1=>⟨[(0,.str s_),(3,iV g1)],[],0⟩) <|λ aj g1 m=>si m (λ _ m=>ak3 m λ m=>si m bR λ _ m=>ak3 m λ m=>le m) bR
def uY {s_:aiS} {v_:ByteArray} {r:Int} (m:slices_Index_string s_ v_ r):S 50 [gM s_,.str v_] [] (iV r) [] :=sp Tryz.func50 rfl<|l0 m (λ g1=>⟨[(0,gM s_),(1,.str v_),(7,iV (s_.length:Int)),(8,iV g1)],[],0⟩) <|λ aj g1 m=>aly m (λ m=>si m bR λ _ m=>ak3 m λ m=>le m) abY
def rO {s_:aiS} {v_:ByteArray} (m:slices_Contains_string s_ v_ r):S 206 [gM s_,.str v_] [] (.bool r) [] :=sp Tryz.func206 rfl<|sq m uY λ v1 m=>bD m
def Zd {Om:Int} {g_:cu} {r:Int} (m:KD Om g_ r):S 157 [iV Om,lS g_] [] (iV r) [] :=sp Tryz.func157 rfl<|si m bR λ _ m=>si m bR λ _ m=>l0 m (λ g1=>⟨[(0,iV Om),(3,.ptr 0 0 0),(27,au g_.bU),(28,iV (g_.bU.length:Int)),(29,iV g1)],[adn 0 [.str g_.wh,au g_.bU,gM g_.ak]],1⟩) <|λ aj g1 m=>si m (λ _ m=>sn m λ _ m=>si m bR λ _ m=>sn m λ _ m=>le m) λ _ m=>l0 m (λ g2=>⟨[(3,.ptr 0 0 0),(7,iV g2)],[adn 0 [.str g_.wh,au g_.bU,gM g_.ak]],1⟩) <|λ dR g2 m=>si m (λ _ m=>s2 m λ _ _ m=>sn m λ _ m=>si m bR λ _ m=>sn m λ _ m=>le m) λ _ m=>l0 m (λ g3=>⟨[(3,.ptr 0 0 0),(61,gM g_.ak),(62,iV (g_.ak.length:Int)),(63,iV g3)],[adn 0 [.str g_.wh,au g_.bU,gM g_.ak]],1⟩) <|λ jO g3 m=>si m (λ _ m=>sn m λ _ m=>sq m yM λ v3 m=>si m bR λ _ m=>sn m λ _ m=>le m) λ _ m=>l0 m (λ g4=>⟨[(3,.ptr 0 0 0),(72,gM g_.ak),(73,iV (g_.ak.length:Int)),(74,iV g4)],[adn 0 [.str g_.wh,au g_.bU,gM g_.ak]],1⟩) <|λ jA g4 m=>si m (λ _ m=>s2 m λ _ _ m=>sb m λ v6 hv6 m=>cl ((rO hv6).le ⟨(.sl oz (λ _=>rfl) nofun (lC (f:=AV.str) (d:=ByteArray.empty) (by first | omega | exact Nat.min_le_left _ _ | exact Nat.le_trans (Nat.min_le_left _ _) om | (simp;omega)))),.refl _,ag7⟩ trivial)<|si m bR λ _ m=>sn m λ _ m=>le m) bR
variable {p_:bg}
def vH {r:Int} (m:vP p_ r):S 107 [kU p_] [] (iV r) [] :=sp Tryz.func107 rfl<|si m bR λ _ m=>si m bR λ _ m=>lf m (λ g1=>⟨[(1,.ptr 0 0 0),(3,.mref 1),(21,bn p_.av),(22,iV (p_.av.length:Int)),(23,iV g1.1)],[adn 0 [iV p_.bU,bn p_.av],(1,some (.map .str [.bool] g1.2))],2⟩) [(1,some 112)] [] <|λ aj g1 m=>aly m (λ m=>sq m yM λ v5 m=>si m bR λ _ m=>si m bR λ _ m=>sq m Zd λ v6 m=>si m bR λ _ m=>ak3 m λ m=>le m) abY
def zY {l_:ajB} {r:Int} (m:wC l_ r):S 108 [dn l_] [] (iV r) [] :=sp Tryz.func108 rfl<|si m bR λ _ m=>l0 m (λ g1=>⟨[(11,dn l_),(12,iV (l_.length:Int)),(13,iV g1)],[],0⟩) <|λ aj g1 m=>aly m (λ m=>lf m (λ g6=>⟨[(3,iV g1),(4,.ptr 0 0 0),(11,dn l_),(12,iV (l_.length:Int)),(13,iV g1),(19,au ((l_.getD g1.toNat dJ).eG)),(20,iV ((((l_.getD g1.toNat dJ).eG).length:Nat):Int)),(21,iV g6)],[adn 0 [au ((l_.getD g1.toNat dJ).eG)]],1⟩) [(0,some 32)] [] <|λ jR g6 m=>ak5 m (λ m=>ak3 m λ m=>si m bR λ _ m=>ak3 m λ m=>le m) λ m=>l0 m (λ g7=>⟨[(4,.ptr 0 0 0),(7,iV g7),(11,dn l_),(12,iV (l_.length:Int)),(13,iV g1)],[adn 0 [au ((l_.getD g1.toNat dJ).eG)]],1⟩) <|λ nX g7 m=>ak5 m (λ m=>ak4 m λ m=>ak3 m λ m=>si m bR λ _ m=>ak3 m λ m=>le m) λ m=>ak3 m λ m=>le m) abY
def yN {l_:ajk} {r:Int} (m:tK l_ r):S 109 [bX l_] [] (iV r) [] :=sp Tryz.func109 rfl<|si m bR λ _ m=>l0 m (λ g1=>⟨[(8,bX l_),(9,iV (l_.length:Int)),(10,iV g1)],[],0⟩) <|λ aj g1 m=>aly m (λ m=>si m bR λ _ m=>ak3 m λ m=>le m) abY
variable {b_:aM}
def JX {r:Int} (m:Bb b_ r):S 53 [iO b_] [] (iV r) [] :=sp Tryz.func53 rfl<|sq m oU λ v1 m=>si m bR λ _ m=>sq m rM λ v2 m=>si m bR λ _ m=>sq m vH λ v3 m=>si m bR λ _ m=>sq m zY λ v4 m=>si m bR λ _ m=>sq m yN λ v5 m=>bD m
variable {n_:aH}
def Rw {r:ajc} (m:xG n_ r):S 58 [rV n_] [] (fH r) [] :=sp Tryz.func58 rfl<|bD m
variable {l_:aha} {ah:ag8}
def FH {r:ajc} (m:za l_ ah r):S 57 [cO l_,au ah,.fn 58 []] [] (fH r) [] :=sp Tryz.func57 rfl<|lf m (λ g1=>⟨[(0,cO l_),(2,.fn 58 []),(7,adr 0 g1.2),(10,au ah),(11,iV (ah.length:Int)),(12,iV g1.1)],[adl 0 3 rU dM g1.2],1⟩) [(0,none)] [] <|λ aj g1 m=>si m (λ _ m=>sn m λ _ m=>si m (λ _ m=>sn m λ _ m=>sq m Rw λ v3 m=>s2 m λ _ _ m=>lc [(0,some 153)] [] m) λ _ m=>sn m λ _ m=>le m) λ _ m=>by cases m;exact rt [0] []
def Hf {r:ajc} (m:KE l_ ah r):S 21 [cO l_,au ah] [] (fH r) [] :=sp Tryz.func21 rfl<|sq m FH λ v1 m=>bD m
def Ub {r:ai8} (m:Am n_ r):S 60 [rV n_] [] (fJ r) [] :=sp Tryz.func60 rfl<|bD m
def F5 {r:ai8} (m:Bc l_ ah r):S 59 [cO l_,au ah,.fn 60 []] [] (fJ r) [] :=sp Tryz.func59 rfl<|lf m (λ g1=>⟨[(0,cO l_),(2,.fn 60 []),(7,adr 0 g1.2),(10,au ah),(11,iV (ah.length:Int)),(12,iV g1.1)],[adl 0 4 A9 dV g1.2],1⟩) [(0,none)] [] <|λ aj g1 m=>si m (λ _ m=>sn m λ _ m=>si m (λ _ m=>sn m λ _ m=>sq m Ub λ v3 m=>s2 m λ _ _ m=>lc [(0,some 153)] [] m) λ _ m=>sn m λ _ m=>le m) λ _ m=>by cases m;exact rt [0] []
def JY {r:ai8} (m:Ot l_ ah r):S 23 [cO l_,au ah] [] (fJ r) [] :=sp Tryz.func23 rfl<|sq m F5 λ v1 m=>bD m
def Lg {r:aiS} (m:xH n_ r):S 134 [rV n_] [] (gM r) [] :=sp Tryz.func134 rfl<|bD m
def Iq {r:aiS} (m:CO l_ ah r):S 133 [cO l_,au ah,.fn 134 []] [] (gM r) [] :=sp Tryz.func133 rfl<|lf m (λ g1=>⟨[(0,cO l_),(2,.fn 134 []),(7,adr 0 g1.2),(10,au ah),(11,iV (ah.length:Int)),(12,iV g1.1)],[adl 0 1 AV.str ByteArray.empty g1.2],1⟩) [(0,none)] [] <|λ aj g1 m=>si m (λ _ m=>sn m λ _ m=>si m (λ _ m=>sn m λ _ m=>sq m Lg λ v3 m=>s2 m λ _ _ m=>lc [(0,some 153)] [] m) λ _ m=>sn m λ _ m=>le m) λ _ m=>by cases m;exact rt [0] []
def Qf {r:aiS} (m:LD l_ ah r):S 89 [cO l_,au ah] [] (gM r) [] :=sp Tryz.func89 rfl<|sq m Iq λ v1 m=>bD m
def Rx {x_:bP} {qw:ah3} (m:rZ x_ qw r):S 223 [rU x_,.ro [bA qw]] [] (.bool r) [] :=sp Tryz.func223 rfl<|ak3 m λ m=>sq m jl λ v1 m=>sb m λ v2 hv2 m=>cl (λ q0=>(jl (hv2 q0)))<|sb m λ v3 hv3 m=>cl (λ q0=>(jl (hv3 q0)))<|bD m
def zZ {s_:ajc} {f_:ah3} {r:Int} (m:uz s_ f_ r):S 241 [fH s_,.fn 223 [.ro [bA f_]]] [] (iV r) [] :=sp Tryz.func241 rfl<|l0 m (λ g1=>⟨[(0,fH s_),(1,.fn 223 [.ro [bA f_]]),(7,iV (s_.length:Int)),(8,iV g1)],[],0⟩) <|λ aj g1 m=>aly m (λ m=>sq m Rx λ v3 m=>si m bR λ _ m=>ak3 m λ m=>le m) abY
def w9 {s_:ajc} {f_:ah3} (m:l5 s_ f_ r):S 222 [fH s_,.fn 223 [.ro [bA f_]]] [] (.bool r) [] :=sp Tryz.func222 rfl<|sq m zZ λ v1 m=>bD m
variable {m_:ajc}
def Hg {l_:ah3} (m:xI l_ m_ r):S 184 [bA l_,fH m_] [] (.bool r) [] :=sp Tryz.func184 rfl<|sq m oU λ v1 m=>sb m λ v2 hv2 m=>cl (λ q0=>(w9 (hv2 q0)))<|bD m
def VE {l_:ah3} {r:Int} (m:Dv l_ m_ r):S 135 [bA l_,fH m_] [] (iV r) [] :=sp Tryz.func135 rfl<|sq m oU λ v1 m=>si m bR λ _ m=>sq m Hg λ v2 m=>si m bR bR
def Ze {l_:ah3} {r:akV} (m:KG l_ m_ r):S 185 [bA l_,fH m_] [] (I5 r) [] :=sp Tryz.func185 rfl<|lf m (λ g1=>⟨[(0,bA l_),(1,fH m_),(5,adr 0 g1.2),(10,fH m_),(11,iV (m_.length:Int)),(12,iV g1.1)],[adl 0 5 ZA xB g1.2],1⟩) [(0,none)] [] <|λ aj g1 m=>si m (λ _ m=>s2 m λ _ _ m=>sn m λ _ m=>lc [(0,some 137)] [] m) λ _ m=>l0 m (λ g2=>⟨[(1,fH m_),(5,adr 0 g2.2),(29,bA l_),(30,iV (l_.length:Int)),(31,iV g2.1)],[adl 0 5 ZA xB g2.2],1⟩) <|λ dR g2 m=>si m (λ _ m=>sn m λ _ m=>si m (λ _ m=>s2 m λ _ _ m=>sn m λ _ m=>lc [(0,some 177)] [] m) λ _ m=>sn m λ _ m=>le m) λ _ m=>by cases m;exact rt [0] []
def vY {l_:ah3} (m:qN l_ s_ r):S 224 [bA l_,au s_] [] (.bool r) [] :=sp Tryz.func224 rfl<|si m bR λ _ m=>l0 m (λ g1=>⟨[(0,bA l_),(12,au s_),(13,iV (s_.length:Int)),(14,iV g1)],[],0⟩) <|λ aj g1 m=>al3 m (λ m=>ak3 m λ m=>sq m jl λ v3 m=>si m bR λ _ m=>ak3 m λ m=>le m) abY
def Hl {l_:ah3} {jP:Int} {r:Int} (m:xJ l_ s_ jP r):S 242 [bA l_,au s_,iV jP] [] (iV r) [] :=sp Tryz.func242 rfl<|ak3 m λ m=>si m bR λ _ m=>ak5 m (λ m=>ak4 m λ m=>sn m bR) λ m=>sn m bR
def ug {a_:Int} {b_:Int} {r:Int} (m:r9 a_ b_ r):S 253 [iV a_,iV b_] [] (iV r) [] :=sp Tryz.func253 rfl<|l0 m (λ g1=>⟨[(0,iV g1.1),(1,iV g1.2)],[],0⟩) <|λ aj g1 m=>si m (λ _ m=>ak3 m λ m=>le m) bR
variable {r_:bQ}
def vI (m:vQ r_ r):S 245 [qC r_] [] (.bool r) [] :=sp Tryz.func245 rfl<|sb m λ v1 hv1 m=>cl (λ q0=>(ug (hv1 q0)))<|bD m
def Xq {Rh:Int} {aaO:Int} {qw:Int} {r:Int×Int} (m:Gg Rh aaO qw r):S 252 [.ro [iV Rh,iV aaO],.ro [iV qw]] [] (.kP [iV r.1,iV r.2]) [] :=sp Tryz.func252 rfl<|sq m ug λ v1 m=>ak4 m λ m=>sn m bR
def SH {xK:Int} {xL:Int} {r:bQ×Int} (m:Ov xK xL r):S 256 [iV xK,iV xL] [] (.kP [qC r.1,iV r.2]) [] :=sp Tryz.func256 rfl<|si m bR λ _ m=>sq m ug λ v1 m=>ak4 m λ m=>sq m vI λ v2 m=>si m bR bR
variable {k_:Int}
def Xr {pO:Int} {pQ:Int} {pR:Int} {r:bQ×Int} (m:Gh r_ k_ pO pQ pR r):S 251 [qC r_,iV k_,.fn 252 [.ro [iV pO,iV pQ],.ro [iV pR]]] [] (.kP [qC r.1,iV r.2]) [] :=sp Tryz.func251 rfl<|sq m vI λ v1 m=>si m bR λ _ m=>si m bR λ _ m=>sq m Xq λ v2 m=>sq m SH λ v3 m=>bD m
def Qg {r:bQ×Int} (m:I9 r_ k_ r):S 243 [qC r_,iV k_] [] (.kP [qC r.1,iV r.2]) [] :=sp Tryz.func243 rfl<|sq m Xr λ v1 m=>bD m
def VF {iX:Int} {Ca:Int} {vR:Int} {r:Int×Int} (m:Dw iX Ca vR r):S 254 [.ro [iV iX],.ro [iV Ca,iV vR]] [] (.kP [iV r.1,iV r.2]) [] :=sp Tryz.func254 rfl<|sq m ug λ v1 m=>ak4 m λ m=>si m bR λ _ m=>ak4 m λ m=>sn m bR
def Ry {pO:Int} {pQ:Int} {pR:Int} {r:bQ×Int} (m:xM r_ k_ pO pQ pR r):S 251 [qC r_,iV k_,.fn 254 [.ro [iV pO],.ro [iV pQ,iV pR]]] [] (.kP [qC r.1,iV r.2]) [] :=sp Tryz.func251 rfl<|sq m vI λ v1 m=>si m bR λ _ m=>si m bR λ _ m=>sq m VF λ v2 m=>sq m SH λ v3 m=>bD m
def Na {r:bQ×Int} (m:EC r_ k_ r):S 244 [qC r_,iV k_] [] (.kP [qC r.1,iV r.2]) [] :=sp Tryz.func244 rfl<|sq m Ry λ v1 m=>bD m
variable {dN:ag8}
def Xt {l_:ah3} {r:ajm} (m:Gi l_ dN r):S 225 [bA l_,adr 0 dN] [.row 1 dN.length (bT iV 0 dN)] (rW r) [.row 1 dN.length (bT iV 0 dN)] :=sp Tryz.func225 rfl<|sn m λ _ m=>lf m (λ g1=>⟨[(0,bA l_),(1,adr 0 dN),(5,adr 1 g1.2),(13,bA l_),(14,iV (l_.length:Int)),(15,iV g1.1)],[adl 0 1 iV 0 dN,adl 1 2 qC dZ g1.2],2⟩) [(1,some 25)] [] <|λ aj g1 m=>si m (λ _ m=>s2 m λ _ _ m=>sn m λ _ m=>sq m Hl λ v7 m=>si m (λ _ m=>s2 m λ _ _ m=>le m) λ _ m=>sn m λ _ m=>si m (λ _ m=>s2 m λ _ _ m=>le m) λ _ m=>si m (λ _ m=>sn m λ _ m=>sq m Qg λ v8 m=>s2 m λ _ _ m=>le m) λ _ m=>si m (λ _ m=>sn m λ _ m=>sq m Na λ v9 m=>s2 m λ _ _ m=>le m) λ _ m=>s2 m λ _ _ m=>sn m λ _ m=>le m) λ _ m=>by cases m;exact rt [1] []
def Xu {l_:ah3} {r:ajm×Int} (m:Gj l_ dN r):S 186 [bA l_,adr 0 dN] [.row 1 dN.length (bT iV 0 dN)] (.kP [rW r.1,iV r.2]) [.row 1 dN.length (bT iV 0 dN)] :=sp Tryz.func186 rfl<|sq m oU λ v1 m=>si m bR λ _ m=>sq m vY λ v2 m=>si m bR λ _ m=>sq m Xt λ v3 m=>bD m
def z8 {Dx:Int} {oK:Int} (m:wD r_ Dx oK r):S 226 [qC r_,iV Dx,iV oK] [] (.bool r) [] :=sp Tryz.func226 rfl<|sq m vI λ v1 m=>si m bR λ _ m=>ak4 m λ m=>bD m
def F6 {b_:jY} (m:nJ b_ r_ r):S 187 [ZA b_,qC r_] [] (.bool r) [] :=sp Tryz.func187 rfl<|si m bR λ _ m=>sq m z8 λ v1 m=>bD m
def Nz {r:ag8} (m:slices_Clone_int dN r):S 47 [adr 0 dN] [.row 1 dN.length (bT iV 0 dN)] (adr 1 r) [.row 1 dN.length (bT iV 0 dN),.row 1 r.length (bT iV 0 r)] :=by
 obtain⟨h1,m⟩:=m;have m:r=dN:=m;subst m;refine nT (ct:=[1]) jh Tryz.func47 rfl rfl (Nat.le_of_ble_eq_true rfl) dk (Nat.le_of_ble_eq_true rfl) ?_;(conv=>whnf);refine Tf (ct:=[]) jh (jh.slice (t:=22) (e:=3) rfl rfl rfl).1 dk dk dk dk dk [(2,acN),(0,adr 0 r)] [adl 0 1 iV 0 r] 9 rfl rfl ?_ (λ hn=>?_) ?_
 ·exact rfl
 ·(conv=>whnf);have hn:r.length=0:=hn;refine⟨[],[(1,none)],?_⟩;(conv=>whnf);exact⟨⟨rfl,ag7,⟨⟨rfl,rfl,λ _ _=>.refl _⟩,hn,ag7⟩⟩,⟨rfl,rfl,rfl,rfl,rfl,hn⟩⟩
 (conv=>whnf);refine⟨by rw[Nat.zero_add];exact h1,?_⟩;(conv=>whnf);refine⟨[],[(1,some 25)],?_⟩;(conv=>whnf);exact⟨⟨rfl,ag7,⟨⟨rfl,rfl,λ _ _=>.refl _⟩,⟨rfl,Nat.zero_add _,iN (l:=[]) rfl (λ _ h=>absurd h (Nat.not_lt_zero _)) rfl am2⟩,ag7⟩⟩,⟨rfl,rfl,rfl,Nat.zero_add _,nofun⟩⟩
def Rz {ZB:Int} {o1_:ag8} {o2_:Bool} {r:Bool×ag8×Bool} (m:xO ZB dN o1_ o2_ r):S 137 [adr 0 dN,.int .u64 ZB,.ptr 1 0 0,.ptr 2 0 0] [.row 1 dN.length (bT iV 0 dN),.box [au o1_],.box [.bool o2_]] (.bool r.1) [.row 1 dN.length (bT iV 0 dN),.box [au r.2.1],.box [.bool r.2.2]] :=sp Tryz.func137 rfl<|si m (λ _ m=>sq m Nz λ v1 m=>by cases m;exact rt [35] []) bR
def VG {l_:ah3} {o1_:Bool} {r:ag8×Bool} (m:Dy l_ m_ dN o1_ r):S 136 [bA l_,fH m_,.fn 137 [.ptr 0 0 0,.ptr 1 0 0]] [.box [au dN],.box [.bool o1_]] (.kP []) [.box [au r.1],.box [.bool r.2]] :=ZW [14] Tryz.func136 rfl<|sq m Ze λ v1 m=>ak3 m λ m=>SG [14] m (λ g1=>⟨[(0,bA l_),(2,.fn 137 [.ptr 0 0 0,.ptr 1 0 0]),(6,I5 v1),(7,adr 2 g1.2.2)],[adn 0 [au g1.1],adn 1 [.bool g1.2.1],adl 2 1 iV 0 g1.2.2],3⟩) [(2,some 50)] [] <|λ aj g1 m=>sq m Xu λ v12 m=>SG [14] m (λ g10=>⟨[(0,bA l_),(2,.fn 137 [.ptr 0 0 0,.ptr 1 0 0]),(6,I5 v1),(7,adr 2 g1.2.2),(8,rW v12.1),(10,.int .u64 g10.1),(26,I5 v1),(27,iV (v1.length:Int)),(28,iV g10.2)],[adn 0 [au g1.1],adn 1 [.bool g1.2.1],adl 2 1 iV 0 g1.2.2],3⟩) [] [] <|λ aea g10 m=>ak5 m (λ m=>ak4 m λ m=>sq m F6 λ v15 m=>ak5 m (λ m=>ak4 m λ m=>le m) λ m=>ak3 m λ m=>le m) λ m=>sq m Rz λ v16 m=>si m bR λ _ m=>ak3 m λ m=>ck [14] (zI g1 aj v16) r (λ g12=>⟨[(0,bA l_),(2,.fn 137 [.ptr 0 0 0,.ptr 1 0 0]),(6,I5 v1),(7,adr 2 g1.2.2),(13,iV g12)],[adn 0 [au v16.2.1],adn 1 [.bool v16.2.2],adl 2 1 iV 0 g1.2.2],3⟩) (SG [14] m (λ g13=>⟨[(0,bA l_),(2,.fn 137 [.ptr 0 0 0,.ptr 1 0 0]),(6,I5 v1),(7,adr 2 g1.2.2),(13,iV g13)],[adn 0 [au v16.2.1],adn 1 [.bool v16.2.2],adl 2 1 iV 0 g1.2.2],3⟩) [] [] <|λ ah4 g13 m=>ak4 m λ m=>ak3 m λ m=>ak5 m (λ m=>ak3 m λ m=>le m) λ m=>le m) λ g12 m=>si m bR λ _ m=>ak4 m λ m=>ak4 m λ m=>ak3 m λ m=>lce [] [] m ⟨rfl,⟨sr,⟨rfl,r4,r4,ag7⟩,sr,⟨rfl,rfl,rfl,oz,nofun⟩,ag7⟩,⟨⟨sf,ag7⟩,⟨rfl,ag7⟩,⟨rfl,oz,(ad8 oz (lQ am2 rfl (.refl _)) oz (UL iV 0))⟩,ag7⟩⟩
def VH {l_:ah3} {r:ag8×Int} (m:Dz l_ m_ r):S 90 [bA l_,fH m_] [] (.kP [au r.1,iV r.2]) [] :=sp Tryz.func90 rfl<|sq m VE λ v1 m=>si m bR λ _ m=>sb m λ v2 hv2 m=>cl ((VG hv2).le ⟨.refl _,.refl _,.refl _,ag7⟩ ⟨⟨abZ,ag7⟩,jv _,ag7⟩)<|si m bR bR
def RA {x_:bO} {qw:ahf} (m:sj x_ qw r):S 227 [A9 x_,.ro [bf qw]] [] (.bool r) [] :=sp Tryz.func227 rfl<|ak3 m λ m=>sq m iF λ v1 m=>sb m λ v2 hv2 m=>cl (λ q0=>(iF (hv2 q0)))<|sb m λ v3 hv3 m=>cl (λ q0=>(iF (hv3 q0)))<|sb m λ v4 hv4 m=>cl (λ q0=>(iF (hv4 q0)))<|bD m
def BK {s_:ai8} {f_:ahf} {r:Int} (m:uP s_ f_ r):S 231 [fJ s_,.fn 227 [.ro [bf f_]]] [] (iV r) [] :=sp Tryz.func231 rfl<|l0 m (λ g1=>⟨[(0,fJ s_),(1,.fn 227 [.ro [bf f_]]),(7,iV (s_.length:Int)),(8,iV g1)],[],0⟩) <|λ aj g1 m=>aly m (λ m=>sq m RA λ v3 m=>si m bR λ _ m=>ak3 m λ m=>le m) abY
def yO {s_:ai8} {f_:ahf} (m:mq s_ f_ r):S 194 [fJ s_,.fn 227 [.ro [bf f_]]] [] (.bool r) [] :=sp Tryz.func194 rfl<|sq m BK λ v1 m=>bD m
variable {d_:ai8}
def Ho {l_:ahf} (m:xP l_ d_ r):S 188 [bf l_,fJ d_] [] (.bool r) [] :=sp Tryz.func188 rfl<|sq m rM λ v1 m=>sb m λ v2 hv2 m=>cl (λ q0=>(yO (hv2 q0)))<|bD m
def VI {l_:ahf} {r:Int} (m:KH l_ d_ r):S 138 [bf l_,fJ d_] [] (iV r) [] :=sp Tryz.func138 rfl<|sq m rM λ v1 m=>si m bR λ _ m=>sq m Ho λ v2 m=>si m bR bR
variable {x_:Int}
def Qh {y_:Int} {r:Int×Int} (m:LJ x_ y_ r):S 247 [.int .u64 x_,.int .u64 y_] [] (.kP [.int .u64 r.1,.int .u64 r.2]) [] :=sp Tryz.func247 rfl<|ak4 m λ m=>ak4 m λ m=>sn m bR
def Uc {y_:Int} {r:Int×Int} (m:Ao x_ y_ r):S 228 [.int .u64 x_,.int .u64 y_] [] (.kP [.int .u64 r.1,.int .u64 r.2]) [] :=sp Tryz.func228 rfl<|sq m Qh λ v1 m=>bD m
def Eh {x_:akO} {KI:Int} {r:akO} (m:mD x_ KI r):S 189 [UN x_,iV KI] [] (adr 0 r) [.row 3 r.length (bT Ak jZ r)] :=ZW [3,6] Tryz.func189 rfl<|ck [3,6] (ny x_ KI) r (λ g1=>⟨[(0,UN x_),(1,iV KI)],[],0⟩) (by
 have c7:=m.1;have m:=m.2;refine UK (λ q=>Bool.noConfusion (c7.symm.trans q)) (λ _=>?_);(conv=>whnf);exact⟨(),[],[],m,⟨rfl,⟨sr,r2,ag7⟩,ag7⟩⟩) λ g1 m=>sq m Uc λ v1 m=>ck [3,6] (nu x_ v1) r (λ g2=>⟨[(0,UN x_),(6,.int .u64 v1.2)],[],0⟩) (by
 have c6:=m.1;have m:=m.2;refine UK (λ q=>Bool.noConfusion (c6.symm.trans q)) (λ _=>?_);(conv=>whnf);exact⟨(),[],[],m,⟨rfl,⟨sr,r2,ag7⟩,ag7⟩⟩) λ g2 m=>sn m λ _ m=>lfe [3,6] m (λ g3=>⟨[(7,adr 0 g3.2),(8,iV g3.1)],[adl 0 3 Ak jZ g3.2],1⟩) [(0,some 16)] [] ⟨rfl,⟨⟨rfl,rfl,rfl,oz,nofun⟩,r2,ag7⟩,⟨⟨rfl,oz,(ad8 oz (UL Ak jZ) oz (lC (f:=Ak) (d:=jZ) (by first | omega | exact Nat.min_le_left _ _ | exact Nat.le_trans (Nat.min_le_left _ _) om | (simp;omega))))⟩,ag7⟩⟩ <|λ jO g3 m=>si m (λ _ m=>s2 m λ _ _ m=>sn m λ _ m=>lce [] [] m ⟨rfl,⟨⟨rfl,rfl,rfl,oz,nofun⟩,r2,ag7⟩,⟨⟨rfl,oz,(ad8 rfl am2 oz (lC (f:=Ak) (d:=jZ) (by first | omega | exact Nat.min_le_left _ _ | exact Nat.le_trans (Nat.min_le_left _ _) om | (simp;omega))))⟩,ag7⟩⟩) bR
def lJ {s_:ahf} {r:ahf} (m:jf s_ r):S 190 [bf s_] [] (.fn 229 [.ro [bf r]]) [] :=by
 have m:r=s_:=m;subst m;exact acL r
def Aa {l_:ahf} {r:ag9} (m:wE l_ d_ r):S 140 [bf l_,fJ d_] [] (aQ r) [] :=ZW [11] Tryz.func140 rfl<|sn m λ _ m=>SG [11] m (λ g1=>⟨[(0,bf l_),(5,.ptr 0 0 0),(13,fJ d_),(14,iV (d_.length:Int)),(15,iV g1.1)],[adn 0 [adr 1 g1.2],adl 1 1 AV.bool false g1.2],2⟩) [(0,some 32),(1,some 24)] [] <|λ aj g1 m=>si m (λ _ m=>s2 m λ _ _ m=>sn m λ _ m=>le m) λ _ m=>sq m lJ λ v1 m=>by
 have h11:=m.1;have m:=m.2;refine WK (ct:=[11]) (ct':=[11]) jh dk dk dk dk (Xn v1 h11) rfl (by intro v hv;simp at hv;exact⟨_,hv⟩) m (λ g2=>⟨[(5,.ptr 0 0 0),(25,.fn 229 [.ro [bf v1]])],[adn 0 [adr 1 g2],adl 1 1 AV.bool false g2],2⟩) (λ k2 g2=>⟨[(5,.ptr 0 0 0),(8,iV ((v1.length - 1 - k2:Nat):Int)),(9,.ptr 2 0 0)],[adn 0 [adr 1 g2],adl 1 1 AV.bool false g2,adn 2 [iV ((v1.getD (v1.length - 1 - k2) aD).aW),au ((v1.getD (v1.length - 1 - k2) aD).bY),iV ((v1.getD (v1.length - 1 - k2) aD).gU),iV ((v1.getD (v1.length - 1 - k2) aD).iP),.bool ((v1.getD (v1.length - 1 - k2) aD).gF)]],3⟩) (λ _ _=>r2) [] ⟨rfl,⟨r4,⟨rfl,SN.refl _,ag7⟩,ag7⟩,⟨⟨aaI,ag7⟩,abX,ag7⟩⟩ ?_ ?_ ?_
 ·intro k2 ll g2 hk;refine⟨Nat.le_of_ble_eq_true rfl,?_⟩;(conv=>whnf);exact⟨[(2,some 10)],⟨rfl,⟨r4,r2,r4,ag7⟩,⟨⟨aaI,ag7⟩,abX,⟨r2,sr,r2,r2,rfl,ag7⟩,ag7⟩⟩⟩
 ·intro k2 ll dR g2 hk m;(conv=>whnf);refine aaH (ct:=[11]) jh dk dk (Cb v1 dR k2) r (λ g5=>⟨[(5,.ptr 0 0 0),(8,iV ((v1.length - 1 - k2:Nat):Int)),(9,.ptr 2 0 0)],[adn 0 [adr 1 g5],adl 1 1 AV.bool false g5,adn 2 [iV ((v1.getD (v1.length - 1 - k2) aD).aW),au ((v1.getD (v1.length - 1 - k2) aD).bY),iV ((v1.getD (v1.length - 1 - k2) aD).gU),iV ((v1.getD (v1.length - 1 - k2) aD).iP),.bool ((v1.getD (v1.length - 1 - k2) aD).gF)]],3⟩) ?_ (λ g5 m=>?_)
  ·refine sn m λ h28 m=>sn m λ h29 m=>?_;(conv=>whnf);exact⟨(g2.set (((v1.length - 1 - k2:Nat):Int).toNat) ((g2.getD (((v1.length - 1 - k2:Nat):Int).toNat) false)||(v1.getD (v1.length - 1 - k2) aD).gF)),[],[],m,⟨rfl,⟨r4,r2,r4,ag7⟩,⟨⟨⟨rfl,rfl,rfl,oz,nofun⟩,ag7⟩,⟨rfl,oz,(lQ am2 rfl (.refl _))⟩,⟨r2,sr,r2,r2,rfl,ag7⟩,ag7⟩⟩⟩
  refine sn m λ h26 m=>si m (λ c6 m=>?_) (λ c6 m=>?_)
  ·refine sn m λ h27 m=>?_;(conv=>whnf);exact⟨(g5.set (((v1.getD (v1.length - 1 - k2) aD).aW).toNat) true),[],m,⟨rfl,⟨r4,⟨rfl,SN.refl _,ag7⟩,ag7⟩,⟨⟨⟨rfl,rfl,rfl,oz,nofun⟩,ag7⟩,⟨rfl,oz,(lQ am2 rfl (.refl _))⟩,ag7⟩⟩⟩
  (conv=>whnf);exact⟨g5,[],m,⟨rfl,⟨r4,⟨rfl,SN.refl _,ag7⟩,ag7⟩,⟨⟨aaI,ag7⟩,abX,ag7⟩⟩⟩
 intro g2 m;(conv=>whnf);have m:r=g2:=m;subst m;refine⟨[1],[],?_⟩;(conv=>whnf);exact⟨⟨rfl,ag7,ag7⟩,sf⟩
def FI (m:cmp_isNaN_int x_ r):S 255 [iV x_] [] (.bool r) [] :=sp Tryz.func255 rfl<|bD m
def VJ {y_:Int} (m:cmp_Less_int x_ y_ r):S 248 [iV x_,iV y_] [] (.bool r) [] :=sp Tryz.func248 rfl<|sq m FI λ v1 m=>sb m λ v2 hv2 m=>cl (λ q0=>(FI (hv2 q0)))<|bD m
def zA (m:zJ x_ r):S 249 [iV x_] [] (.bool r) [] :=sp Tryz.func249 rfl<|bD m
def Cy {x_:ag8} {nZ:Int} {r:Int×Bool} (m:slices_BinarySearch_int x_ nZ r):S 230 [au x_,iV nZ] [] (.kP [iV r.1,.bool r.2]) [] :=ZW [8] Tryz.func230 rfl<|ck [8] (mK x_ nZ) r (λ g2=>⟨[(0,au x_),(1,iV nZ),(6,iV (x_.length:Int)),(7,iV g2)],[],0⟩) (SG [8] m (λ g3=>⟨[(0,au x_),(1,iV nZ),(6,iV (x_.length:Int)),(7,iV g3.1),(8,iV g3.2)],[],0⟩) [] [] <|λ jO g3 m=>ak5 m (λ m=>ak4 m λ m=>ak3 m λ m=>sq m VJ λ v8 m=>ak5 m (λ m=>ak3 m λ m=>le m) λ m=>le m) λ m=>le m) λ g2 m=>ak4 m λ m=>sb m λ v4 hv4 m=>cl (λ q0 q1=>(zA (hv4 q0 q1)))<|sb m λ v5 hv5 m=>cl (λ q0 q1 q2=>(zA (hv5 q0 q1 q2)))<|bD m
def VK {s_:aI} {UO:Int} {r:Int×Bool} (m:KJ s_ UO r):S 191 [u7 s_,iV UO] [] (.kP [iV r.1,.bool r.2]) [] :=sp Tryz.func191 rfl<|sq m Cy λ v1 m=>bD m
def RB {l_:ahf} {r:akO×ag8×Int} (m:xQ l_ d_ r):S 139 [bf l_,fJ d_] [] (.kP [UN r.1,au r.2.1,iV r.2.2]) [] :=sp Tryz.func139 rfl<|sb m λ v1 hv1 m=>cl ((Eh hv1).le ⟨(.sl rfl (λ _=>rfl) nofun (fK Ak jZ [(⟨(0:Int),(-1:Int),(-1:Int)⟩:gX)])),.refl _,ag7⟩ trivial)<|sn m λ _ m=>lf m (λ g1=>⟨[(0,bf l_),(1,fJ d_),(4,.ptr 0 0 0),(5,.ptr 1 0 0),(6,.ptr 2 0 0),(23,fJ d_),(24,iV (d_.length:Int)),(25,iV g1.1)],[adn 0 [adr 3 g1.2.1],adn 1 [adr 4 g1.2.2],adn 2 [iV (0:Int)],adl 3 3 Ak jZ g1.2.1,adl 4 1 iV 0 g1.2.2],5⟩) [(1,some 8),(2,some 16),(3,some 56),(4,some 80)] [] <|λ aj g1 m=>si m (λ _ m=>s2 m λ _ _ m=>si m (λ _ m=>s2 m λ _ _ m=>le m) λ _ m=>sn m λ _ m=>le m) λ _ m=>sq m Aa λ v2 m=>sq m lJ λ v3 m=>by
 have h17:=m.1;have m:=m.2;refine WK (ct:=[]) (ct':=[]) jh dk dk dk dk (Xn v3 h17) rfl (by intro v hv;simp at hv;exact⟨_,hv⟩) m (λ g2=>⟨[(4,.ptr 0 0 0),(5,.ptr 1 0 0),(6,.ptr 2 0 0),(9,.ptr 3 0 0),(52,.fn 229 [.ro [bf v3]])],[adn 0 [adr 4 g2.1],adn 1 [adr 5 g2.2],adn 2 [iV (0:Int)],adn 3 [aQ v2],adl 4 3 Ak jZ g2.1,adl 5 1 iV 0 g2.2],6⟩) (λ k2 g2=>⟨[(4,.ptr 0 0 0),(5,.ptr 1 0 0),(6,.ptr 2 0 0),(9,.ptr 3 0 0),(10,iV ((v3.length - 1 - k2:Nat):Int)),(11,.ptr 6 0 0)],[adn 0 [adr 4 g2.1],adn 1 [adr 5 g2.2],adn 2 [iV (0:Int)],adn 3 [aQ v2],adl 4 3 Ak jZ g2.1,adl 5 1 iV 0 g2.2,adn 6 [iV ((v3.getD (v3.length - 1 - k2) aD).aW),au ((v3.getD (v3.length - 1 - k2) aD).bY),iV ((v3.getD (v3.length - 1 - k2) aD).gU),iV ((v3.getD (v3.length - 1 - k2) aD).iP),.bool ((v3.getD (v3.length - 1 - k2) aD).gF)]],7⟩) (λ _ _=>r2) [(3,some 37),(4,some 3),(5,some 4)] ⟨rfl,⟨r4,r4,r4,r4,⟨rfl,SN.refl _,ag7⟩,ag7⟩,⟨⟨aaI,ag7⟩,⟨aaI,ag7⟩,⟨r2,ag7⟩,⟨sr,ag7⟩,abX,abX,ag7⟩⟩ ?_ ?_ ?_
 ·intro k2 ll g2 hk;refine⟨Nat.le_of_ble_eq_true rfl,?_⟩;(conv=>whnf);exact⟨[(6,some 14)],⟨rfl,⟨r4,r4,r4,r4,r2,r4,ag7⟩,⟨⟨aaI,ag7⟩,⟨aaI,ag7⟩,⟨r2,ag7⟩,⟨sr,ag7⟩,abX,abX,⟨r2,sr,r2,r2,rfl,ag7⟩,ag7⟩⟩⟩
 ·intro k2 ll dR g2 hk m;refine sn m λ h32 m=>si m (λ c13 m=>?_) (λ c13 m=>?_)
  ·(conv=>whnf);exact⟨(g2.1,g2.2),[],m,⟨rfl,⟨r4,r4,r4,r4,⟨rfl,SN.refl _,ag7⟩,ag7⟩,⟨⟨aaI,ag7⟩,⟨aaI,ag7⟩,⟨r2,ag7⟩,⟨sr,ag7⟩,abX,abX,ag7⟩⟩⟩
  refine sn m λ h33 m=>sb m λ v6 hv6 m=>cl (VK hv6)<|?_;refine si m (λ c14 m=>?_) (λ c14 m=>?_)
  ·(conv=>whnf);have m:r=(g2.1,g2.2,((v3.length - 1 - k2:Nat):Int)):=m;subst m;refine⟨[4,5],[],?_⟩;(conv=>whnf);exact⟨⟨rfl,ag7,ag7⟩,(aal aag (aal aag (aal (by first | ((conv=>whnf);exact r2) | exact r2) trivial)))⟩
  refine sn m λ h34 m=>sn m λ h35 m=>sn m λ h36 m=>sn m λ h37 m=>si m (λ c15 m=>?_) (λ c15 m=>?_)
  ·refine sn m λ h38 m=>?_;(conv=>whnf);exact⟨((g2.1.set (((v3.getD (v3.length - 1 - k2) aD).aW).toNat) (⟨((((v3.getD (v3.length - 1 - k2) aD).bY).getD v6.1.toNat 0)+(v3.getD (v3.length - 1 - k2) aD).gU),(-1:Int),((v3.length - 1 - k2:Nat):Int)⟩:gX)),(g2.2.set (((v3.length - 1 - k2:Nat):Int).toNat) v6.1)),[],m,⟨rfl,⟨r4,r4,r4,r4,⟨rfl,SN.refl _,ag7⟩,ag7⟩,⟨⟨⟨rfl,rfl,rfl,oz,nofun⟩,ag7⟩,⟨⟨rfl,rfl,rfl,oz,nofun⟩,ag7⟩,⟨r2,ag7⟩,⟨sr,ag7⟩,⟨rfl,oz,(lQ am2 rfl (.refl _))⟩,⟨rfl,oz,(lQ am2 rfl (.refl _))⟩,ag7⟩⟩⟩
  (conv=>whnf);exact⟨(g2.1,(g2.2.set (((v3.length - 1 - k2:Nat):Int).toNat) v6.1)),[],m,⟨rfl,⟨r4,r4,r4,r4,⟨rfl,SN.refl _,ag7⟩,ag7⟩,⟨⟨aaI,ag7⟩,⟨⟨rfl,rfl,rfl,oz,nofun⟩,ag7⟩,⟨r2,ag7⟩,⟨sr,ag7⟩,abX,⟨rfl,oz,(lQ am2 rfl (.refl _))⟩,ag7⟩⟩⟩
 intro g2 m;(conv=>whnf);have m:r=(g2.1,g2.2,(-1:Int)):=m;subst m;refine⟨[4,5],[],?_⟩;(conv=>whnf);exact⟨⟨rfl,ag7,ag7⟩,(aal aag (aal aag (aal (by first | ((conv=>whnf);exact r2) | exact r2) trivial)))⟩
def VL {l_:ahf} {r_:bZ} (m:DF l_ r_ r):S 192 [bf l_,xD r_] [] (.bool r) [] :=sp Tryz.func192 rfl<|sq m rM λ v1 m=>si m bR λ _ m=>l0 m (λ g1=>⟨[(0,bf l_),(27,au r_.dL),(28,iV (r_.dL.length:Int)),(29,iV g1)],[],0⟩) <|λ aj g1 m=>al3 m (λ m=>ak3 m λ m=>sq m iF λ v4 m=>si m bR λ _ m=>ak3 m λ m=>le m) abY
def VN {l_:ahf} {r:ag8} (m:DJ l_ d_ r):S 193 [bf l_,fJ d_] [] (au r) [] :=sp Tryz.func193 rfl<|sn m λ _ m=>lf m (λ g1=>⟨[(0,bf l_),(5,.ptr 0 0 0),(13,fJ d_),(14,iV (d_.length:Int)),(15,iV g1.1)],[adn 0 [adr 1 g1.2],adl 1 1 iV 0 g1.2],2⟩) [(0,some 32),(1,some 24)] [] <|λ aj g1 m=>si m (λ _ m=>s2 m λ _ _ m=>s2 m λ _ _ m=>sn m λ _ m=>le m) λ _ m=>sq m lJ λ v1 m=>by
 have h17:=m.1;have m:=m.2;refine WK (ct:=[]) (ct':=[]) jh dk dk dk dk (Xn v1 h17) rfl (by intro v hv;simp at hv;exact⟨_,hv⟩) m (λ g2=>⟨[(5,.ptr 0 0 0),(30,.fn 229 [.ro [bf v1]])],[adn 0 [adr 1 g2],adl 1 1 iV 0 g2],2⟩) (λ k2 g2=>⟨[(5,.ptr 0 0 0),(8,iV ((v1.length - 1 - k2:Nat):Int)),(9,.ptr 2 0 0)],[adn 0 [adr 1 g2],adl 1 1 iV 0 g2,adn 2 [iV ((v1.getD (v1.length - 1 - k2) aD).aW),au ((v1.getD (v1.length - 1 - k2) aD).bY),iV ((v1.getD (v1.length - 1 - k2) aD).gU),iV ((v1.getD (v1.length - 1 - k2) aD).iP),.bool ((v1.getD (v1.length - 1 - k2) aD).gF)]],3⟩) (λ _ _=>r2) [] ⟨rfl,⟨r4,⟨rfl,SN.refl _,ag7⟩,ag7⟩,⟨⟨aaI,ag7⟩,abX,ag7⟩⟩ ?_ ?_ ?_
 ·intro k2 ll g2 hk;refine⟨Nat.le_of_ble_eq_true rfl,?_⟩;(conv=>whnf);exact⟨[(2,some 10)],⟨rfl,⟨r4,r2,r4,ag7⟩,⟨⟨aaI,ag7⟩,abX,⟨r2,sr,r2,r2,rfl,ag7⟩,ag7⟩⟩⟩
 ·intro k2 ll dR g2 hk m;refine si m (λ c6 m=>?_) (λ c6 m=>?_)
  ·refine sn m λ h26 m=>sn m λ h27 m=>sn m λ h28 m=>sn m λ h29 m=>?_;(conv=>whnf);exact⟨(g2.set (((v1.getD (v1.length - 1 - k2) aD).aW).toNat) ((g2.getD (((v1.getD (v1.length - 1 - k2) aD).aW).toNat) 0)+(g2.getD (((v1.length - 1 - k2:Nat):Int).toNat) 0))),[],m,⟨rfl,⟨r4,⟨rfl,SN.refl _,ag7⟩,ag7⟩,⟨⟨⟨rfl,rfl,rfl,oz,nofun⟩,ag7⟩,⟨rfl,oz,(lQ am2 rfl (.refl _))⟩,ag7⟩⟩⟩
  (conv=>whnf);exact⟨g2,[],m,⟨rfl,⟨r4,⟨rfl,SN.refl _,ag7⟩,ag7⟩,⟨⟨aaI,ag7⟩,abX,ag7⟩⟩⟩
 intro g2 m;(conv=>whnf);have m:r=g2:=m;subst m;refine⟨[1],[],?_⟩;(conv=>whnf);exact⟨⟨rfl,ag7,ag7⟩,sf⟩
def RD {x_:bO} {qw:ahf} {akt:ag9} {WM:ag8} (m:sD x_ qw akt WM r):S 195 [A9 x_,.ro [bf qw],.ro [aQ akt,au WM]] [] (.bool r) [] :=sp Tryz.func195 rfl<|ak4 m λ m=>ak3 m λ m=>sq m iF λ v1 m=>bD m
def yP {s_:ai8} {Cc:ahf} {CP:ag9} {CQ:ag8} {r:Int} (m:ru s_ Cc CP CQ r):S 231 [fJ s_,.fn 195 [.ro [bf Cc],.ro [aQ CP,au CQ]]] [] (iV r) [] :=sp Tryz.func231 rfl<|l0 m (λ g1=>⟨[(0,fJ s_),(1,.fn 195 [.ro [bf Cc],.ro [aQ CP,au CQ]]),(7,iV (s_.length:Int)),(8,iV g1)],[],0⟩) <|λ aj g1 m=>aly m (λ m=>sq m RD λ v3 m=>si m bR λ _ m=>ak3 m λ m=>le m) abY
def uZ {s_:ai8} {Cc:ahf} {CP:ag9} {CQ:ag8} (m:kQ s_ Cc CP CQ r):S 194 [fJ s_,.fn 195 [.ro [bf Cc],.ro [aQ CP,au CQ]]] [] (.bool r) [] :=sp Tryz.func194 rfl<|sq m yP λ v1 m=>bD m
def Hq {l_:ahf} {r_:bZ} (m:xR l_ r_ d_ r):S 141 [bf l_,xD r_,fJ d_] [] (.bool r) [] :=sp Tryz.func141 rfl<|sq m VL λ v1 m=>sb m λ v2 hv2 m=>cl (λ q0=>(Ho (hv2 q0)))<|si m bR λ _ m=>sq m Aa λ v3 m=>sq m VN λ v4 m=>lf m (λ g1=>⟨[(2,fJ d_),(3,.ptr 0 0 0),(4,.ptr 1 0 0),(7,aQ v3),(8,au v4),(28,bf l_),(29,iV (l_.length:Int)),(30,iV g1)],[adn 0 [bf l_],adn 1 [aQ r_.On,au r_.dL]],2⟩) [(1,some 8)] [] <|λ aj g1 m=>ak5 m (λ m=>ak4 m λ m=>ak5 m (λ m=>ak3 m λ m=>si m bR λ _ m=>ak3 m λ m=>le m) λ m=>ak4 m λ m=>ak4 m λ m=>ak4 m λ m=>ak4 m λ m=>si m bR λ _ m=>ak3 m λ m=>le m) λ m=>sq m uZ λ v5 m=>bD m
def VO {l_:ahf} {r:bZ×Int} (m:DK l_ d_ r):S 91 [bf l_,fJ d_] [] (.kP [xD r.1,iV r.2]) [] :=sp Tryz.func91 rfl<|sq m VI λ v1 m=>si m bR λ _ m=>sq m RB λ v2 m=>sq m Aa λ v3 m=>sb m λ v4 hv4 m=>cl (λ q0=>(Hq (hv4 q0)))<|si m bR bR
def Ud {r:ag8} (m:H9 n_ r):S 94 [rV n_] [] (au r) [] :=sp Tryz.func94 rfl<|bD m
def NA {r:ag8} (m:Jd l_ ah r):S 93 [cO l_,au ah,.fn 94 []] [] (au r) [] :=sp Tryz.func93 rfl<|lf m (λ g1=>⟨[(0,cO l_),(2,.fn 94 []),(7,adr 0 g1.2),(10,au ah),(11,iV (ah.length:Int)),(12,iV g1.1)],[adl 0 1 iV 0 g1.2],1⟩) [(0,none)] [] <|λ aj g1 m=>si m (λ _ m=>sn m λ _ m=>si m (λ _ m=>sn m λ _ m=>sq m Ud λ v3 m=>s2 m λ _ _ m=>lc [(0,some 153)] [] m) λ _ m=>sn m λ _ m=>le m) λ _ m=>by cases m;exact rt [0] []
def VP {l_:ajB} {eX:ag8} {r:ag9} (m:DL l_ eX r):S 142 [dn l_,au eX] [] (aQ r) [] :=sp Tryz.func142 rfl<|sn m λ _ m=>lf m (λ g1=>⟨[(0,dn l_),(5,adr 0 g1.2),(14,au eX),(15,iV (eX.length:Int)),(16,iV g1.1)],[adl 0 1 AV.bool false g1.2],1⟩) [(0,some 24)] [] <|λ aj g1 m=>si m (λ _ m=>s2 m λ _ _ m=>sn m λ _ m=>le m) λ _ m=>sn m λ _ m=>l0 m (λ g2=>⟨[(0,dn l_),(5,adr 0 g2.2),(8,iV g2.1)],[adl 0 1 AV.bool false g2.2],1⟩) <|λ dR g2 m=>si m (λ _ m=>sn m λ _ m=>l0 m (λ g5=>⟨[(0,dn l_),(5,adr 0 g5.2),(8,iV g2.1),(35,au ((l_.getD g2.1.toNat dJ).eG)),(36,iV ((((l_.getD g2.1.toNat dJ).eG).length:Nat):Int)),(37,iV g5.1)],[adl 0 1 AV.bool false g5.2],1⟩) <|λ kr g5 m=>si m (λ _ m=>s2 m λ _ _ m=>s2 m λ _ _ m=>sn m λ _ m=>le m) λ _ m=>sn m λ _ m=>le m) λ _ m=>by cases m;exact rt [0] []
def VQ {l_:ajB} {eX:ag8} {r:ag9×Int} (m:DN l_ eX r):S 92 [dn l_,au eX] [] (.kP [aQ r.1,iV r.2]) [] :=sp Tryz.func92 rfl<|sq m zY λ v1 m=>si m bR λ _ m=>l0 m (λ g1=>⟨[(0,dn l_),(1,au eX),(11,au eX),(12,iV (eX.length:Int)),(13,iV g1)],[],0⟩) <|λ aj g1 m=>ak5 m (λ m=>ak3 m λ m=>si m bR λ _ m=>ak3 m λ m=>le m) λ m=>sq m VP λ v2 m=>bD m
def Ue {r:ag8} (m:Ia n_ r):S 96 [rV n_] [] (au r) [] :=sp Tryz.func96 rfl<|si m bR λ _ m=>by cases m;exact rt [56] []
def Ir {r:ag8} (m:CS l_ ah r):S 93 [cO l_,au ah,.fn 96 []] [] (au r) [] :=sp Tryz.func93 rfl<|lf m (λ g1=>⟨[(0,cO l_),(2,.fn 96 []),(7,adr 0 g1.2),(10,au ah),(11,iV (ah.length:Int)),(12,iV g1.1)],[adl 0 1 iV 0 g1.2],1⟩) [(0,none)] [] <|λ aj g1 m=>si m (λ _ m=>sn m λ _ m=>si m (λ _ m=>sn m λ _ m=>sq m Ue λ v3 m=>s2 m λ _ _ m=>lc [(0,some 153)] [] m) λ _ m=>sn m λ _ m=>le m) λ _ m=>by cases m;exact rt [0] []
def RF {l_:ajk} {eU:ag8} {r:Int} (m:xS l_ eU r):S 143 [bX l_,au eU] [] (iV r) [] :=sp Tryz.func143 rfl<|sq m yN λ v1 m=>si m bR λ _ m=>l0 m (λ g1=>⟨[(0,bX l_),(10,au eU),(11,iV (eU.length:Int)),(12,iV g1)],[],0⟩) <|λ aj g1 m=>aly m (λ m=>si m bR λ _ m=>ak3 m λ m=>le m) abY
def abQ {l_:ajk} {eU:ag8} {r:ag9×Int} (m:QJ l_ eU r):S 95 [bX l_,au eU] [] (.kP [aQ r.1,iV r.2]) [] :=ZW [9] Tryz.func95 rfl<|sq m RF λ v1 m=>si m bR λ _ m=>s2 m λ _ _ m=>SG [9] m (λ g1=>⟨[(0,bX l_),(1,au eU),(7,adr 0 g1.2),(8,iV g1.1)],[adl 0 1 AV.bool false g1.2],1⟩) [(0,some 80)] [] <|λ aj g1 m=>si m (λ _ m=>ck [9] (KM l_ g1 aj) r (λ g4=>⟨[(0,bX l_),(1,au eU),(7,adr 0 g4),(8,iV g1.1)],[adl 0 1 AV.bool false g4],1⟩) (s2 m λ _ _ m=>sb m λ v7 hv7 m=>cl (λ q0=>(gq (hv7 q0)))<|sn m λ _ m=>le m) λ g4 m=>s2 m λ _ _ m=>si m (λ _ m=>s2 m λ _ _ m=>sn m λ _ m=>le m) λ _ m=>sn m λ _ m=>le m) λ _ m=>by cases m;exact rt [0] []
def oV {jg:aiX} {r:ag8×ag9×ag8×ag9×ag9×Int×Int×aiX} (m:o8 b_ l_ ah jg r):S 46 [iO b_,cO l_,au ah,cK jg] [] (.kP [.agg [au r.1,aQ r.2.1,au r.2.2.1,adr 0 r.2.2.2.2.2.2.2,aQ r.2.2.2.1,aQ r.2.2.2.2.1],iV r.2.2.2.2.2.1,iV r.2.2.2.2.2.2.1]) [.row 3 r.2.2.2.2.2.2.2.length (bT kG bE r.2.2.2.2.2.2.2)] :=sp Tryz.func46 rfl<|sq m Hf λ v1 m=>sq m JY λ v2 m=>si m (λ _ m=>sq m Qf λ v3 m=>si m (λ _ m=>by cases m;exact rt [] [(0,none)]) λ _ m=>sq m VH λ v4 m=>si m (λ _ m=>by cases m;exact rt [] [(0,none)]) λ _ m=>sq m VO λ v5 m=>si m (λ _ m=>by cases m;exact rt [] [(0,none)]) λ _ m=>lf m (λ g1=>⟨[(1,cO l_),(2,au ah),(4,.ptr 0 0 0),(8,.ptr 1 0 0),(16,.ptr 2 0 0),(64,cK jg),(65,iV (jg.length:Int)),(66,iV g1.1)],[adn 0 [bA b_.bS,bf b_.bF,iV b_.aT.bU,bn b_.aT.av,dn b_.aZ,bX b_.dz],adn 1 [acN,acN,acN,acN,acN,acN],adn 2 [au v4.1,aQ v5.1.On,au v5.1.dL,adr 3 g1.2,acN,acN],adl 3 3 kG bE g1.2],4⟩) [(1,some 8),(2,some 424),(3,none)] [] <|λ aj g1 m=>si m (λ _ m=>sn m λ _ m=>sq m gq λ v8 m=>si m (λ _ m=>s2 m λ _ _ m=>lc [(3,some 108)] [] m) λ _ m=>sn m λ _ m=>le m) λ _ m=>sq m NA λ v9 m=>sq m VQ λ v10 m=>sq m Ir λ v11 m=>sq m abQ λ v12 m=>by cases m;exact rt [] [(0,some 3)]) λ c1 m=>by
 refine⟨(λ q0=>absurd q0 (vac c1)),?_⟩;(conv=>whnf);refine⟨(λ q0=>absurd q0 (vac c1)),?_⟩;refine sn m λ h13 m=>?_;(conv=>whnf);have m:r=(([]:ag8),([]:ag9),([]:ag8),([]:ag9),([]:ag9),(4:Int),(45:Int),([]:aiX)):=m;subst m;refine⟨[],[(0,none)],?_⟩;(conv=>whnf);exact⟨⟨rfl,ag7,⟨rfl,ag7⟩⟩,⟨⟨⟨rfl,(λ h=>absurd rfl h),nofun,(λ _ h=>absurd h (Nat.not_lt_zero _))⟩,⟨rfl,(λ h=>absurd rfl h),nofun,(λ _ h=>absurd h (Nat.not_lt_zero _))⟩,⟨rfl,(λ h=>absurd rfl h),nofun,(λ _ h=>absurd h (Nat.not_lt_zero _))⟩,⟨rfl,rfl,rfl,rfl,rfl,rfl⟩,⟨rfl,(λ h=>absurd rfl h),nofun,(λ _ h=>absurd h (Nat.not_lt_zero _))⟩,⟨rfl,(λ h=>absurd rfl h),nofun,(λ _ h=>absurd h (Nat.not_lt_zero _))⟩,ag7⟩,r2,r2,ag7⟩⟩
def Nb {r:aO×Int} (m:EG b_ r):S 18 [iO b_] [] (.kP [iT r.1,iV r.2]) [] :=sp Tryz.func18 rfl<|sq m JX λ v1 m=>si m bR λ _ m=>sb m λ v2 hv2 m=>cl ((oV hv2).le ⟨.refl _,abZ,abZ,abZ,ag7⟩ trivial)<|by cases m;exact rt [72] []
def kY {Dx:Int} {oK:Int} (m:qD x_ Dx oK r):S 207 [iV x_,iV Dx,iV oK] [] (.bool r) [] :=sp Tryz.func207 rfl<|bD m
def Zf {iQ:Int} {r:Int} (m:KN b_ n_ iQ r):S 158 [iO b_,rV n_,iV iQ] [] (iV r) [] :=sp Tryz.func158 rfl<|si m bR λ _ m=>lf m (λ g1=>⟨[(2,iV iQ),(3,.ptr 0 0 0),(4,.ptr 1 0 0),(35,fH n_.bG),(36,iV (n_.bG.length:Int)),(37,iV g1)],[adn 0 [bA b_.bS,bf b_.bF,iV b_.aT.bU,bn b_.aT.av,dn b_.aZ,bX b_.dz],adn 1 [fH n_.bG,fJ n_.d9,gM n_.ak,au n_.aZ,iV n_.fO,au n_.aY]],2⟩) [(1,some 8)] [] <|λ aj g1 m=>ak5 m (λ m=>ak4 m λ m=>sq m kY λ v3 m=>si m bR λ _ m=>ak3 m λ m=>le m) λ m=>l0 m (λ g2=>⟨[(2,iV iQ),(3,.ptr 0 0 0),(4,.ptr 1 0 0),(68,fJ n_.d9),(69,iV (n_.d9.length:Int)),(70,iV g2)],[adn 0 [bA b_.bS,bf b_.bF,iV b_.aT.bU,bn b_.aT.av,dn b_.aZ,bX b_.dz],adn 1 [fH n_.bG,fJ n_.d9,gM n_.ak,au n_.aZ,iV n_.fO,au n_.aY]],2⟩) <|λ dR g2 m=>ak5 m (λ m=>ak4 m λ m=>sq m kY λ v8 m=>sb m λ v9 Kk m=>cl (λ q0=>(kY (Kk q0)))<|si m bR λ _ m=>ak3 m λ m=>le m) λ m=>l0 m (λ g3=>⟨[(2,iV iQ),(3,.ptr 0 0 0),(4,.ptr 1 0 0),(107,gM n_.ak),(108,iV (n_.ak.length:Int)),(109,iV g3)],[adn 0 [bA b_.bS,bf b_.bF,iV b_.aT.bU,bn b_.aT.av,dn b_.aZ,bX b_.dz],adn 1 [fH n_.bG,fJ n_.d9,gM n_.ak,au n_.aZ,iV n_.fO,au n_.aY]],2⟩) <|λ jO g3 m=>ak5 m (λ m=>ak3 m λ m=>sq m yM λ v12 m=>si m bR λ _ m=>ak3 m λ m=>le m) λ m=>l0 m (λ g4=>⟨[(2,iV iQ),(3,.ptr 0 0 0),(4,.ptr 1 0 0),(118,au n_.aZ),(119,iV (n_.aZ.length:Int)),(120,iV g4)],[adn 0 [bA b_.bS,bf b_.bF,iV b_.aT.bU,bn b_.aT.av,dn b_.aZ,bX b_.dz],adn 1 [fH n_.bG,fJ n_.d9,gM n_.ak,au n_.aZ,iV n_.fO,au n_.aY]],2⟩) <|λ jA g4 m=>ak5 m (λ m=>ak4 m λ m=>sq m kY λ v15 m=>si m bR λ _ m=>ak3 m λ m=>le m) λ m=>ak3 m λ m=>sq m kY λ v16 m=>si m bR λ _ m=>lf m (λ g5=>⟨[(2,iV iQ),(4,.ptr 0 0 0),(141,au n_.aY),(142,iV (n_.aY.length:Int)),(143,iV g5)],[adn 0 [fH n_.bG,fJ n_.d9,gM n_.ak,au n_.aZ,iV n_.fO,au n_.aY]],1⟩) [(0,some 1)] [] <|λ kr g5 m=>ak5 m (λ m=>ak4 m λ m=>sq m kY λ v19 m=>si m bR λ _ m=>ak3 m λ m=>le m) λ m=>l0 m (λ g6=>⟨[(4,.ptr 0 0 0),(17,iV g6)],[adn 0 [fH n_.bG,fJ n_.d9,gM n_.ak,au n_.aZ,iV n_.fO,au n_.aY]],1⟩) <|λ jR g6 m=>si m (λ _ m=>ak4 m λ m=>ak3 m λ m=>si m bR λ _ m=>ak3 m λ m=>le m) bR
def Nc {r:Int} (m:EH b_ l_ r):S 110 [iO b_,cO l_] [] (iV r) [] :=sp Tryz.func110 rfl<|sq m JX λ v1 m=>si m bR λ _ m=>si m bR λ _ m=>l0 m (λ g1=>⟨[(1,cO l_),(2,.ptr 0 0 0),(17,cO l_),(18,iV (l_.length:Int)),(19,iV g1)],[adn 0 [bA b_.bS,bf b_.bF,iV b_.aT.bU,bn b_.aT.av,dn b_.aZ,bX b_.dz]],1⟩) <|λ aj g1 m=>aly m (λ m=>sq m Zf λ v4 m=>si m bR λ _ m=>ak3 m λ m=>le m) abY
def JZ {r:Int} (m:Bd b_ l_ ah r):S 61 [iO b_,cO l_,au ah] [] (iV r) [] :=sp Tryz.func61 rfl<|sq m Nc λ v1 m=>si m bR λ _ m=>l0 m (λ g1=>⟨[(1,cO l_),(2,au ah),(16,au ah),(17,iV (ah.length:Int)),(18,iV g1)],[],0⟩) <|λ aj g1 m=>si m (λ _ m=>s2 m λ _ _ m=>sb m λ v4 hv4 m=>cl (λ q0=>((gq (hv4 q0)).le ⟨(.sl oz (λ _=>rfl) nofun (lC (f:=iV) (d:=0) (by first | omega | exact Nat.min_le_left _ _ | exact Nat.le_trans (Nat.min_le_left _ _) om | (simp;omega)))),.refl _,ag7⟩ trivial))<|si m bR λ _ m=>sn m λ _ m=>le m) bR
def Qi (m:vk l_ ah r):S 210 [cO l_,au ah] [] (.bool r) [] :=sp Tryz.func210 rfl<|l0 m (λ g1=>⟨[(0,cO l_),(1,au ah),(7,au ah),(8,iV (ah.length:Int)),(9,iV g1)],[],0⟩) <|λ aj g1 m=>si m (λ _ m=>s2 m λ _ _ m=>sq m kY λ v5 m=>sn m λ _ m=>sb m λ v6 hv6 m=>cl (λ q0=>((gq (hv6 q0)).le ⟨(.sl oz (λ _=>rfl) nofun (lC (f:=iV) (d:=0) (by first | omega | exact Nat.min_le_left _ _ | exact Nat.le_trans (Nat.min_le_left _ _) om | (simp;omega)))),.refl _,ag7⟩ trivial))<|si m bR λ _ m=>sn m λ _ m=>le m) bR
def Lh {s_:iB} (m:rz s_ r):S 167 [KA s_] [] (.bool r) [] :=sp Tryz.func167 rfl<|sq m Qi λ v1 m=>si m bR λ _ m=>lf m (λ g1=>⟨[(1,.ptr 0 0 0),(4,.ptr 1 0 0),(67,bA s_.bI.bS),(68,iV (s_.bI.bS.length:Int)),(69,iV g1)],[adn 0 [bA s_.bI.bS,bf s_.bI.bF,iV s_.bI.aT.bU,bn s_.bI.aT.av,dn s_.bI.aZ,bX s_.bI.dz,cO s_.dO,au s_.aX,au s_.bq.bM,aQ s_.bq.dB.On,au s_.bq.dB.dL,cK s_.bq.dK,aQ s_.bq.bV,aQ s_.bq.dH,.bool s_.j3],adn 1 [au s_.bq.bM,aQ s_.bq.dB.On,au s_.bq.dB.dL,cK s_.bq.dK,aQ s_.bq.bV,aQ s_.bq.dH]],2⟩) [(1,some 56)] [] <|λ aj g1 m=>ak5 m (λ m=>ak4 m λ m=>ak3 m λ m=>sq m kY λ v4 m=>si m bR λ _ m=>ak3 m λ m=>le m) λ m=>l0 m (λ g2=>⟨[(1,.ptr 0 0 0),(87,cK s_.bq.dK),(88,iV (s_.bq.dK.length:Int)),(89,iV g2)],[adn 0 [bA s_.bI.bS,bf s_.bI.bF,iV s_.bI.aT.bU,bn s_.bI.aT.av,dn s_.bI.aZ,bX s_.bI.dz,cO s_.dO,au s_.aX,au s_.bq.bM,aQ s_.bq.dB.On,au s_.bq.dB.dL,cK s_.bq.dK,aQ s_.bq.bV,aQ s_.bq.dH,.bool s_.j3]],1⟩) <|λ dR g2 m=>al3 m (λ m=>sq m kY λ v7 m=>si m bR λ _ m=>ak3 m λ m=>le m) abY
def Di {l_:ah3} {r:ajm} (m:sF l_ s_ r):S 225 [bA l_,au s_] [] (rW r) [] :=sp Tryz.func225 rfl<|sn m λ _ m=>lf m (λ g1=>⟨[(0,bA l_),(1,au s_),(5,adr 0 g1.2),(13,bA l_),(14,iV (l_.length:Int)),(15,iV g1.1)],[adl 0 2 qC dZ g1.2],1⟩) [(0,some 24)] [] <|λ aj g1 m=>si m (λ _ m=>s2 m λ _ _ m=>sn m λ _ m=>sq m Hl λ v7 m=>si m (λ _ m=>s2 m λ _ _ m=>le m) λ _ m=>sn m λ _ m=>si m (λ _ m=>s2 m λ _ _ m=>le m) λ _ m=>si m (λ _ m=>sn m λ _ m=>sq m Qg λ v8 m=>s2 m λ _ _ m=>le m) λ _ m=>si m (λ _ m=>sn m λ _ m=>sq m Na λ v9 m=>s2 m λ _ _ m=>le m) λ _ m=>s2 m λ _ _ m=>sn m λ _ m=>le m) λ _ m=>by cases m;exact rt [0] []
def Uf {x_:bP} {qw:ajm} (m:uQ x_ qw r):S 234 [rU x_,.ro [rW qw]] [] (.bool r) [] :=sp Tryz.func234 rfl<|ak4 m λ m=>sb m λ v1 hv1 m=>cl (λ q0=>(z8 (hv1 q0)))<|bD m
def xg {s_:ajc} {f_:ajm} {r:Int} (m:qE s_ f_ r):S 241 [fH s_,.fn 234 [.ro [rW f_]]] [] (iV r) [] :=sp Tryz.func241 rfl<|l0 m (λ g1=>⟨[(0,fH s_),(1,.fn 234 [.ro [rW f_]]),(7,iV (s_.length:Int)),(8,iV g1)],[],0⟩) <|λ aj g1 m=>aly m (λ m=>sq m Uf λ v3 m=>si m bR λ _ m=>ak3 m λ m=>le m) abY
def uJ {s_:ajc} {f_:ajm} (m:kE s_ f_ r):S 222 [fH s_,.fn 234 [.ro [rW f_]]] [] (.bool r) [] :=sp Tryz.func222 rfl<|sq m xg λ v1 m=>bD m
def Xv {l_:ah3} (m:Gp l_ s_ m_ r):S 211 [bA l_,au s_,fH m_] [] (.bool r) [] :=sp Tryz.func211 rfl<|sq m Hg λ v1 m=>sb m λ v2 hv2 m=>cl (λ q0=>(vY (hv2 q0)))<|si m bR λ _ m=>sq m Di λ v3 m=>lf m (λ g1=>⟨[(2,fH m_),(7,.ptr 0 0 0),(23,bA l_),(24,iV (l_.length:Int)),(25,iV g1)],[adn 0 [rW v3]],1⟩) [(0,some 112)] [] <|λ aj g1 m=>ak5 m (λ m=>ak4 m λ m=>ak3 m λ m=>sb m λ v6 hv6 m=>cl (λ q0=>(z8 (hv6 q0)))<|si m bR λ _ m=>ak3 m λ m=>le m) λ m=>sq m uJ λ v7 m=>bD m
def J2 {s_:iB} (m:pU s_ r):S 168 [KA s_] [] (.bool r) [] :=sp Tryz.func168 rfl<|sb m λ v1 hv1 m=>cl ((Xv hv1).le ⟨.refl _,.refl _,abZ,ag7⟩ trivial)<|bD m
def RG {l_:ah3} {r:ajm×Int} (m:xU l_ s_ r):S 186 [bA l_,au s_] [] (.kP [rW r.1,iV r.2]) [] :=sp Tryz.func186 rfl<|sq m oU λ v1 m=>si m bR λ _ m=>sq m vY λ v2 m=>si m bR λ _ m=>sq m Di λ v3 m=>bD m
def J3 {s_:iB} (m:pV s_ r):S 169 [KA s_] [] (.bool r) [] :=sp Tryz.func169 rfl<|sq m RG λ v1 m=>si m bR λ _ m=>l0 m (λ g1=>⟨[(1,.ptr 0 0 0),(3,rW v1.1),(23,au s_.aX),(24,iV (s_.aX.length:Int)),(25,iV g1)],[adn 0 [bA s_.bI.bS,bf s_.bI.bF,iV s_.bI.aT.bU,bn s_.bI.aT.av,dn s_.bI.aZ,bX s_.bI.dz,cO s_.dO,au s_.aX,au s_.bq.bM,aQ s_.bq.dB.On,au s_.bq.dB.dL,cK s_.bq.dK,aQ s_.bq.bV,aQ s_.bq.dH,.bool s_.j3]],1⟩) <|λ aj g1 m=>al3 m (λ m=>l0 m (λ g4=>⟨[(1,.ptr 0 0 0),(3,rW v1.1),(23,au s_.aX),(24,iV (s_.aX.length:Int)),(25,iV g1),(34,fH ((s_.dO.getD ((s_.aX.getD g1.toNat 0).toNat) aU).bG)),(35,iV ((((s_.dO.getD ((s_.aX.getD g1.toNat 0).toNat) aU).bG).length:Nat):Int)),(36,iV g4)],[adn 0 [bA s_.bI.bS,bf s_.bI.bF,iV s_.bI.aT.bU,bn s_.bI.aT.av,dn s_.bI.aZ,bX s_.bI.dz,cO s_.dO,au s_.aX,au s_.bq.bM,aQ s_.bq.dB.On,au s_.bq.dB.dL,cK s_.bq.dK,aQ s_.bq.bV,aQ s_.bq.dH,.bool s_.j3]],1⟩) <|λ jA g4 m=>ak5 m (λ m=>ak4 m λ m=>ak4 m λ m=>si m bR λ _ m=>ak3 m λ m=>le m) λ m=>ak3 m λ m=>le m) abY
def qo {s_:ag9} {r:ag9} (m:lT s_ r):S 103 [aQ s_] [] (adr 0 r) [.row 1 r.length (bT AV.bool false r)] :=by
 obtain⟨h1,m⟩:=m;have m:r=s_:=m;subst m;refine nT (ct:=[1]) jh Tryz.func103 rfl rfl (Nat.le_of_ble_eq_true rfl) dk (Nat.le_of_ble_eq_true rfl) ?_;(conv=>whnf);refine aaJ (ct:=[]) jh (jh.slice (t:=36) (e:=4) rfl rfl rfl).1 dk dk dk dk dk [(2,acN),(0,aQ r)] [] 8 rfl ?_ (λ hn=>?_) ?_
 ·exact rfl
 ·(conv=>whnf);have hn:r.length=0:=hn;refine⟨[],[(0,none)],?_⟩;(conv=>whnf);exact⟨⟨rfl,ag7,⟨hn,ag7⟩⟩,⟨rfl,rfl,rfl,rfl,rfl,hn⟩⟩
 (conv=>whnf);refine⟨by rw[Nat.zero_add];exact h1,?_⟩;(conv=>whnf);refine⟨[],[(0,some 24)],?_⟩;(conv=>whnf);exact⟨⟨rfl,ag7,⟨⟨rfl,Nat.zero_add _,iN (l:=[]) rfl (λ _ h=>absurd h (Nat.not_lt_zero _)) rfl am2⟩,ag7⟩⟩,⟨rfl,rfl,rfl,Nat.zero_add _,nofun⟩⟩
def kZ {r:ag8} (m:jF s_ r):S 47 [au s_] [] (adr 0 r) [.row 1 r.length (bT iV 0 r)] :=by
 obtain⟨h1,m⟩:=m;have m:r=s_:=m;subst m;refine nT (ct:=[1]) jh Tryz.func47 rfl rfl (Nat.le_of_ble_eq_true rfl) dk (Nat.le_of_ble_eq_true rfl) ?_;(conv=>whnf);refine aaJ (ct:=[]) jh (jh.slice (t:=22) (e:=3) rfl rfl rfl).1 dk dk dk dk dk [(2,acN),(0,au r)] [] 8 rfl ?_ (λ hn=>?_) ?_
 ·exact rfl
 ·(conv=>whnf);have hn:r.length=0:=hn;refine⟨[],[(0,none)],?_⟩;(conv=>whnf);exact⟨⟨rfl,ag7,⟨hn,ag7⟩⟩,⟨rfl,rfl,rfl,rfl,rfl,hn⟩⟩
 (conv=>whnf);refine⟨by rw[Nat.zero_add];exact h1,?_⟩;(conv=>whnf);refine⟨[],[(0,some 24)],?_⟩;(conv=>whnf);exact⟨⟨rfl,ag7,⟨⟨rfl,Nat.zero_add _,iN (l:=[]) rfl (λ _ h=>absurd h (Nat.not_lt_zero _)) rfl am2⟩,ag7⟩⟩,⟨rfl,rfl,rfl,Nat.zero_add _,nofun⟩⟩
def Qj {r_:bZ} {r:bZ} (m:Jf r_ r):S 101 [xD r_] [] (xD r) [] :=sp Tryz.func101 rfl<|sq m qo λ v1 m=>sq m kZ λ v2 m=>by cases m;exact rt [32,56] []
def F7 {s_:iB} (m:nK s_ r):S 170 [KA s_] [] (.bool r) [] :=sp Tryz.func170 rfl<|lf m (λ g1=>⟨[(1,.ptr 0 0 0),(3,adr 1 g1.2),(7,au s_.aX),(8,iV (s_.aX.length:Int)),(9,iV g1.1)],[adn 0 [bA s_.bI.bS,bf s_.bI.bF,iV s_.bI.aT.bU,bn s_.bI.aT.av,dn s_.bI.aZ,bX s_.bI.dz,cO s_.dO,au s_.aX,au s_.bq.bM,aQ s_.bq.dB.On,au s_.bq.dB.dL,cK s_.bq.dK,aQ s_.bq.bV,aQ s_.bq.dH,.bool s_.j3],adl 1 4 A9 dV g1.2],2⟩) [(1,none)] [] <|λ aj g1 m=>ak5 m (λ m=>ak4 m λ m=>ak4 m λ m=>lc [(1,some 90)] [] m) λ m=>sq m Qj λ v1 m=>sq m Hq λ v2 m=>bD m
def Xw {l_:akE} {r:((Nat->Int)×Int)} (m:Gq p_ l_ r):S 235 [kU p_,RU l_] [] (.kP [aoM r.1,iV r.2]) [] :=sp Tryz.func235 rfl<|lf m (λ g1=>⟨[(1,RU l_),(2,.ptr 0 0 0),(4,.ptr 1 0 0),(6,.ptr 2 0 0),(13,iV g1.1)],[adn 0 [iV p_.bU,bn p_.av],(1,some (.row 1 64 (BR iV g1.2.1))),(2,some (.row 1 64 (BR iV g1.2.2)))],3⟩) [(1,some 8),(2,some 24)] [] <|λ aj g1 m=>ak5 m (λ m=>ak4 m λ m=>le m) λ m=>sq m vH λ v1 m=>si m bR λ _ m=>ak3 m λ m=>lf m (λ g2=>⟨[(2,.ptr 0 0 0),(4,.ptr 1 0 0),(6,.ptr 2 0 0),(8,adr 3 g2.2.2),(27,RU l_),(28,iV (l_.length:Int)),(29,iV g2.1)],[adn 0 [iV p_.bU,bn p_.av],(1,some (.row 1 64 (BR iV g1.2.1))),(2,some (.row 1 64 (BR iV g2.2.1))),adl 3 1 AV.bool false g2.2.2],4⟩) [(3,some 59)] [] <|λ dR g2 m=>al3 m (λ m=>si m bR λ _ m=>ak3 m λ m=>si m bR λ _ m=>ak4 m λ m=>lf m (λ g5=>⟨[(2,.ptr 0 0 0),(4,.ptr 1 0 0),(6,.ptr 2 0 0),(8,adr 3 g5.2.2),(10,.ptr 4 0 0),(27,RU l_),(28,iV (l_.length:Int)),(29,iV g2.1),(79,au ((p_.av.getD (((l_.getD g2.1.toNat gB).dF).toNat) aF).bU)),(80,iV ((((p_.av.getD (((l_.getD g2.1.toNat gB).dF).toNat) aF).bU).length:Nat):Int)),(81,iV g5.1)],[adn 0 [iV p_.bU,bn p_.av],(1,some (.row 1 64 (BR iV g1.2.1))),(2,some (.row 1 64 (BR iV g5.2.1))),adl 3 1 AV.bool false g5.2.2,adn 4 [iV ((l_.getD g2.1.toNat gB).dF),iV ((l_.getD g2.1.toNat gB).gL)]],5⟩) [(4,some 28)] [] <|λ kr g5 m=>ak5 m (λ m=>ak4 m λ m=>si m bR λ _ m=>ak4 m λ m=>le m) λ m=>ak3 m λ m=>le m) abY
def Iu {s_:Nat} {r:ag8} (m:og s_ dN r):S 47 [.eO 0 0 s_ false] [.row 1 dN.length (bT iV 0 dN)] (adr 1 r) [.row 1 dN.length (bT iV 0 dN),.row 1 r.length (bT iV 0 r)] :=by
 obtain⟨⟨h0,h1⟩,m⟩:=m;have m:r=dN.take s_:=m;have hl:r.length=s_:=by rw[m,List.length_take];omega
 refine nT (ct:=[1]) jh Tryz.func47 rfl rfl (Nat.le_of_ble_eq_true rfl) dk (Nat.le_of_ble_eq_true rfl) ?_;(conv=>whnf);refine Tf (ct:=[]) jh (jh.slice (t:=22) (e:=3) rfl rfl rfl).1 dk dk dk dk dk [(2,acN),(0,.eO 0 0 s_ false)] [adl 0 1 iV 0 dN] 9 rfl rfl ?_ (λ hn=>?_) ?_
 ·exact rfl
 ·(conv=>whnf);have hn:r.length=0:=hl.trans hn;refine⟨[],[(1,none)],?_⟩;(conv=>whnf);exact⟨⟨rfl,ag7,⟨⟨rfl,rfl,λ _ _=>.refl _⟩,hn,ag7⟩⟩,⟨rfl,rfl,rfl,rfl,rfl,hn⟩⟩
 (conv=>whnf);refine⟨by rw[Nat.zero_add];exact h1,?_⟩;(conv=>whnf);refine⟨[],[(1,some 25)],?_⟩;(conv=>whnf);subst m;exact⟨⟨rfl,ag7,⟨⟨rfl,rfl,λ _ _=>.refl _⟩,⟨rfl,(Nat.zero_add _).trans hl.symm,iN (l:=[]) rfl (λ _ h=>absurd h (Nat.not_lt_zero _)) hl.symm (lC (f:=iV) (d:=0) h0)⟩,ag7⟩⟩,⟨rfl,rfl,rfl,(Nat.zero_add _).trans hl.symm,nofun⟩⟩
def Xx {l_:akE} {r:ag8×Int} (m:Gr p_ l_ r):S 212 [kU p_,RU l_] [] (.kP [au r.1,iV r.2]) [] :=ZW [4,6] Tryz.func212 rfl<|sq m Xw λ v1 m=>ck [4,6] (EJ p_) r (λ g1=>⟨[(2,.ptr 0 0 0),(6,.ptr 1 0 0)],[adn 0 [iV p_.bU,bn p_.av],(1,some (.row 1 64 (BR iV g1)))],2⟩) (si m bR λ _ m=>lce [(1,some 72)] [] m ⟨rfl,⟨r4,r4,ag7⟩,⟨⟨r2,sr,ag7⟩,⟨rfl,rfl,(ac8 (f:=iV) (X:=v1.1) (n:=64) (λ _=>rfl))⟩,ag7⟩⟩) λ g1 m=>sn m λ _ m=>sb m λ v2 hv2 m=>cl ((Iu hv2).le ⟨.refl _,ag7⟩ ⟨⟨rfl,oz,(aoL (f:=iV) (X:=g1))⟩,ag7⟩)<|by cases m;exact rt [26] []
def NC {s_:iB} (m:tL s_ r):S 171 [KA s_] [] (.bool r) [] :=sp Tryz.func171 rfl<|lf m (λ g1=>⟨[(1,.ptr 0 0 0),(3,adr 1 g1.2),(10,cK s_.bq.dK),(11,iV (s_.bq.dK.length:Int)),(12,iV g1.1)],[adn 0 [bA s_.bI.bS,bf s_.bI.bF,iV s_.bI.aT.bU,bn s_.bI.aT.av,dn s_.bI.aZ,bX s_.bI.dz,cO s_.dO,au s_.aX,au s_.bq.bM,aQ s_.bq.dB.On,au s_.bq.dB.dL,cK s_.bq.dK,aQ s_.bq.bV,aQ s_.bq.dH,.bool s_.j3],adl 1 2 aks gB g1.2],2⟩) [(1,none)] [] <|λ aj g1 m=>ak5 m (λ m=>ak4 m λ m=>ak3 m λ m=>lc [(1,some 74)] [] m) λ m=>sq m Xx λ v1 m=>bD m
def FJ {s_:iB} (m:mY s_ r):S 172 [KA s_] [] (.bool r) [] :=sp Tryz.func172 rfl<|l0 m (λ g1=>⟨[(1,.ptr 0 0 0),(11,au s_.aX),(12,iV (s_.aX.length:Int)),(13,iV g1)],[adn 0 [bA s_.bI.bS,bf s_.bI.bF,iV s_.bI.aT.bU,bn s_.bI.aT.av,dn s_.bI.aZ,bX s_.bI.dz,cO s_.dO,au s_.aX,au s_.bq.bM,aQ s_.bq.dB.On,au s_.bq.dB.dL,cK s_.bq.dK,aQ s_.bq.bV,aQ s_.bq.dH,.bool s_.j3]],1⟩) <|λ aj g1 m=>aly m (λ m=>lf m (λ g6=>⟨[(1,.ptr 0 0 0),(4,iV (s_.aX.getD g1.toNat 0)),(5,.mref 1),(11,au s_.aX),(12,iV (s_.aX.length:Int)),(13,iV g1),(20,cK s_.bq.dK),(21,iV (s_.bq.dK.length:Int)),(22,iV g6.1)],[adn 0 [bA s_.bI.bS,bf s_.bI.bF,iV s_.bI.aT.bU,bn s_.bI.aT.av,dn s_.bI.aZ,bX s_.bI.dz,cO s_.dO,au s_.aX,au s_.bq.bM,aQ s_.bq.dB.On,au s_.bq.dB.dL,cK s_.bq.dK,aQ s_.bq.bV,aQ s_.bq.dH,.bool s_.j3],(1,some (.map .str [(.int .i64)] g6.2))],2⟩) [(1,some 33)] [] <|λ jR g6 m=>ak5 m (λ m=>ak3 m λ m=>ak5 m (λ m=>ak4 m λ m=>ak4 m λ m=>le m) λ m=>ak3 m λ m=>le m) λ m=>ak3 m λ m=>l0 m (λ g7=>⟨[(1,.ptr 0 0 0),(5,.mref 1),(11,au s_.aX),(12,iV (s_.aX.length:Int)),(13,iV g1),(54,gM ((s_.dO.getD ((s_.aX.getD g1.toNat 0).toNat) aU).ak)),(55,iV ((((s_.dO.getD ((s_.aX.getD g1.toNat 0).toNat) aU).ak).length:Nat):Int)),(56,iV g7.1)],[adn 0 [bA s_.bI.bS,bf s_.bI.bF,iV s_.bI.aT.bU,bn s_.bI.aT.av,dn s_.bI.aZ,bX s_.bI.dz,cO s_.dO,au s_.aX,au s_.bq.bM,aQ s_.bq.dB.On,au s_.bq.dB.dL,cK s_.bq.dK,aQ s_.bq.bV,aQ s_.bq.dH,.bool s_.j3],(1,some (.map .str [(.int .i64)] g7.2))],2⟩) <|λ nX g7 m=>ak5 m (λ m=>ak4 m λ m=>si m bR λ _ m=>ak3 m λ m=>le m) λ m=>ak3 m λ m=>le m) abY
def VR {l_:ajB} {dS:ag9} (m:DR l_ dS r):S 236 [dn l_,aQ dS] [] (.bool r) [] :=sp Tryz.func236 rfl<|si m bR λ _ m=>l0 m (λ g1=>⟨[(1,aQ dS),(14,dn l_),(15,iV (l_.length:Int)),(16,iV g1)],[],0⟩) <|λ aj g1 m=>aly m (λ m=>l0 m (λ g4=>⟨[(1,aQ dS),(5,iV g1),(14,dn l_),(15,iV (l_.length:Int)),(16,iV g1),(22,au ((l_.getD g1.toNat dJ).eG)),(23,iV ((((l_.getD g1.toNat dJ).eG).length:Nat):Int)),(24,iV g4)],[],0⟩) <|λ jA g4 m=>ak5 m (λ m=>ak4 m λ m=>ak3 m λ m=>si m bR λ _ m=>ak3 m λ m=>le m) λ m=>ak3 m λ m=>le m) abY
def VT {l_:ajB} {dS:ag9} (m:DT l_ dS r):S 213 [dn l_,aQ dS] [] (.bool r) [] :=sp Tryz.func213 rfl<|sq m zY λ v1 m=>sb m λ v2 hv2 m=>cl (λ q0=>(VR (hv2 q0)))<|bD m
def F8 {OH:Int} {Ca:ah3} {vR:ahf} {aaP:Int} {aaQ:ajZ} {aaR:ajB} {aaS:ajk} {Ib:aha} {aaT:ag8} {aaU:ag8} {aaV:ag9} {OI:ag8} {OJ:aiX} {EK:ag9} {EL:ag9} {OL:Bool} (m:lD OH Ca vR aaP aaQ aaR aaS Ib aaT aaU aaV OI OJ EK EL OL r):S 214 [iV OH,.ro [bA Ca,bf vR,iV aaP,bn aaQ,dn aaR,bX aaS,cO Ib,au aaT,au aaU,aQ aaV,au OI,cK OJ,aQ EK,aQ EL,.bool OL]] [] (.bool r) [] :=sp Tryz.func214 rfl<|sn m bR
variable {Cc:ah3} {CP:ahf} {CQ:Int} {Ti:ajZ} {Tj:ajB} {Tk:ajk} {Nl:aha} {Tm:ag8} {Tn:ag8} {Tq:ag9} {vS:ag8} {vT:aiX} {tN:ag9} {tO:ag9} {vU:Bool}
def Cz {r:Int} (m:wG s_ Cc CP CQ Ti Tj Tk Nl Tm Tn Tq vS vT tN tO vU r):S 130 [au s_,.fn 214 [.ro [bA Cc,bf CP,iV CQ,bn Ti,dn Tj,bX Tk,cO Nl,au Tm,au Tn,aQ Tq,au vS,cK vT,aQ tN,aQ tO,.bool vU]]] [] (iV r) [] :=sp Tryz.func130 rfl<|l0 m (λ g1=>⟨[(0,au s_),(1,.fn 214 [.ro [bA Cc,bf CP,iV CQ,bn Ti,dn Tj,bX Tk,cO Nl,au Tm,au Tn,aQ Tq,au vS,cK vT,aQ tN,aQ tO,.bool vU]]),(7,iV (s_.length:Int)),(8,iV g1)],[],0⟩) <|λ aj g1 m=>aly m (λ m=>sq m F8 λ v3 m=>si m bR λ _ m=>ak3 m λ m=>le m) abY
def yZ (m:mM s_ Cc CP CQ Ti Tj Tk Nl Tm Tn Tq vS vT tN tO vU r):S 200 [au s_,.fn 214 [.ro [bA Cc,bf CP,iV CQ,bn Ti,dn Tj,bX Tk,cO Nl,au Tm,au Tn,aQ Tq,au vS,cK vT,aQ tN,aQ tO,.bool vU]]] [] (.bool r) [] :=sp Tryz.func200 rfl<|sq m Cz λ v1 m=>bD m
def J4 {s_:iB} (m:pW s_ r):S 173 [KA s_] [] (.bool r) [] :=sp Tryz.func173 rfl<|sq m VT λ v1 m=>si m bR λ _ m=>l0 m (λ g1=>⟨[(1,.ptr 0 0 0),(14,au s_.aX),(15,iV (s_.aX.length:Int)),(16,iV g1)],[adn 0 [bA s_.bI.bS,bf s_.bI.bF,iV s_.bI.aT.bU,bn s_.bI.aT.av,dn s_.bI.aZ,bX s_.bI.dz,cO s_.dO,au s_.aX,au s_.bq.bM,aQ s_.bq.dB.On,au s_.bq.dB.dL,cK s_.bq.dK,aQ s_.bq.bV,aQ s_.bq.dH,.bool s_.j3]],1⟩) <|λ aj g1 m=>al3 m (λ m=>sq m yZ λ v4 m=>si m bR λ _ m=>ak3 m λ m=>le m) abY
def VU {l_:ajk} {rA:ag9} (m:DU l_ rA r):S 237 [bX l_,aQ rA] [] (.bool r) [] :=sp Tryz.func237 rfl<|si m bR λ _ m=>l0 m (λ g1=>⟨[(1,aQ rA),(12,bX l_),(13,iV (l_.length:Int)),(14,iV g1)],[],0⟩) <|λ aj g1 m=>al3 m (λ m=>ak4 m λ m=>si m bR λ _ m=>ak3 m λ m=>le m) abY
def VW {l_:ajk} {rA:ag9} (m:DV l_ rA r):S 215 [bX l_,aQ rA] [] (.bool r) [] :=sp Tryz.func215 rfl<|sq m yN λ v1 m=>sb m λ v2 hv2 m=>cl (λ q0=>(VU (hv2 q0)))<|bD m
def FK {m_:Int} {Ca:ah3} {vR:ahf} {aaP:Int} {aaQ:ajZ} {aaR:ajB} {aaS:ajk} {Ib:aha} {aaT:ag8} {aaU:ag8} {aaV:ag9} {OI:ag8} {OJ:aiX} {EK:ag9} {EL:ag9} {OL:Bool} (m:kH m_ Ca vR aaP aaQ aaR aaS Ib aaT aaU aaV OI OJ EK EL OL r):S 216 [iV m_,.ro [bA Ca,bf vR,iV aaP,bn aaQ,dn aaR,bX aaS,cO Ib,au aaT,au aaU,aQ aaV,au OI,cK OJ,aQ EK,aQ EL,.bool OL]] [] (.bool r) [] :=sp Tryz.func216 rfl<|ak4 m λ m=>bD m
def CB {r:Int} (m:wH s_ Cc CP CQ Ti Tj Tk Nl Tm Tn Tq vS vT tN tO vU r):S 130 [au s_,.fn 216 [.ro [bA Cc,bf CP,iV CQ,bn Ti,dn Tj,bX Tk,cO Nl,au Tm,au Tn,aQ Tq,au vS,cK vT,aQ tN,aQ tO,.bool vU]]] [] (iV r) [] :=sp Tryz.func130 rfl<|l0 m (λ g1=>⟨[(0,au s_),(1,.fn 216 [.ro [bA Cc,bf CP,iV CQ,bn Ti,dn Tj,bX Tk,cO Nl,au Tm,au Tn,aQ Tq,au vS,cK vT,aQ tN,aQ tO,.bool vU]]),(7,iV (s_.length:Int)),(8,iV g1)],[],0⟩) <|λ aj g1 m=>aly m (λ m=>sq m FK λ v3 m=>si m bR λ _ m=>ak3 m λ m=>le m) abY
def y7 (m:mO s_ Cc CP CQ Ti Tj Tk Nl Tm Tn Tq vS vT tN tO vU r):S 200 [au s_,.fn 216 [.ro [bA Cc,bf CP,iV CQ,bn Ti,dn Tj,bX Tk,cO Nl,au Tm,au Tn,aQ Tq,au vS,cK vT,aQ tN,aQ tO,.bool vU]]] [] (.bool r) [] :=sp Tryz.func200 rfl<|sq m CB λ v1 m=>bD m
def Iw {s_:iB} (m:oh s_ r):S 174 [KA s_] [] (.bool r) [] :=sp Tryz.func174 rfl<|sq m VW λ v1 m=>si m bR λ _ m=>sq m y7 λ v2 m=>bD m
def J5 {s_:iB} {r:Int} (m:pX s_ r):S 120 [KA s_] [] (iV r) [] :=sp Tryz.func120 rfl<|by
 refine afY 9 ?_;refine pI (ct:=[]) jh dk ?_;refine sn m λ h1 m=>sb m λ v1 hv1 m=>cl (Lh hv1)<|?_;refine si m (λ c1 m=>?_) (λ c1 m=>?_)
 ·refine sn m λ h2 m=>?_;(conv=>whnf);have m:r=((0:Int)+(1:Int)):=m;subst m;refine⟨[],[],?_⟩;(conv=>whnf);exact⟨⟨rfl,ag7,ag7⟩,r2⟩
 refine sn m λ h3 m=>?_;(conv=>whnf);refine pI (ct:=[]) jh dk ?_;refine sn m λ h4 m=>sb m λ v2 hv2 m=>cl (J2 hv2)<|?_;refine si m (λ c2 m=>?_) (λ c2 m=>?_)
 ·refine sn m λ h5 m=>?_;(conv=>whnf);have m:r=(((0:Int)+(1:Int))+(1:Int)):=m;subst m;refine⟨[],[],?_⟩;(conv=>whnf);exact⟨⟨rfl,ag7,ag7⟩,r2⟩
 refine sn m λ h6 m=>?_;(conv=>whnf);refine pI (ct:=[]) jh dk ?_;refine sn m λ h7 m=>sb m λ v3 hv3 m=>cl (J3 hv3)<|?_;refine si m (λ c3 m=>?_) (λ c3 m=>?_)
 ·refine sn m λ h8 m=>?_;(conv=>whnf);have m:r=((((0:Int)+(1:Int))+(1:Int))+(1:Int)):=m;subst m;refine⟨[],[],?_⟩;(conv=>whnf);exact⟨⟨rfl,ag7,ag7⟩,r2⟩
 refine sn m λ h9 m=>?_;(conv=>whnf);refine pI (ct:=[]) jh dk ?_;refine sn m λ h10 m=>sb m λ v4 hv4 m=>cl (F7 hv4)<|?_;refine si m (λ c4 m=>?_) (λ c4 m=>?_)
 ·refine sn m λ h11 m=>?_;(conv=>whnf);have m:r=(((((0:Int)+(1:Int))+(1:Int))+(1:Int))+(1:Int)):=m;subst m;refine⟨[],[],?_⟩;(conv=>whnf);exact⟨⟨rfl,ag7,ag7⟩,r2⟩
 refine sn m λ h12 m=>?_;(conv=>whnf);refine pI (ct:=[]) jh dk ?_;refine sn m λ h13 m=>sb m λ v5 hv5 m=>cl (NC hv5)<|?_;refine si m (λ c5 m=>?_) (λ c5 m=>?_)
 ·refine sn m λ h14 m=>?_;(conv=>whnf);have m:r=((((((0:Int)+(1:Int))+(1:Int))+(1:Int))+(1:Int))+(1:Int)):=m;subst m;refine⟨[],[],?_⟩;(conv=>whnf);exact⟨⟨rfl,ag7,ag7⟩,r2⟩
 refine sn m λ h15 m=>?_;(conv=>whnf);refine pI (ct:=[]) jh dk ?_;refine sn m λ h16 m=>sb m λ v6 hv6 m=>cl (FJ hv6)<|?_;refine si m (λ c6 m=>?_) (λ c6 m=>?_)
 ·refine sn m λ h17 m=>?_;(conv=>whnf);have m:r=(((((((0:Int)+(1:Int))+(1:Int))+(1:Int))+(1:Int))+(1:Int))+(1:Int)):=m;subst m;refine⟨[],[],?_⟩;(conv=>whnf);exact⟨⟨rfl,ag7,ag7⟩,r2⟩
 refine sn m λ h18 m=>?_;(conv=>whnf);refine pI (ct:=[]) jh dk ?_;refine sn m λ h19 m=>sb m λ v7 hv7 m=>cl (J4 hv7)<|?_;refine si m (λ c7 m=>?_) (λ c7 m=>?_)
 ·refine sn m λ h20 m=>?_;(conv=>whnf);have m:r=((((((((0:Int)+(1:Int))+(1:Int))+(1:Int))+(1:Int))+(1:Int))+(1:Int))+(1:Int)):=m;subst m;refine⟨[],[],?_⟩;(conv=>whnf);exact⟨⟨rfl,ag7,ag7⟩,r2⟩
 refine sn m λ h21 m=>?_;(conv=>whnf);refine pI (ct:=[]) jh dk ?_;refine sn m λ h22 m=>sb m λ v8 xk m=>cl (Iw xk)<|?_;refine si m (λ c8 m=>?_) (λ c8 m=>?_)
 ·refine sn m λ h23 m=>?_;(conv=>whnf);have m:r=(((((((((0:Int)+(1:Int))+(1:Int))+(1:Int))+(1:Int))+(1:Int))+(1:Int))+(1:Int))+(1:Int)):=m;subst m;refine⟨[],[],?_⟩;(conv=>whnf);exact⟨⟨rfl,ag7,ag7⟩,r2⟩
 refine sn m λ h24 m=>?_;(conv=>whnf);refine pI (ct:=[]) jh dk ?_;(conv=>whnf);have m:r=(0:Int):=m;subst m;refine⟨[],[],?_⟩;(conv=>whnf);exact⟨⟨rfl,ag7,ag7⟩,r2⟩
variable {g_:aO}
def VX {gY:Bool} {r:Int} (m:DW b_ l_ ah g_ gY r):S 68 [iO b_,cO l_,au ah,iT g_,.bool gY] [] (iV r) [] :=sp Tryz.func68 rfl<|sq m Nc λ v1 m=>si m bR λ _ m=>sq m J5 λ v2 m=>bD m
def Ac (m:wI b_ l_ ah g_ r):S 28 [iO b_,cO l_,au ah,iT g_] [] (.bool r) [] :=sp Tryz.func28 rfl<|sq m VX λ v1 m=>bD m
def yQ {aV:Int} {r:Int} (m:tQ b_ l_ ah g_ aV r):S 44 [iO b_,cO l_,au ah,iT g_,iV aV] [] (iV r) [] :=sp Tryz.func44 rfl<|sq m JZ λ v1 m=>si m bR λ _ m=>sq m Ac λ v2 m=>si m bR λ _ m=>si m bR bR
def Xy {jg:aiX} {Mc:aiS} {r:aiS×ag8} (m:Gs b_ jg Mc r):S 48 [iO b_,cK jg,gM Mc] [] (.kP [gM r.1,au r.2]) [] :=sp Tryz.func48 rfl<|lf m (λ g1=>⟨[(2,gM Mc),(3,.ptr 0 0 0),(6,adr 1 g1.2.1),(7,adr 2 g1.2.2),(10,cK jg),(11,iV (jg.length:Int)),(12,iV g1.1)],[adn 0 [bA b_.bS,bf b_.bF,iV b_.aT.bU,bn b_.aT.av,dn b_.aZ,bX b_.dz],adl 1 1 AV.str ByteArray.empty g1.2.1,adl 2 1 iV 0 g1.2.2],3⟩) [(1,none),(2,none)] [] <|λ aj g1 m=>si m (λ _ m=>s2 m λ _ _ m=>s2 m λ _ _ m=>s2 m λ _ _ m=>lc [(1,some 171),(2,some 227)] [] m) λ _ m=>sn m λ _ m=>by cases m;exact rt [27,2] []
def Qk {f_:ByteArray} (m:Md f_ r):S 145 [.str f_] [] (.bool r) [] :=sp Tryz.func145 rfl<|sq m yM λ v1 m=>bD m
def CF {s_:aiS} {r:Int} (m:oL s_ r):S 197 [gM s_,.fn 145 []] [] (iV r) [] :=sp Tryz.func197 rfl<|l0 m (λ g1=>⟨[(0,gM s_),(1,.fn 145 []),(7,iV (s_.length:Int)),(8,iV g1)],[],0⟩) <|λ aj g1 m=>aly m (λ m=>sq m Qk λ v3 m=>si m bR λ _ m=>ak3 m λ m=>le m) abY
def y8 {s_:aiS} (m:mP s_ r):S 144 [gM s_,.fn 145 []] [] (.bool r) [] :=sp Tryz.func144 rfl<|sq m CF λ v1 m=>bD m
def Xz {gI:ByteArray} {r:ag8} (m:Gt p_ gI r):S 198 [kU p_,.str gI] [] (au r) [] :=sp Tryz.func198 rfl<|sq m vH λ v1 m=>si m bR λ _ m=>lf m (λ g1=>⟨[(1,.str gI),(5,adr 0 g1.2),(12,bn p_.av),(13,iV (p_.av.length:Int)),(14,iV g1.1)],[adl 0 1 iV 0 g1.2],1⟩) [(0,none)] [] <|λ aj g1 m=>si m (λ _ m=>sn m λ _ m=>sq m rO λ v4 m=>si m (λ _ m=>s2 m λ _ _ m=>lc [(0,some 113)] [] m) λ _ m=>sn m λ _ m=>le m) λ _ m=>by cases m;exact rt [0] []
def Ql {gI:ByteArray} {r:ag8} (m:Me p_ gI r):S 147 [kU p_,.str gI] [] (au r) [] :=sp Tryz.func147 rfl<|sq m Xz λ v1 m=>bD m
def Ug {l_:aiS} {bW:ag8} {r:fA×Int} (m:uT p_ l_ bW r):S 97 [kU p_,gM l_,au bW] [] (.kP [aaM r.1,iV r.2]) [] :=sp Tryz.func97 rfl<|sq m vH λ v1 m=>sb m λ v2 hv2 m=>cl (λ q0=>(y8 (hv2 q0)))<|si m bR λ _ m=>lf m (λ g1=>⟨[(1,gM l_),(2,au bW),(3,.ptr 0 0 0),(6,.ptr 1 0 0),(8,.ptr 2 0 0),(31,gM l_),(32,iV (l_.length:Int)),(33,iV g1.1)],[adn 0 [iV p_.bU,bn p_.av],adn 1 [acN,acN,acN,.int .u64 (0:Int)],adn 2 [adr 3 g1.2,acN,acN,.int .u64 (0:Int)],(3,some (.row 1 g1.2.length (bT au [] g1.2)))],4⟩) [(1,some 8),(2,some 120),(3,none)] [] <|λ aj g1 m=>si m (λ _ m=>sn m λ _ m=>sq m Ql λ v5 m=>s2 m λ _ _ m=>lc [(3,some 84)] [] m) λ _ m=>lf m (λ g2=>⟨[(1,gM l_),(2,au bW),(6,.ptr 0 0 0),(8,.ptr 1 0 0),(47,bn p_.av),(48,iV (p_.av.length:Int)),(49,iV g2.1)],[adn 0 [acN,acN,acN,.int .u64 (0:Int)],adn 1 [adr 2 g1.2,adr 3 g2.2,acN,.int .u64 (0:Int)],(2,some (.row 1 g1.2.length (bT au [] g1.2))),adl 3 1 (AV.int .u64) 0 g2.2],4⟩) [(0,some 1),(1,some 2),(2,some 3),(3,none)] [] <|λ dR g2 m=>si m (λ _ m=>sn m λ _ m=>l0 m (λ g5=>⟨[(1,gM l_),(2,au bW),(6,.ptr 0 0 0),(8,.ptr 1 0 0),(13,.int .u64 g5.1),(47,bn p_.av),(48,iV (p_.av.length:Int)),(49,iV g2.1),(54,au ((p_.av.getD g2.1.toNat aF).bU)),(55,iV ((((p_.av.getD g2.1.toNat aF).bU).length:Nat):Int)),(56,iV g5.2)],[adn 0 [acN,acN,acN,.int .u64 (0:Int)],adn 1 [adr 2 g1.2,adr 3 g2.2,acN,.int .u64 (0:Int)],(2,some (.row 1 g1.2.length (bT au [] g1.2))),adl 3 1 (AV.int .u64) 0 g2.2],4⟩) <|λ kr g5 m=>si m (λ _ m=>s2 m λ _ _ m=>sn m λ _ m=>le m) λ _ m=>s2 m λ _ _ m=>lc [(3,some 44)] [] m) λ _ m=>si m bR λ _ m=>l0 m (λ g6=>⟨[(2,au bW),(6,.ptr 0 0 0),(8,.ptr 1 0 0),(78,au bW),(79,iV (bW.length:Int)),(80,iV g6.1)],[adn 0 [acN,acN,acN,.int .u64 (0:Int)],adn 1 [adr 2 g1.2,adr 3 g2.2,acN,.int .u64 g6.2],(2,some (.row 1 g1.2.length (bT au [] g1.2))),adl 3 1 (AV.int .u64) 0 g2.2],4⟩) <|λ jR g6 m=>si m (λ _ m=>s2 m λ _ _ m=>sq m gq λ v8 m=>sn m λ _ m=>si m bR λ _ m=>s2 m λ _ _ m=>le m) λ _ m=>by cases m;exact rt [2,3] []
def F9 {x_:fA} {r:ag8} (m:nL x_ r):S 99 [aaM x_] [] (au r) [] :=sp Tryz.func99 rfl<|lf m (λ g1=>⟨[(1,.ptr 0 0 0),(3,adr 1 g1.2),(4,iV g1.1)],[adn 0 [zH x_.gJ,Yb x_.rT,au x_.pJ,.int .u64 x_.vO],adl 1 1 iV 0 g1.2],2⟩) [(1,none)] [] <|λ aj g1 m=>si m (λ _ m=>s2 m λ _ _ m=>lc [(1,some 66)] [] m) λ _ m=>by cases m;exact rt [1] []
def FM:∀(n:Nat) (iX:Int×ag8×fA×ag8) (r:Bool×Nat×ag8×fA×ag8),itM iC n iX r->S 148 [.int .u64 iX.1,.ptr 0 0 0,.ptr 1 0 0,.ptr 2 0 0,.ptr 3 0 0] [.box [adr 4 iX.2.2.2],.box [au iX.2.1],.box [zH iX.2.2.1.gJ,Yb iX.2.2.1.rT,au iX.2.2.1.pJ,.int .u64 iX.2.2.1.vO],.box [.fn 148 [.ptr 0 0 0,.ptr 1 0 0,.ptr 2 0 0,.ptr 3 0 0]],.row 1 iX.2.2.2.length (bT iV 0 iX.2.2.2)] (.bool r.1) [.box [.eO 5 0 r.2.1 false],.box [au r.2.2.1],.box [zH r.2.2.2.1.gJ,Yb r.2.2.2.1.rT,au r.2.2.2.1.pJ,.int .u64 r.2.2.2.1.vO],.box [.fn 148 [.ptr 0 0 0,.ptr 1 0 0,.ptr 2 0 0,.ptr 3 0 0]],apz,.row 1 r.2.2.2.2.length (bT iV 0 r.2.2.2.2)] :=by
 intro n
 induction n with
 | zero=>intro iX r m;exact m.elim
 | succ n ih=>
   intro iX r m
   have m:iC (itM iC n) iX r:=m
   generalize itM iC n=Ce at m ih
   refine nT (ct:=[8]) jh Tryz.func148 rfl rfl (Nat.le_of_ble_eq_true rfl) dk (Nat.le_of_ble_eq_true rfl) ?_
   (conv=>whnf)
   refine jd m (λ c1 m=>?_) (λ c1 m=>?_)
   · (conv=>whnf)
     have m:r=(true,iX.2.2.2.length,iX.2.1,iX.2.2.1,iX.2.2.2):=m
     subst m
     refine⟨[],[(5,some 4)],?_⟩
     (conv=>whnf)
     exact⟨⟨rfl,ag7,⟨⟨aaI,ag7⟩,⟨sf,ag7⟩,⟨sf,sf,sf,r2,ag7⟩,⟨⟨rfl,r4,r4,r4,r4,ag7⟩,ag7⟩,abX,ag7⟩⟩,rfl⟩
   (conv=>whnf)
   refine bB m λ h1 m=>?_
   (conv=>whnf)
   refine bB m λ h2 m=>?_
   (conv=>whnf)
   refine wB (ct:=[8]) jh dk m (λ g1=>⟨[(0,.int .u64 iX.1),(1,.ptr 0 0 0),(3,.ptr 2 0 0),(4,.ptr 3 0 0),(22,au (iX.2.2.1.gJ.getD ((iX.2.1.getD ((iX.2.2.2.length:Int).toNat) 0).toNat) [])),(23,iV (((iX.2.2.1.gJ.getD ((iX.2.1.getD ((iX.2.2.2.length:Int).toNat) 0).toNat) []).length:Nat):Int)),(24,iV g1.1)],[adn 0 [.eO 5 0 g1.2.1 false],adn 1 [au g1.2.2.1],adn 2 [zH g1.2.2.2.1,Yb g1.2.2.2.2.1,au g1.2.2.2.2.2.1,.int .u64 g1.2.2.2.2.2.2.1],adn 3 [.fn 148 [.ptr 0 0 0,.ptr 1 0 0,.ptr 2 0 0,.ptr 3 0 0]],adl 5 1 iV 0 g1.2.2.2.2.2.2.2],6⟩) [(5,some 4)] [] ⟨rfl,⟨r2,r4,r4,r4,sr,r2,r2,ag7⟩,⟨⟨aaI,ag7⟩,⟨sf,ag7⟩,⟨sf,sf,sf,r2,ag7⟩,⟨⟨rfl,r4,r4,r4,r4,ag7⟩,ag7⟩,abX,ag7⟩⟩ ?_
   intro aj g1 m
   (conv=>whnf)
   have h33:=m.1
   have m:=m.2
   refine jd m (λ c8 m=>?_) (λ c8 m=>?_)
   · (conv=>whnf)
     refine bB m λ h23 m=>?_
     (conv=>whnf)
     refine bB m λ h24 m=>?_
     (conv=>whnf)
     refine jd m (λ c9 m=>?_) (λ c9 m=>?_)
     · (conv=>whnf)
       refine bB m λ h25 m=>?_
       (conv=>whnf)
       exact⟨((g1.1+(1:Int)),g1.2.1,g1.2.2.1,g1.2.2.2.1,g1.2.2.2.2.1,g1.2.2.2.2.2.1,g1.2.2.2.2.2.2.1,g1.2.2.2.2.2.2.2),[],[],m,⟨rfl,⟨r2,r4,r4,r4,sr,r2,r2,ag7⟩,⟨⟨aaI,ag7⟩,⟨sf,ag7⟩,⟨sf,sf,sf,r2,ag7⟩,⟨⟨rfl,r4,r4,r4,r4,ag7⟩,ag7⟩,abX,ag7⟩⟩⟩
     (conv=>whnf)
     refine aaH (ct:=[8]) jh dk dk (mQ Ce iX g1 aj) r (λ g4=>⟨[(0,.int .u64 iX.1),(1,.ptr 0 0 0),(3,.ptr 2 0 0),(4,.ptr 3 0 0),(8,iV ((iX.2.2.1.gJ.getD ((iX.2.1.getD ((iX.2.2.2.length:Int).toNat) 0).toNat) []).getD g1.1.toNat 0)),(22,au (iX.2.2.1.gJ.getD ((iX.2.1.getD ((iX.2.2.2.length:Int).toNat) 0).toNat) [])),(23,iV (((iX.2.2.1.gJ.getD ((iX.2.1.getD ((iX.2.2.2.length:Int).toNat) 0).toNat) []).length:Nat):Int)),(24,iV g1.1)],[adn 0 [adr 5 g4],adn 1 [au g1.2.2.1],adn 2 [zH g1.2.2.2.1,Yb g1.2.2.2.2.1,au g1.2.2.2.2.2.1,.int .u64 g1.2.2.2.2.2.2.1],adn 3 [.fn 148 [.ptr 0 0 0,.ptr 1 0 0,.ptr 2 0 0,.ptr 3 0 0]],adl 5 1 iV 0 g4],6⟩) ?_ (λ g4 m=>?_)
     · (conv=>whnf)
       refine bB m λ h32 m=>?_
       (conv=>whnf)
       exact⟨((g1.2.2.2.2.2.2.2.take (g1.2.1))++([((iX.2.2.1.gJ.getD ((iX.2.1.getD ((iX.2.2.2.length:Int).toNat) 0).toNat) []).getD g1.1.toNat 0)]:ag8)),[(5,some 126)],[],m,⟨rfl,⟨r2,r4,r4,r4,r2,sr,r2,r2,ag7⟩,⟨⟨⟨rfl,rfl,rfl,oz,nofun⟩,ag7⟩,⟨sr,ag7⟩,⟨sr,sr,sr,r2,ag7⟩,⟨⟨rfl,r4,r4,r4,r4,ag7⟩,ag7⟩,⟨rfl,oz,(iN oz (lC (f:=iV) (d:=0) (by first | omega | exact Nat.min_le_left _ _ | exact Nat.le_trans (Nat.min_le_left _ _) om | (simp;omega))) rfl (fK iV 0 [((iX.2.2.1.gJ.getD ((iX.2.1.getD ((iX.2.2.2.length:Int).toNat) 0).toNat) []).getD g1.1.toNat 0)]))⟩,ag7⟩⟩⟩
     (conv=>whnf)
     refine bB m λ h27 m=>?_
     (conv=>whnf)
     refine iJ m λ v3 hv3 m=>?_
     refine⟨_,_,(ih _ _ hv3),?_⟩
     (conv=>whnf)
     have h28:=m.1
     have m:=m.2
     refine jd m (λ c10 m=>?_) (λ c10 m=>?_)
     · (conv=>whnf)
       have m:r=(true,v3.2.1,v3.2.2.1,v3.2.2.2.1,v3.2.2.2.2):=m
       subst m
       refine⟨[],[(5,some 70)],?_⟩
       (conv=>whnf)
       exact⟨⟨rfl,ag7,⟨⟨aaI,ag7⟩,⟨sf,ag7⟩,⟨sf,sf,sf,r2,ag7⟩,⟨⟨rfl,r4,r4,r4,r4,ag7⟩,ag7⟩,abX,ag7⟩⟩,rfl⟩
     (conv=>whnf)
     refine bB m λ h29 m=>?_
     (conv=>whnf)
     refine bB m λ h30 m=>?_
     (conv=>whnf)
     refine bB m λ h31 m=>?_
     (conv=>whnf)
     exact⟨((g1.1+(1:Int)),(((v3.2.1:Nat):Int) - (1:Int)).toNat,v3.2.2.1,v3.2.2.2.1.gJ,v3.2.2.2.1.rT,v3.2.2.2.1.pJ,v3.2.2.2.1.vO,v3.2.2.2.2),[(5,some 70)],[],m,⟨rfl,⟨r2,r4,r4,r4,sr,r2,r2,ag7⟩,⟨⟨aaI,ag7⟩,⟨sf,ag7⟩,⟨sf,sf,sf,r2,ag7⟩,⟨⟨rfl,r4,r4,r4,r4,ag7⟩,ag7⟩,abX,ag7⟩⟩⟩
   (conv=>whnf)
   have m:r=(false,g1.2.1,g1.2.2.1,(⟨g1.2.2.2.1,g1.2.2.2.2.1,g1.2.2.2.2.2.1,g1.2.2.2.2.2.2.1⟩:fA),g1.2.2.2.2.2.2.2):=m
   subst m
   refine⟨[],[],?_⟩
   (conv=>whnf)
   exact⟨⟨rfl,ag7,⟨⟨aaI,ag7⟩,⟨sf,ag7⟩,⟨sf,sf,sf,r2,ag7⟩,⟨⟨rfl,r4,r4,r4,r4,ag7⟩,ag7⟩,abX,ag7⟩⟩,rfl⟩
def CG {aaW:Int} {o1_:ag8} {o2_:fA} {o4_:ag8} {r:Bool×Nat×ag8×fA×ag8} (m:lU aaW o1_ o2_ o4_ r):S 148 [.int .u64 aaW,.ptr 0 0 0,.ptr 1 0 0,.ptr 2 0 0,.ptr 3 0 0] [.box [adr 4 o4_],.box [au o1_],.box [zH o2_.gJ,Yb o2_.rT,au o2_.pJ,.int .u64 o2_.vO],.box [.fn 148 [.ptr 0 0 0,.ptr 1 0 0,.ptr 2 0 0,.ptr 3 0 0]],.row 1 o4_.length (bT iV 0 o4_)] (.bool r.1) [.box [.eO 5 0 r.2.1 false],.box [au r.2.2.1],.box [zH r.2.2.2.1.gJ,Yb r.2.2.2.1.rT,au r.2.2.2.1.pJ,.int .u64 r.2.2.2.1.vO],.box [.fn 148 [.ptr 0 0 0,.ptr 1 0 0,.ptr 2 0 0,.ptr 3 0 0]],apz,.row 1 r.2.2.2.2.length (bT iV 0 r.2.2.2.2)] :=by
 obtain⟨n,m⟩:=m;exact FM n (aaW,o1_,o2_,o4_) r m
def FN {x_:fA} {QK:ag8} {r:ag8×Bool} (m:qV x_ QK r):S 98 [aaM x_,au QK] [] (.kP [au r.1,.bool r.2]) [] :=sp Tryz.func98 rfl<|sn m λ _ m=>sb m λ v1 hv1 m=>cl ((CG hv1).le ⟨.refl _,.refl _,.refl _,.refl _,.refl _,ag7⟩ ⟨jv _,jv _,jv _,jv _,⟨rfl,rfl,(λ _ h=>absurd h (Nat.not_lt_zero _))⟩,ag7⟩)<|by
 have h2:=m.1;have m:=m.2;have m:r=((v1.2.2.2.2.take (v1.2.1)),v1.1):=m;subst m;refine⟨[120],[],?_⟩;(conv=>whnf);exact⟨⟨rfl,ag7,ag7⟩,(aal (by(conv=>whnf);exact⟨oz,(λ _=>rfl),nofun,(lC (f:=iV) (d:=0) (by first | omega | exact Nat.min_le_left _ _ | exact Nat.le_trans (Nat.min_le_left _ _) om | (simp;omega)))⟩) (aal (by first | ((conv=>whnf);exact rfl) | exact rfl) trivial))⟩
def J6 {n_:Int} {r:Nat×ag8} (m:pY n_ r):S 149 [acN,iV n_] [] (.eO 0 0 r.1 false) [.row 1 r.2.length (bT iV 0 r.2)] :=ZW [3] Tryz.func149 rfl<|ck [3] (qW n_) r (λ g1=>⟨[(0,acN),(1,iV n_)],[],0⟩) (by
 have c3:=m.1;have m:=m.2;refine UK (λ q=>Bool.noConfusion (c3.symm.trans q)) (λ _=>?_);(conv=>whnf);exact⟨(),[],[],m,⟨rfl,⟨sr,r2,ag7⟩,ag7⟩⟩) λ g1 m=>s2 m λ _ _ m=>si m (λ _ m=>s2 m λ _ _ m=>sn m λ _ m=>by cases m;exact rt [] [(0,some 120)]) λ _ m=>by cases m;exact rt [] [(0,none)]
def Li {jM:(List ag8)} {r:ag8} (m:rC jM r):S 100 [zH jM] [] (au r) [] :=sp Tryz.func100 rfl<|l0 m (λ g1=>⟨[(0,zH jM),(3,iV g1.1),(9,zH jM),(10,iV (jM.length:Int)),(11,iV g1.2)],[],0⟩) <|λ aj g1 m=>si m (λ _ m=>s2 m λ _ _ m=>by
 have c6:=m.1;have m:=m.2;refine UK (λ q=>Bool.noConfusion (c6.symm.trans q)) (λ _=>?_);refine sn m λ h9 m=>?_;(conv=>whnf);exact⟨((g1.1+(((jM.getD g1.2.toNat []).length:Nat):Int)),(g1.2+(1:Int))),[],[],m,⟨rfl,⟨sr,r2,sr,r2,r2,ag7⟩,ag7⟩⟩) λ _ m=>sq m J6 λ v1 m=>by
 have h10:=m.1;have m:=m.2;refine wB (ct:=[]) jh dk m (λ g2=>⟨[(6,.eO 0 0 g2.1 false),(25,zH jM),(26,iV (jM.length:Int)),(27,iV g2.2.1)],[adl 0 1 iV 0 g2.2.2],1⟩) [(0,some 16)] [] ⟨rfl,⟨aaI,sr,r2,r2,ag7⟩,⟨abX,ag7⟩⟩ ?_;intro dR g2 m;(conv=>whnf);have h20:=m.1;have m:=m.2;refine si m (λ c9 m=>?_) (λ c9 m=>?_)
 ·refine sn m λ h17 m=>sn m λ h18 m=>sn m λ h19 m=>?_;(conv=>whnf);exact⟨((g2.1+(jM.getD g2.2.1.toNat []).length),(g2.2.1+(1:Int)),((g2.2.2.take (g2.1))++(jM.getD g2.2.1.toNat []))),[(0,some 49)],[],m,⟨rfl,⟨aaI,sr,r2,r2,ag7⟩,⟨⟨rfl,oz,(iN oz (lC (f:=iV) (d:=0) (by first | omega | exact Nat.min_le_left _ _ | exact Nat.le_trans (Nat.min_le_left _ _) om | (simp;omega))) rfl am2)⟩,ag7⟩⟩⟩
 (conv=>whnf);have m:r=(g2.2.2.take (g2.1)):=m;subst m;refine⟨[0],[],?_⟩;(conv=>whnf);exact⟨⟨rfl,ag7,ag7⟩,⟨oz,(λ _=>rfl),nofun,(lC (f:=iV) (d:=0) (by first | omega | exact Nat.min_le_left _ _ | exact Nat.le_trans (Nat.min_le_left _ _) om | (simp;omega)))⟩⟩
def RH {l_:aiS} {bW:ag8} {r:ag8×Int} (m:oM p_ l_ bW r):S 49 [kU p_,gM l_,au bW] [] (.kP [au r.1,iV r.2]) [] :=sp Tryz.func49 rfl<|sq m Ug λ v1 m=>si m bR λ _ m=>sq m F9 λ v2 m=>sq m FN λ v3 m=>si m bR λ _ m=>sb m λ v4 hv4 m=>cl ((Li hv4).le ⟨(.sl rfl (λ _=>rfl) nofun (fK au [] [bW,v3.1])),ag7⟩ trivial)<|bD m
def FP {s_:aiX} {r:aiX} (m:mZ s_ r):S 102 [cK s_] [] (adr 0 r) [.row 3 r.length (bT kG bE r)] :=by
 obtain⟨h1,m⟩:=m;have m:r=s_:=m;subst m;refine nT (ct:=[1]) jh Tryz.func102 rfl rfl (Nat.le_of_ble_eq_true rfl) dk (Nat.le_of_ble_eq_true rfl) ?_;(conv=>whnf);refine aaJ (ct:=[]) jh (jh.slice (t:=39) (e:=57) rfl rfl rfl).1 dk dk dk dk dk [(2,acN),(0,cK r)] [] 8 rfl ?_ (λ hn=>?_) ?_
 ·exact rfl
 ·(conv=>whnf);have hn:r.length=0:=hn;refine⟨[],[(0,none)],?_⟩;(conv=>whnf);exact⟨⟨rfl,ag7,⟨hn,ag7⟩⟩,⟨rfl,rfl,rfl,rfl,rfl,hn⟩⟩
 (conv=>whnf);refine⟨by rw[Nat.zero_add];exact h1,?_⟩;(conv=>whnf);refine⟨[],[(0,some 24)],?_⟩;(conv=>whnf);exact⟨⟨rfl,ag7,⟨⟨rfl,Nat.zero_add _,iN (l:=[]) rfl (λ _ h=>absurd h (Nat.not_lt_zero _)) rfl am2⟩,ag7⟩⟩,⟨rfl,rfl,rfl,Nat.zero_add _,nofun⟩⟩
def abR {r:aO} (m:QM g_ r):S 51 [iT g_] [] (iT r) [] :=sp Tryz.func51 rfl<|sq m kZ λ v1 m=>sq m Qj λ v2 m=>sq m FP λ v3 m=>sq m qo λ v4 m=>sq m qo λ v5 m=>by cases m;exact rt [32,80,104,128] []
def Hr {aV:Int} {r:aO×Int×Int} (m:xV b_ l_ ah g_ aV r):S 13 [iO b_,cO l_,au ah,iT g_,iV aV] [] (.kP [iT r.1,iV r.2.1,iV r.2.2]) [] :=ZW [13] Tryz.func13 rfl<|sq m yQ λ v1 m=>si m bR λ _ m=>sq m gq λ v2 m=>si m bR λ _ m=>ck [13] (zL b_ l_ ah aV) r (λ g2=>⟨[(1,cO l_),(2,au ah),(4,iV aV),(5,.ptr 0 0 0),(10,.ptr 1 0 0),(14,cK g2)],[adn 0 [bA b_.bS,bf b_.bF,iV b_.aT.bU,bn b_.aT.av,dn b_.aZ,bX b_.dz],adn 1 [acN,acN,acN,acN,acN,acN]],2⟩) (SG [13] m (λ g4=>⟨[(1,cO l_),(2,au ah),(4,iV aV),(5,.ptr 0 0 0),(10,.ptr 1 0 0),(14,adr 2 g4.2),(41,cK g_.dK),(42,iV (g_.dK.length:Int)),(43,iV g4.1)],[adn 0 [bA b_.bS,bf b_.bF,iV b_.aT.bU,bn b_.aT.av,dn b_.aZ,bX b_.dz],adn 1 [acN,acN,acN,acN,acN,acN],adl 2 3 kG bE g4.2],3⟩) [(1,some 16),(2,none)] [] <|λ jA g4 m=>si m (λ _ m=>sn m λ _ m=>sq m gq λ v16 m=>si m (λ _ m=>s2 m λ _ _ m=>lc [(2,some 99)] [] m) λ _ m=>sn m λ _ m=>le m) λ _ m=>lc [] [2] m) λ g2 m=>sq m kZ λ v6 m=>sn m λ _ m=>sb m λ v7 hv7 m=>cl ((oV hv7).le ⟨.refl _,.refl _,(.sl oz (λ _=>rfl) nofun (iN rfl am2 rfl (fK iV 0 [aV]))),.refl _,ag7⟩ trivial)<|si m bR λ _ m=>sn m λ _ m=>sq m Xy λ v8 m=>sq m RH λ v9 m=>si m bR λ _ m=>sn m λ _ m=>lfe [13] m (λ g3=>⟨[(4,iV aV),(5,.ptr 0 0 0),(10,.ptr 1 0 0),(17,.ptr 2 0 0),(20,gM v8.1),(21,au v8.2),(99,au g3.1),(100,iV (((v9.1.length - (v8.2.length:Int).toNat):Nat):Int)),(101,iV g3.2.1)],[adn 0 [bA b_.bS,bf b_.bF,iV b_.aT.bU,bn b_.aT.av,dn b_.aZ,bX b_.dz],adn 1 [acN,acN,acN,acN,acN,acN],adn 2 [au v7.1,aQ v7.2.1,au v7.2.2.1,adr 3 g3.2.2,aQ v7.2.2.2.1,aQ v7.2.2.2.2.1],adl 3 3 kG bE g3.2.2],4⟩) [(2,some 106),(3,some 66)] [] ⟨rfl,⟨r2,r4,r4,r4,sr,sr,⟨oz,(λ _=>rfl),nofun,(akq (a:=(v8.2.length:Int).toNat) (N:=v9.1.length) am2 (by first | omega | (simp;omega)))⟩,r2,r2,ag7⟩,⟨⟨sr,sr,r2,sr,sr,sr,ag7⟩,⟨sr,sr,sr,sr,sr,sr,ag7⟩,⟨sr,sr,sr,aaI,sr,sr,ag7⟩,abX,ag7⟩⟩ <|λ jO g3 m=>si m (λ _ m=>s2 m λ _ _ m=>s2 m λ _ _ m=>sq m uY λ v12 m=>s2 m λ _ _ m=>lc [(3,some 244)] [] m) λ _ m=>sq m abR λ v13 m=>bD m
def Iy {r:ag8} (m:CV dN r):S 47 [.eO 0 0 dN.length true] [.row 1 dN.length (bT iV 0 dN)] (adr 1 r) [.row 1 dN.length (bT iV 0 dN),.row 1 r.length (bT iV 0 r)] :=by
 obtain⟨h1,m⟩:=m;have m:r=dN:=m;subst m;refine nT (ct:=[1]) jh Tryz.func47 rfl rfl (Nat.le_of_ble_eq_true rfl) dk (Nat.le_of_ble_eq_true rfl) ?_;(conv=>whnf);refine Tf (ct:=[]) jh (jh.slice (t:=22) (e:=3) rfl rfl rfl).1 dk dk dk dk dk [(2,acN),(0,.eO 0 0 r.length true)] [adl 0 1 iV 0 r] 9 rfl rfl ?_ (λ hn=>?_) ?_
 ·exact rfl
 ·(conv=>whnf);have hn:r.length=0:=hn;refine⟨[],[(1,none)],?_⟩;(conv=>whnf);exact⟨⟨rfl,ag7,⟨⟨rfl,rfl,λ _ _=>.refl _⟩,hn,ag7⟩⟩,⟨rfl,rfl,rfl,rfl,rfl,hn⟩⟩
 (conv=>whnf);refine⟨by rw[Nat.zero_add];exact h1,?_⟩;(conv=>whnf);refine⟨[],[(1,some 25)],?_⟩;(conv=>whnf);exact⟨⟨rfl,ag7,⟨⟨rfl,rfl,λ _ _=>.refl _⟩,⟨rfl,Nat.zero_add _,iN (l:=[]) rfl (λ _ h=>absurd h (Nat.not_lt_zero _)) rfl am2⟩,ag7⟩⟩,⟨rfl,rfl,rfl,Nat.zero_add _,nofun⟩⟩
def Dj {m_:Int} {qw:Int} (m:EO m_ qw r):S 76 [iV m_,.ro [iV qw]] [] (.bool r) [] :=sp Tryz.func76 rfl<|bD m
def CJ {f_:Int} {r:Int} (m:lV s_ f_ r):S 130 [au s_,.fn 76 [.ro [iV f_]]] [] (iV r) [] :=sp Tryz.func130 rfl<|l0 m (λ g1=>⟨[(0,au s_),(1,.fn 76 [.ro [iV f_]]),(7,iV (s_.length:Int)),(8,iV g1)],[],0⟩) <|λ aj g1 m=>aly m (λ m=>sq m Dj λ v3 m=>si m bR λ _ m=>ak3 m λ m=>le m) abY
def tu {afZ:Int} {r:Nat×ag8} (m:kI afZ dN r):S 75 [adr 0 dN,.fn 76 [.ro [iV afZ]]] [.row 1 dN.length (bT iV 0 dN)] (.eO 0 0 r.1 false) [.row 1 r.2.length (bT iV 0 r.2)] :=sp Tryz.func75 rfl<|sq m CJ λ v1 m=>si m bR λ _ m=>sn m λ _ m=>l0 m (λ g1=>⟨[(0,adr 0 g1.2.2),(1,.fn 76 [.ro [iV afZ]]),(5,iV g1.1),(6,iV g1.2.1)],[adl 0 1 iV 0 g1.2.2],1⟩) <|λ aj g1 m=>si m (λ _ m=>sn m λ _ m=>sq m Dj λ v4 m=>si m (λ _ m=>s2 m λ _ _ m=>sn m λ _ m=>le m) λ _ m=>sn m λ _ m=>le m) λ _ m=>s2 m λ _ _ m=>by cases m;exact rt [] [] (by(conv=>whnf);exact⟨⟨rfl,ag7,⟨⟨rfl,oz,(ad8 rfl am2 oz (UL iV 0))⟩,ag7⟩⟩,aaI⟩)
def VY {aV:Int} {r:aO×Int} (m:UR b_ l_ g_ aV dN r):S 32 [iO b_,cO l_,.eO 0 0 dN.length true,iT g_,iV aV] [.row 1 dN.length (bT iV 0 dN)] (.kP [iT r.1,iV r.2]) [.row 1 dN.length (bT iV 0 dN)] :=sp Tryz.func32 rfl<|sb m λ v1 hv1 m=>cl ((yQ hv1).le ⟨.refl _,.refl _,(.sl rfl (λ _=>rfl) nofun am2),.refl _,.refl _,ag7⟩ trivial)<|si m bR λ _ m=>sb m λ v2 hv2 m=>cl ((gq hv2).le ⟨(.sl rfl (λ _=>rfl) nofun am2),.refl _,ag7⟩ trivial)<|si m bR λ _ m=>sq m Iy λ v3 m=>sq m tu λ v4 m=>by
 have h1:=m.1;have m:=m.2;refine sb m λ v5 hv5 m=>cl ((oV hv5).le ⟨.refl _,.refl _,(.sl oz (λ _=>rfl) nofun (lC (f:=iV) (d:=0) (by first | omega | exact Nat.min_le_left _ _ | exact Nat.le_trans (Nat.min_le_left _ _) om | (simp;omega)))),.refl _,ag7⟩ trivial)<|?_;(conv=>whnf);have m:r=((⟨v5.1,(⟨v5.2.1,v5.2.2.1⟩:bZ),v5.2.2.2.2.2.2.2,v5.2.2.2.1,v5.2.2.2.2.1⟩:aO),v5.2.2.2.2.2.2.1):=m;subst m;refine⟨[225],[],?_⟩;(conv=>whnf);exact⟨⟨rfl,ag7,⟨abX,ag7⟩⟩,(aal (aal aag (aal aag (aal aag (aal aag (aal aag (aal aag trivial)))))) (aal (by first | ((conv=>whnf);exact r2) | exact r2) trivial))⟩
def Nf  {r:Bool} (m:EP r):S 9 [] [] (.bool r) [] :=sp Tryz.func9 rfl<|sb m λ v1 hv1 m=>cl ((Nb hv1).le ⟨(Le.Ez ⟨abZ,abZ,(.refl _),abZ,abZ,abZ,ag7⟩),ag7⟩ trivial)<|sb m λ v2 hv2 m=>cl ((Hr hv2).le ⟨(Le.Ez ⟨abZ,abZ,(.refl _),abZ,abZ,abZ,ag7⟩),(.sl rfl (λ _=>rfl) nofun (uO (Le.Ez ⟨abZ,abZ,abZ,abZ,(.refl _),abZ,ag7⟩) (λ _ h=>absurd h (Nat.not_lt_zero _)))),abZ,.refl _,.refl _,ag7⟩ trivial)<|sb m λ v3 hv3 m=>cl ((VY hv3).le ⟨(Le.Ez ⟨abZ,abZ,(.refl _),abZ,abZ,abZ,ag7⟩),(.sl rfl (λ _=>rfl) nofun (uO (Le.Ez ⟨abZ,abZ,abZ,abZ,(.refl _),abZ,ag7⟩) (λ _ h=>absurd h (Nat.not_lt_zero _)))),.refl _,.refl _,.refl _,ag7⟩ ⟨⟨rfl,rfl,(fK iV 0 [(0:Int)])⟩,ag7⟩)<|si m (λ _ m=>si m (λ _ m=>sb m λ v4 hv4 m=>cl (λ q0=>((Ac (hv4 q0)).le ⟨(Le.Ez ⟨abZ,abZ,(.refl _),abZ,abZ,abZ,ag7⟩),(.sl rfl (λ _=>rfl) nofun (uO (Le.Ez ⟨abZ,abZ,abZ,abZ,(.refl _),abZ,ag7⟩) (λ _ h=>absurd h (Nat.not_lt_zero _)))),(.sl rfl (λ _=>rfl) nofun (fK iV 0 [(0:Int)])),.refl _,ag7⟩ trivial))<|bD m) λ c2 m=>by
 refine⟨.bool false,[],(λ q0=>absurd q0 (vac c2)),?_⟩;(conv=>whnf);have m:r=(((((v1.2==(0:Int))&&(v2.2.2==(0:Int)))&&(v2.2.1==(0:Int)))&&(v3.2==(0:Int)))&&false):=m;subst m;refine⟨[],[],?_⟩;(conv=>whnf);exact⟨⟨rfl,ag7,ag7⟩,rfl⟩) λ c1 m=>si m (λ _ m=>by
 refine⟨.bool false,[],(λ q0=>absurd q0 (vac c1)),?_⟩;(conv=>whnf);have m:r=(((((v1.2==(0:Int))&&(v2.2.2==(0:Int)))&&(v2.2.1==(0:Int)))&&(v3.2==(0:Int)))&&false):=m;subst m;refine⟨[],[],?_⟩;(conv=>whnf);exact⟨⟨rfl,ag7,ag7⟩,rfl⟩) λ _ m=>by
 refine⟨.bool false,[],(λ q0=>absurd q0 (vac c1)),?_⟩;(conv=>whnf);have m:r=(((((v1.2==(0:Int))&&(v2.2.2==(0:Int)))&&(v2.2.1==(0:Int)))&&(v3.2==(0:Int)))&&false):=m;subst m;refine⟨[],[],?_⟩;(conv=>whnf);exact⟨⟨rfl,ag7,ag7⟩,rfl⟩
def abS {l_:ag8} {r:ag8×Int} (m:QN l_ r):S 10 [au l_] [] (.ptr 0 0 0) [.box [au r.1,iV r.2]] :=sp Tryz.func10 rfl<|sn m λ _ m=>by cases m;exact rt [] [(0,some 56)]
def abT {n_:Int} {r:Int} (m:QO x_ n_ r):S 70 [iV x_,iV n_] [] (iV r) [] :=sp Tryz.func70 rfl<|si m bR λ _ m=>ak4 m λ m=>sn m bR
def bJ {n_:Int} {dN:dI} {r:Int×dI} (m:dP n_ dN r):S 30 [.ptr 0 0 0,iV n_] [.box [au dN.L,iV dN.At]] (iV r.1) [.box [au r.2.L,iV r.2.At]] :=sp Tryz.func30 rfl<|si m bR λ _ m=>ak4 m λ m=>ak3 m λ m=>sq m abT λ v1 m=>bD m
def fM {l_:ag8} {dN:dI} {r:Int×dI} (m:gK l_ dN r):S 56 [.ptr 0 0 0,au l_] [.box [au dN.L,iV dN.At]] (iV r.1) [.box [au r.2.L,iV r.2.At]] :=sp Tryz.func56 rfl<|sq m bJ λ v1 m=>sn m bR
def ND {dN:dI} {r:ah3×dI} (m:tT dN r):S 79 [.ptr 0 0 0] [.box [au dN.L,iV dN.At]] (bA r.1) [.box [au r.2.L,iV r.2.At]] :=ZW [20,22] Tryz.func79 rfl<|sq m bJ λ v1 m=>SG [20,22] m (λ g1=>⟨[(0,.ptr 0 0 0),(3,adr 1 g1.2.2.2),(4,iV g1.1)],[adn 0 [au g1.2.1,iV g1.2.2.1],adl 1 5 EA aL g1.2.2.2],2⟩) [(1,none)] [] <|λ aj g1 m=>si m (λ _ m=>sb m λ v28 hv28 m=>cl ((fM hv28).le ⟨.refl _,(.sl rfl (λ _=>rfl) nofun (fK iV 0 [(12:Int),(24:Int),(48:Int),(100:Int)])),ag7⟩ ⟨jv _,ag7⟩)<|ck [20,22] (eP g1 aj) r (λ g7=>⟨[(0,.ptr 0 0 0),(3,adr 1 g1.2.2.2),(4,iV g1.1),(5,.ptr 2 0 0)],[adn 0 [au g7.1,iV g7.2.1],adl 1 5 EA aL g1.2.2.2,adn 2 [iV g7.2.2.1,adr 3 g7.2.2.2.2.1,adr 4 g7.2.2.2.2.2,iV (0:Int),iV g7.2.2.2.1],adl 3 1 iV 0 g7.2.2.2.2.1,adl 4 1 iV 0 g7.2.2.2.2.2],5⟩) (si m (λ _ m=>sq m bJ λ v41 m=>si m (λ _ m=>sq m bJ λ v42 m=>ck [20,22] (gQ g1 aj) r (λ g8=>⟨[(0,.ptr 0 0 0),(3,adr 1 g1.2.2.2),(4,iV g1.1),(5,.ptr 2 0 0),(25,iV v41.1)],[adn 0 [au g8.1,iV g8.2.1],adl 1 5 EA aL g1.2.2.2,adn 2 [iV g8.2.2.1,adr 3 g8.2.2.2.1,adr 4 g8.2.2.2.2,iV (0:Int),iV (0:Int)],adl 3 1 iV 0 g8.2.2.2.1,adl 4 1 iV 0 g8.2.2.2.2],5⟩) (sq m bJ λ v49 m=>si m (λ _ m=>sb m λ v50 aec m=>cl ((fM aec).le ⟨.refl _,(.sl rfl (λ _=>rfl) nofun (fK iV 0 [(3:Int),(4:Int),(8:Int)])),ag7⟩ ⟨jv _,ag7⟩)<|lc [(2,some 58),(3,some 178),(4,some 258)] [] m) λ _ m=>si m (λ _ m=>sb m λ v51 aq9 m=>cl ((fM aq9).le ⟨.refl _,(.sl rfl (λ _=>rfl) nofun (fK iV 0 [(2:Int),(3:Int)])),ag7⟩ ⟨jv _,ag7⟩)<|lc [(2,some 58),(3,some 178),(4,some 274)] [] m) λ _ m=>si m (λ _ m=>lc [(2,some 58),(3,some 178),(4,some 266)] [] m) λ _ m=>si m (λ _ m=>sn m λ _ m=>sq m bJ λ v52 m=>sn m λ _ m=>lc [(2,some 58),(3,some 346),(4,some 354)] [] m) λ _ m=>lc [(2,some 58),(3,some 178),(4,some 282)] [] m) λ g8 m=>sq m bJ λ v47 m=>si m (λ _ m=>sb m λ v48 aa1 m=>cl ((fM aa1).le ⟨.refl _,(.sl rfl (λ _=>rfl) nofun (fK iV 0 [(24:Int),(48:Int),(96:Int)])),ag7⟩ ⟨jv _,ag7⟩)<|le m) λ _ m=>le m) λ _ m=>lc [(2,some 58),(3,none),(4,some 42)] [] m) λ c37 m=>by
 refine⟨(λ q0=>absurd q0 (vac c37)),?_⟩;refine sn m λ h28 m=>?_;(conv=>whnf);exact⟨(v28.2.L,v28.2.At,(1:Int),(0:Int),([]:ag8),([v28.1]:ag8)),[(2,some 58),(3,none),(4,some 42)],[],m,⟨rfl,⟨r4,aaI,r2,r4,ag7⟩,⟨⟨sf,r2,ag7⟩,abX,⟨r2,⟨rfl,rfl,rfl,rfl,rfl,rfl⟩,aaI,r2,r2,ag7⟩,rfl,⟨rfl,rfl,(fK iV 0 [v28.1])⟩,ag7⟩⟩⟩) λ g7 m=>s2 m λ _ _ m=>lc [(1,some 29)] [] m) λ _ m=>by cases m;exact rt [1] []
end Go.Proofs.YtccjmcmolnbiiaaGreatDoor

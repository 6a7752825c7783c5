/-
  Proved: the law bringuplaw35.PassageSafe returns true at every input and leaves its argument as it was; the card ties the package variable clock.off to the program's text. No condition beyond the card's own.
-/
import Derived.Test.YtifekdmmpbcdgaaGreatDoorA11
set_option linter.defProp false
set_option linter.unusedVariables false
set_option linter.unusedSimpArgs false
set_option maxHeartbeats 4000000
namespace Go.Proofs.YtifekdmmpbcdgaaGreatDoor.passageSafe
open Go.ChangeShapes Go.WideShapes Go.ChangeAt Go.RowKit
open Go.Ab
set_option maxRecDepth 100000
def spec (l:apU):S 3 [aq l] [] (.bool true) []:=by
 obtain⟨r,h1,h2⟩:=Hi (t:=l);subst h2;exact Cz h1
theorem contract (H:Type) (enc:TypeId×Value->H) (W:World) (base:Nat) (args:Array Value) (ds gs:List (DataW H)) (before:List MemPlace)
  (hval:∀(j:Nat) t v,Tryz.f3.params[j]? = some t->args[j]? = some v->Value.okWide Tryz.prog W .any base t v)
  (hW:DataW.Whole enc Tryz.prog Tryz.f3.params.toList Rows.passageSafeSpec.vars false W args.toList ds gs before) (hL:laidMetH Tryz.prog Rows.passageSafeRow.laid W):
  Calls Tryz.prog 3 args W λ e W'=>∃v,e=.returned v/\Rows.passageSafeSpec.post enc Tryz.prog Tryz.f3 false true false false W args v W':=by
 have hW':=hW;obtain⟨p,q,hA0,hV,rfl,hfz,hnd⟩:=hW;have hA:DataW.TrodAll enc Tryz.prog W 0 (λ _=>true) true Tryz.f3.params.toList args.toList ds p:=hA0;rw[Tryz.params3]at hA hval;obtain⟨v0,d0,rfl,rfl,h0⟩:=trodAll_one hA;obtain⟨rfl,rfl⟩:=trodVars_none hV;have h0k:=h0;obtain⟨l,hl,hr⟩:=Xc (hval 0 22 v0 rfl rfl) h0;clear hA0;simp only[aiN]at hW';have hlt:∀x∈p,x.block<W.heap.size:=λ x hx=>by simpa using hW'.lt x hx
 refine(ae8 (spec l) hL rfl (λ j hj=>?_)).mono λ e W' ⟨he,hb⟩=>?_
 ·match j,hj with
  | 0,_=>exact hr
 subst he;refine⟨_,rfl,[d0],[],p,[],p,[],hW',trodAll_mk1 (shut_bool Tryz.underlying4 _),?_,rfl,hb.frame _,λ h=>by cases h⟩;rw[Tryz.params3];exact trodAll_mk1 (Below.trod laidOut (by kernel_rfl) (afj (by kernel_rfl)) h0k hb hlt)
noncomputable def Mc (os:Os):World:=
 { World.holding Tryz.prog os ⟨#[],#[],[]⟩with heap:=(World.holding Tryz.prog os ⟨#[],#[],[]⟩).heap.modify 0 λ
   | .cells _ t frozen=>.cells #[.int .i64 0,.int .i64 1] t frozen
   | o=>o }
def adb (os:Os):laidMet Tryz.prog Rows.passageSafeRow.laid ((Mc os).forCall (λ _ _=>0) ⟨#[],#[.slice none 0 0],[]⟩).memory:=
 laidMet_of_run' 8 (by kernel_rfl) (by kernel_rfl)
def reads (os:Os) {H:Type} (enc:TypeId×Value->H):∃places,DataW.whole enc Tryz.prog ((Mc os).forCall (λ _ _=>0) ⟨#[],#[.slice none 0 0],[]⟩).memory Tryz.f3.params.toList Rows.passageSafeSpec.vars false #[Value.slice none 0 0].toList 8=some ([.nil],[],places):=
 ⟨[],by kernel_rfl⟩
def lifted (os:Os) (started:os.Started) (H:Type) (enc:TypeId×Value->H) (F:Stop.Interp):
  ReturnsInHanded {} Tryz.checked os 3 .any ((OpenSpec.ofChange Rows.passageSafeSpec).preRow enc Tryz.prog Tryz.f3 Rows.passageSafeRow.domain false Rows.passageSafeRow.laid) (((OpenSpec.ofChange Rows.passageSafeSpec).at F).post enc Tryz.prog Tryz.f3 false true false false):=by
 obtain⟨places,hx⟩:=reads os enc;refine returnsInHanded_of_row (C:=Tryz.checked) (s:=OpenSpec.ofChange Rows.passageSafeSpec) own started (by kernel_rfl) Tryz.func3
  (witness_row_at (enc:=enc) (C:=Tryz.checked) false (Mc os) #[.slice none 0 0] rfl (by kernel_rfl) (by kernel_rfl) (by kernel_rfl)
    (OpenSpec.preRow_of_cond 8 hx (by kernel_rfl) (λ k hk=>by cases hk) (by kernel_rfl) (adb os))) ?_
 intro W base args ds gs before hval hW _ _ _ hL _ _;exact contract H enc W base args ds gs before hval hW hL
def said:Rows.PassageSafeSaid:=
 OpenClaim.holds_of_cond 3 Tryz.f3 rfl rfl rfl rfl rfl rfl rfl ⟨rfl,rfl,rfl,rfl,rfl⟩ rfl rfl rfl rfl rfl (by kernel_rfl) Tryz.func3 (by kernel_rfl)
  (afj (by kernel_rfl)) (by unfold Func.isWrapper;first | (rw[afc (by decide +kernel)];kernel_rfl) | (rw[aeV (by decide +kernel)];exact⟨rfl,rfl⟩))
  (λ os started H enc _ F=>by rw[OpenClaim.pre_eq_preRow];exact lifted os started H enc F)
def plain (f:FuncId) (fn:Func) (hf:Tryz.pinned.checked.prog.funcNamed "bringup/bringuplaw35.PassageSafe" = some f) (hfn:Tryz.pinned.checked.prog.funcs[f]? = some fn):
  false=Tryz.pinned.checked.prog.looks []/\∀(j:Nat) t,fn.params[j]? = some t->Tryz.pinned.checked.prog.wantsStandIn t=false:=by
 obtain rfl:f=3:=ah1 ((show Tryz.prog.funcNamed "bringup/bringuplaw35.PassageSafe" = some 3 by kernel_rfl).symm.trans hf) |>.symm;obtain rfl:fn=Tryz.f3:=(ah1 (Tryz.func3.symm.trans hfn)).symm;refine⟨by kernel_rfl,λ j t ht=>?_⟩;rw[Tryz.params3]at ht;have ht:t∈#[22]:=apc ht;simp at ht;subst ht;exact(show Tryz.prog.wantsStandIn 22=false by kernel_rfl)
end Go.Proofs.YtifekdmmpbcdgaaGreatDoor.passageSafe
namespace Go.Proofs.YtifekdmmpbcdgaaGreatDoor
open Go.Ab
set_option maxRecDepth 100000
theorem passageSafe_card:Rows.PassageSafeCardSaid:=
 Claim7.holds_tied_plain_at .later [] _ _ _ _ passageSafe.said (λ _ h=>by cases h) (by kernel_rfl) (λ _ h=>by cases h) passageSafe_row_tie rfl ⟨rfl,rfl⟩ (by kernel_rfl) rfl passageSafe.plain (by kernel_rfl)
end Go.Proofs.YtifekdmmpbcdgaaGreatDoor

/-
  Proved: the law bringuplaw33.GrantExact returns true, and leaves its arguments as they were, at every input whose bulk is at most the second form's bound; the card ties the package variable clock.off to the program's text.
-/
import Derived.Test.YtccjmcmolnbiiaaGreatDoorA11
set_option linter.defProp false
set_option linter.unusedVariables false
set_option linter.unusedSimpArgs false
set_option maxHeartbeats 20000000
namespace Go.Proofs.YtccjmcmolnbiiaaGreatDoor.grantExact
open Go.ChangeShapes Go.WideShapes Go.ChangeAt Go.RowKit
open Go.Ab
set_option maxRecDepth 100000
set_option linter.unusedVariables false
set_option linter.unusedSimpArgs false
def said:Rows.GrantExactUptoSaid:=
 OpenClaim.holds_of_cond 5 Tryz.f5 rfl rfl rfl rfl rfl rfl rfl ⟨rfl,rfl,rfl,rfl,rfl⟩ rfl rfl rfl rfl rfl (by kernel_rfl) Tryz.func5 (by kernel_rfl)
  inst (by unfold Func.isWrapper;first | (rw[if_pos (by decide +kernel)];kernel_rfl) | (rw[if_neg (by decide +kernel)];exact⟨rfl,rfl⟩))
  (λ os started H enc _ F=>by rw[OpenClaim.pre_eq_preRow];exact lifted os started H enc F)
def plain (f:FuncId) (fn:Func) (hf:Tryz.pinned.checked.prog.funcNamed "bringup/bringuplaw33.GrantExact" = some f) (hfn:Tryz.pinned.checked.prog.funcs[f]? = some fn):
  false=Tryz.pinned.checked.prog.looks []/\∀(j:Nat) t,fn.params[j]? = some t->Tryz.pinned.checked.prog.wantsStandIn t=false:=by
 obtain rfl:f=5:=Option.some.inj ((show Tryz.prog.funcNamed "bringup/bringuplaw33.GrantExact" = some 5 by kernel_rfl).symm.trans hf) |>.symm;obtain rfl:fn=Tryz.f5:=(Option.some.inj (Tryz.func5.symm.trans hfn)).symm;refine⟨by kernel_rfl,λ j t ht=>?_⟩;rw[Tryz.params5]at ht;have ht:t∈#[22,34,35,41,22,3]:=Array.mem_of_getElem? ht;simp at ht;rcases ht with rfl | rfl | rfl | rfl | rfl | rfl
 ·exact(show Tryz.prog.wantsStandIn 22=false by kernel_rfl)
 ·exact(show Tryz.prog.wantsStandIn 34=false by kernel_rfl)
 ·exact(show Tryz.prog.wantsStandIn 35=false by kernel_rfl)
 ·exact(show Tryz.prog.wantsStandIn 41=false by kernel_rfl)
 ·exact(show Tryz.prog.wantsStandIn 22=false by kernel_rfl)
 exact(show Tryz.prog.wantsStandIn 3=false by kernel_rfl)
end Go.Proofs.YtccjmcmolnbiiaaGreatDoor.grantExact
namespace Go.Proofs.YtccjmcmolnbiiaaGreatDoor
open Go.Ab
set_option maxRecDepth 100000
theorem grantExact_card:Rows.GrantExactUptoCardSaid:=
 Claim7.holds_tied_plain_at .later [] _ _ _ _ grantExact.said (λ _ h=>by cases h) (by kernel_rfl) (λ _ h=>by cases h) grantExactUpto_row_tie rfl ⟨rfl,rfl⟩ (by kernel_rfl) rfl grantExact.plain (by kernel_rfl)
end Go.Proofs.YtccjmcmolnbiiaaGreatDoor

/-
  Proved: the law bringuplaw34.RefusalCircles returns true at every input and leaves its arguments as they were; the card ties the package variable clock.off to the program's text. No condition beyond the card's own.
-/
import Derived.Test.YtnbjfoeapbncjaaGreatDoorA9
set_option maxHeartbeats 20000000
set_option linter.unusedVariables false
set_option linter.unusedSimpArgs false
namespace Go.Proofs.YtnbjfoeapbncjaaGreatDoor.refusalCircles
open Go.ChangeShapes Go.WideShapes Go.ChangeAt Go.RowKit
open Go.Ab
set_option maxRecDepth 100000
theorem said:Rows.RefusalCirclesSaid:=
 OpenClaim.holds_of_cond 3 Tryz.f3 rfl rfl rfl rfl rfl rfl rfl ⟨rfl,rfl,rfl,rfl,rfl⟩ rfl rfl rfl rfl rfl (by kernel_rfl) Tryz.func3 (by kernel_rfl)
  inst (by unfold Func.isWrapper; first | (rw [if_pos (by decide +kernel)]; kernel_rfl) | (rw [if_neg (by decide +kernel)]; exact ⟨rfl,rfl⟩))
  (λ os started H enc _ F=>by rw [OpenClaim.pre_eq_preRow]; exact lifted os started H enc F)
theorem plain (f:FuncId) (fn:Func) (hf:Tryz.pinned.checked.prog.funcNamed "bringup/bringuplaw34.RefusalCircles" = some f) (hfn:Tryz.pinned.checked.prog.funcs[f]? = some fn):
  false=Tryz.pinned.checked.prog.looks []∧∀(j:Nat) t,fn.params[j]? = some t→Tryz.pinned.checked.prog.wantsStandIn t=false:=by
 obtain rfl:f=3:=Option.some.inj ((show Tryz.prog.funcNamed "bringup/bringuplaw34.RefusalCircles" = some 3 by kernel_rfl).symm.trans hf) |>.symm;obtain rfl:fn=Tryz.f3:=(Option.some.inj (Tryz.func3.symm.trans hfn)).symm;refine ⟨by kernel_rfl,λ j t ht=>?_⟩;rw [Tryz.params3] at ht;have ht:t∈#[22,23,5]:=Array.mem_of_getElem? ht;simp at ht;rcases ht with rfl | rfl | rfl
 ·exact (show Tryz.prog.wantsStandIn 22=false by kernel_rfl)
 ·exact (show Tryz.prog.wantsStandIn 23=false by kernel_rfl)
 ·exact (show Tryz.prog.wantsStandIn 5=false by kernel_rfl)
end Go.Proofs.YtnbjfoeapbncjaaGreatDoor.refusalCircles
namespace Go.Proofs.YtnbjfoeapbncjaaGreatDoor
open Go.Ab
set_option maxRecDepth 100000
theorem refusalCircles_card:Rows.RefusalCirclesCardSaid:=
 Claim7.holds_tied_plain_at .later [] _ _ _ _ refusalCircles.said (λ _ h=>by cases h) (by kernel_rfl) (λ _ h=>by cases h) refusalCircles_row_tie rfl ⟨rfl,rfl⟩ (by kernel_rfl) rfl refusalCircles.plain (by kernel_rfl)
end Go.Proofs.YtnbjfoeapbncjaaGreatDoor

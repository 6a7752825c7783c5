/-
  NARROWER THAN 'FOR EVERY INPUT', by the rows' own cells (each row's printed sentence says how): PassageSafe: laid · PassageFails: laid · PassageBoth: laid · PassageLeast: laid.
  DERIVED. THE GIVEN ROWS OF THIS SEAT. 4 by the template 'for every input the law returns true; each argument reads behind the call as it read before'; 0 by the template 'total and deterministic' (their statements: YtifekdmmpbcdgaaGreatDoorTotals.lean).
  GIVEN WITH THE SEED: the statements are not yours to turn. If you find one false, say at which input.
  Laid BY PROGRAM, IN A SANDBOX (cutbox-rows.mjs): the forced cells as the released guide's own fill.sh prints them over the translation 4ab897f0f1e19f58… (all of the seat's roots in one cut). By AI agents, Wed Nov 11 2026. No macro, syntax, notation, axiom, sorry.
-/
import Derived.Test.YtifekdmmpbcdgaaGreatDoorChecked
import GoSem.Claim
import GoSem.ClaimJoined
import GoSem.ClaimMapViews
import Derived.JoinedTies
import Derived.KernelRfl
namespace Go.Proofs.YtifekdmmpbcdgaaGreatDoor
/- THE CELL 'sum', in the pinned program and in every row, IS THE sha256 OF THE DUMP (.gsa) THAT YtifekdmmpbcdgaaGreatDoorProg.lean LOADS. Nothing in Lean hashes anything: it is a label: what it is worth is what the hold of that sum in a sandbox is worth. -/
noncomputable def Tryz.pinned : Pinned := { name := "ytifekdmmpbcdgaagreatdoor", sum := "4ab897f0f1e19f58bb17138694cd2faee1fdef598cacbfc737c7be1a936e5ea8", checked := Tryz.checked }
namespace Rows
def none {H : Type} : Left H := { results := [], args := [] }

/- WHAT THE LISTED PACKAGE-LEVEL VARIABLES READ AS WHEN THE CALL BEGINS. Each datum BY PROGRAM (the guide's laid-datum.mjs) off the statement by which the dump's own 'gosem.cut.vars' lays the variable. In a bare row this is a premise. The card (YtifekdmmpbcdgaaGreatDoorCards.lean) ties it to the program's text. -/
def laid_bringup_clock_off {H : Type} : DataW H := .agg [.lit (.int .i64 0), .lit (.int .i64 1)]

/-- 'bringuplaw35.PassageSafe': WHATEVER THE INPUT: true; the input reads as it did. -/
def passageSafeSpec : ChangeSpec := { name := "passageSafe", fn := fun _ => fun
  | [d] => { results := [.lit (.bool true)], args := [d] }
  | _ => none }
def passageSafeRow : OpenClaim := { program := "ytifekdmmpbcdgaagreatdoor", sum := "4ab897f0f1e19f58bb17138694cd2faee1fdef598cacbfc737c7be1a936e5ea8", func := "bringup/bringuplaw35.PassageSafe", spec := "passageSafe", unfollowed := true, recurses := true, named := ["bringup/clock.off"], plainKeys := false, apart := false, laid := [("bringup/clock.off", laid_bringup_clock_off)] }
def PassageSafeSaid : Prop := passageSafeRow.holds Tryz.pinned (OpenSpec.ofChange passageSafeSpec)

/-- ITS FALSE NEIGHBOUR: 'it returns false'. Refute it at one input. -/
def passageSafeWrong : ChangeSpec := { name := "passageSafe", fn := fun _ => fun
  | [d] => { results := [.lit (.bool false)], args := [d] }
  | _ => none }
def PassageSafeWrongFalsely : Prop := passageSafeRow.holds Tryz.pinned (OpenSpec.ofChange passageSafeWrong)

/-- 'bringuplaw35.PassageFails': WHATEVER THE INPUT: true; the input reads as it did. -/
def passageFailsSpec : ChangeSpec := { name := "passageFails", fn := fun _ => fun
  | [d1, d2] => { results := [.lit (.bool true)], args := [d1, d2] }
  | _ => none }
def passageFailsRow : OpenClaim := { program := "ytifekdmmpbcdgaagreatdoor", sum := "4ab897f0f1e19f58bb17138694cd2faee1fdef598cacbfc737c7be1a936e5ea8", func := "bringup/bringuplaw35.PassageFails", spec := "passageFails", unfollowed := true, recurses := true, named := ["bringup/clock.off"], plainKeys := false, apart := false, laid := [("bringup/clock.off", laid_bringup_clock_off)] }
def PassageFailsSaid : Prop := passageFailsRow.holds Tryz.pinned (OpenSpec.ofChange passageFailsSpec)

/-- ITS FALSE NEIGHBOUR: 'it returns false'. Refute it at one input. -/
def passageFailsWrong : ChangeSpec := { name := "passageFails", fn := fun _ => fun
  | [d1, d2] => { results := [.lit (.bool false)], args := [d1, d2] }
  | _ => none }
def PassageFailsWrongFalsely : Prop := passageFailsRow.holds Tryz.pinned (OpenSpec.ofChange passageFailsWrong)

/-- 'bringuplaw35.PassageBoth': WHATEVER THE INPUT: true; the input reads as it did. -/
def passageBothSpec : ChangeSpec := { name := "passageBoth", fn := fun _ => fun
  | [d] => { results := [.lit (.bool true)], args := [d] }
  | _ => none }
def passageBothRow : OpenClaim := { program := "ytifekdmmpbcdgaagreatdoor", sum := "4ab897f0f1e19f58bb17138694cd2faee1fdef598cacbfc737c7be1a936e5ea8", func := "bringup/bringuplaw35.PassageBoth", spec := "passageBoth", unfollowed := true, recurses := true, named := ["bringup/clock.off"], plainKeys := false, apart := false, laid := [("bringup/clock.off", laid_bringup_clock_off)] }
def PassageBothSaid : Prop := passageBothRow.holds Tryz.pinned (OpenSpec.ofChange passageBothSpec)

/-- ITS FALSE NEIGHBOUR: 'it returns false'. Refute it at one input. -/
def passageBothWrong : ChangeSpec := { name := "passageBoth", fn := fun _ => fun
  | [d] => { results := [.lit (.bool false)], args := [d] }
  | _ => none }
def PassageBothWrongFalsely : Prop := passageBothRow.holds Tryz.pinned (OpenSpec.ofChange passageBothWrong)

/-- 'bringuplaw35.PassageLeast': WHATEVER THE INPUT: true; the input reads as it did. -/
def passageLeastSpec : ChangeSpec := { name := "passageLeast", fn := fun _ => fun
  | [d] => { results := [.lit (.bool true)], args := [d] }
  | _ => none }
def passageLeastRow : OpenClaim := { program := "ytifekdmmpbcdgaagreatdoor", sum := "4ab897f0f1e19f58bb17138694cd2faee1fdef598cacbfc737c7be1a936e5ea8", func := "bringup/bringuplaw35.PassageLeast", spec := "passageLeast", unfollowed := true, recurses := true, named := ["bringup/clock.off"], plainKeys := false, apart := false, laid := [("bringup/clock.off", laid_bringup_clock_off)] }
def PassageLeastSaid : Prop := passageLeastRow.holds Tryz.pinned (OpenSpec.ofChange passageLeastSpec)

/-- ITS FALSE NEIGHBOUR: 'it returns false'. Refute it at one input. -/
def passageLeastWrong : ChangeSpec := { name := "passageLeast", fn := fun _ => fun
  | [d] => { results := [.lit (.bool false)], args := [d] }
  | _ => none }
def PassageLeastWrongFalsely : Prop := passageLeastRow.holds Tryz.pinned (OpenSpec.ofChange passageLeastWrong)

/- THE SECOND FORM. 'bulk': how many values and letters a reading holds, each counted each time it is reached (what is shared counts as often as it is met; a slice's spare places count too). A statement '..UptoSaid' is the law's where the arguments, and the package variables that the reading takes, are together of bulk at most 1048576: NARROWER than '..Said'. Prove '..Said' where nothing that the law and all that it calls make is longer than what came in: it says more and counts as full. Else prove '..UptoSaid'. A law counts once. -/
mutual
def uptoBulk {H : Type} : DataW H → Nat
  | .lit (.string bytes) => bytes.length + 1
  | .lit _ => 1
  | .nil => 1
  | .ptr d => uptoBulk d + 1
  | .slice elems spare => uptoBulkAll elems + uptoBulkAll spare + 1
  | .agg parts => uptoBulkAll parts + 1
  | .iface _ d => uptoBulk d + 1
  | .map entries => uptoBulkEntries entries + 1
  | .held _ => 1
def uptoBulkAll {H : Type} : List (DataW H) → Nat
  | [] => 0
  | d :: r => uptoBulk d + uptoBulkAll r
def uptoBulkEntries {H : Type} : List (Lit × DataW H) → Nat
  | [] => 0
  | x :: r => uptoBulkEntry x + uptoBulkEntries r
def uptoBulkEntry {H : Type} : Lit × DataW H → Nat
  | (.string bytes, d) => bytes.length + uptoBulk d + 1
  | (_, d) => uptoBulk d + 1
 end
def uptoSmall : (H : Type) → List (DataW H) → Bool := fun _ ds => decide (uptoBulkAll ds ≤ 1048576)
def OpenSpec.upto (s : _root_.Go.ChangeSpec) : _root_.Go.OpenSpec := { _root_.Go.OpenSpec.ofChange s with cond := some uptoSmall }

/-- 'bringuplaw35.PassageSafe', WHERE WHAT IT READS IS OF BULK AT MOST 1048576: true; the input reads as it did. -/
def passageSafeUptoRow : OpenClaim := { program := "ytifekdmmpbcdgaagreatdoor", sum := "4ab897f0f1e19f58bb17138694cd2faee1fdef598cacbfc737c7be1a936e5ea8", func := "bringup/bringuplaw35.PassageSafe", spec := "passageSafe", unfollowed := true, recurses := true, named := ["bringup/clock.off"], plainKeys := false, apart := false, laid := [("bringup/clock.off", laid_bringup_clock_off)], narrowed := true }
def PassageSafeUptoSaid : Prop := passageSafeUptoRow.holds Tryz.pinned (OpenSpec.upto passageSafeSpec)

/-- 'bringuplaw35.PassageFails', WHERE WHAT IT READS IS OF BULK AT MOST 1048576: true; the input reads as it did. -/
def passageFailsUptoRow : OpenClaim := { program := "ytifekdmmpbcdgaagreatdoor", sum := "4ab897f0f1e19f58bb17138694cd2faee1fdef598cacbfc737c7be1a936e5ea8", func := "bringup/bringuplaw35.PassageFails", spec := "passageFails", unfollowed := true, recurses := true, named := ["bringup/clock.off"], plainKeys := false, apart := false, laid := [("bringup/clock.off", laid_bringup_clock_off)], narrowed := true }
def PassageFailsUptoSaid : Prop := passageFailsUptoRow.holds Tryz.pinned (OpenSpec.upto passageFailsSpec)

/-- 'bringuplaw35.PassageBoth', WHERE WHAT IT READS IS OF BULK AT MOST 1048576: true; the input reads as it did. -/
def passageBothUptoRow : OpenClaim := { program := "ytifekdmmpbcdgaagreatdoor", sum := "4ab897f0f1e19f58bb17138694cd2faee1fdef598cacbfc737c7be1a936e5ea8", func := "bringup/bringuplaw35.PassageBoth", spec := "passageBoth", unfollowed := true, recurses := true, named := ["bringup/clock.off"], plainKeys := false, apart := false, laid := [("bringup/clock.off", laid_bringup_clock_off)], narrowed := true }
def PassageBothUptoSaid : Prop := passageBothUptoRow.holds Tryz.pinned (OpenSpec.upto passageBothSpec)

/-- 'bringuplaw35.PassageLeast', WHERE WHAT IT READS IS OF BULK AT MOST 1048576: true; the input reads as it did. -/
def passageLeastUptoRow : OpenClaim := { program := "ytifekdmmpbcdgaagreatdoor", sum := "4ab897f0f1e19f58bb17138694cd2faee1fdef598cacbfc737c7be1a936e5ea8", func := "bringup/bringuplaw35.PassageLeast", spec := "passageLeast", unfollowed := true, recurses := true, named := ["bringup/clock.off"], plainKeys := false, apart := false, laid := [("bringup/clock.off", laid_bringup_clock_off)], narrowed := true }
def PassageLeastUptoSaid : Prop := passageLeastUptoRow.holds Tryz.pinned (OpenSpec.upto passageLeastSpec)

end Rows
end Go.Proofs.YtifekdmmpbcdgaaGreatDoor

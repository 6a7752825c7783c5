/-
  NARROWER THAN 'FOR EVERY INPUT', by the rows' own cells (each row's printed sentence says how): RulesFewer: laid · RulesCut: laid · RulesExact: laid.
  DERIVED. THE GIVEN ROWS OF THIS SEAT. 3 by the template 'for every input the law returns true; each argument reads behind the call as it read before'; 0 by the template 'total and deterministic' (their statements: YtfblhejmclcdmaaGreatDoorTotals.lean).
  GIVEN WITH THE SEED: the statements are not yours to turn. If you find one false, say at which input.
  Laid BY PROGRAM, IN A SANDBOX (cutbox-rows.mjs): the forced cells as the released guide's own fill.sh prints them over the translation 276985bfa0abe67e… (all of the seat's roots in one cut). By AI agents, Wed Nov 11 2026. No macro, syntax, notation, axiom, sorry.
-/
import Derived.Test.YtfblhejmclcdmaaGreatDoorChecked
import GoSem.Claim
import GoSem.ClaimJoined
import GoSem.ClaimMapViews
import Derived.JoinedTies
import Derived.KernelRfl
namespace Go.Proofs.YtfblhejmclcdmaaGreatDoor
/- THE CELL 'sum', in the pinned program and in every row, IS THE sha256 OF THE DUMP (.gsa) THAT YtfblhejmclcdmaaGreatDoorProg.lean LOADS. Nothing in Lean hashes anything: it is a label: what it is worth is what the hold of that sum in a sandbox is worth. -/
noncomputable def Tryz.pinned : Pinned := { name := "ytfblhejmclcdmaagreatdoor", sum := "276985bfa0abe67e069ac644a193003fc28772731b18f10be7a9d8b7c8f92e0b", checked := Tryz.checked }
namespace Rows
def none {H : Type} : Left H := { results := [], args := [] }

/- WHAT THE LISTED PACKAGE-LEVEL VARIABLES READ AS WHEN THE CALL BEGINS. Each datum BY PROGRAM (the guide's laid-datum.mjs) off the statement by which the dump's own 'gosem.cut.vars' lays the variable. In a bare row this is a premise. The card (YtfblhejmclcdmaaGreatDoorCards.lean) ties it to the program's text. -/
def laid_bringup_clock_off {H : Type} : DataW H := .agg [.lit (.int .i64 0), .lit (.int .i64 1)]

/-- 'bringuplaw31.RulesFewer': WHATEVER THE INPUT: true; the input reads as it did. -/
def rulesFewerSpec : ChangeSpec := { name := "rulesFewer", fn := fun _ => fun
  | [d1, d2] => { results := [.lit (.bool true)], args := [d1, d2] }
  | _ => none }
def rulesFewerRow : OpenClaim := { program := "ytfblhejmclcdmaagreatdoor", sum := "276985bfa0abe67e069ac644a193003fc28772731b18f10be7a9d8b7c8f92e0b", func := "bringup/bringuplaw31.RulesFewer", spec := "rulesFewer", unfollowed := true, recurses := true, named := ["bringup/clock.off"], apart := false, laid := [("bringup/clock.off", laid_bringup_clock_off)] }
def RulesFewerSaid : Prop := rulesFewerRow.holds Tryz.pinned (OpenSpec.ofChange rulesFewerSpec)

/-- ITS FALSE NEIGHBOUR: 'it returns false'. Refute it at one input. -/
def rulesFewerWrong : ChangeSpec := { name := "rulesFewer", fn := fun _ => fun
  | [d1, d2] => { results := [.lit (.bool false)], args := [d1, d2] }
  | _ => none }
def RulesFewerWrongFalsely : Prop := rulesFewerRow.holds Tryz.pinned (OpenSpec.ofChange rulesFewerWrong)

/-- 'bringuplaw31.RulesCut': WHATEVER THE INPUT: true; the input reads as it did. -/
def rulesCutSpec : ChangeSpec := { name := "rulesCut", fn := fun _ => fun
  | [d1, d2] => { results := [.lit (.bool true)], args := [d1, d2] }
  | _ => none }
def rulesCutRow : OpenClaim := { program := "ytfblhejmclcdmaagreatdoor", sum := "276985bfa0abe67e069ac644a193003fc28772731b18f10be7a9d8b7c8f92e0b", func := "bringup/bringuplaw31.RulesCut", spec := "rulesCut", unfollowed := true, recurses := true, named := ["bringup/clock.off"], apart := false, laid := [("bringup/clock.off", laid_bringup_clock_off)] }
def RulesCutSaid : Prop := rulesCutRow.holds Tryz.pinned (OpenSpec.ofChange rulesCutSpec)

/-- ITS FALSE NEIGHBOUR: 'it returns false'. Refute it at one input. -/
def rulesCutWrong : ChangeSpec := { name := "rulesCut", fn := fun _ => fun
  | [d1, d2] => { results := [.lit (.bool false)], args := [d1, d2] }
  | _ => none }
def RulesCutWrongFalsely : Prop := rulesCutRow.holds Tryz.pinned (OpenSpec.ofChange rulesCutWrong)

/-- 'bringuplaw31.RulesExact': WHATEVER THE INPUT: true; the input reads as it did. -/
def rulesExactSpec : ChangeSpec := { name := "rulesExact", fn := fun _ => fun
  | [d1, d2, d3, d4, d5, d6, d7] => { results := [.lit (.bool true)], args := [d1, d2, d3, d4, d5, d6, d7] }
  | _ => none }
def rulesExactRow : OpenClaim := { program := "ytfblhejmclcdmaagreatdoor", sum := "276985bfa0abe67e069ac644a193003fc28772731b18f10be7a9d8b7c8f92e0b", func := "bringup/bringuplaw31.RulesExact", spec := "rulesExact", unfollowed := true, recurses := true, named := ["bringup/clock.off"], apart := false, laid := [("bringup/clock.off", laid_bringup_clock_off)] }
def RulesExactSaid : Prop := rulesExactRow.holds Tryz.pinned (OpenSpec.ofChange rulesExactSpec)

/-- ITS FALSE NEIGHBOUR: 'it returns false'. Refute it at one input. -/
def rulesExactWrong : ChangeSpec := { name := "rulesExact", fn := fun _ => fun
  | [d1, d2, d3, d4, d5, d6, d7] => { results := [.lit (.bool false)], args := [d1, d2, d3, d4, d5, d6, d7] }
  | _ => none }
def RulesExactWrongFalsely : Prop := rulesExactRow.holds Tryz.pinned (OpenSpec.ofChange rulesExactWrong)

/- THE SECOND FORM. 'bulk': how many values and letters a reading holds, each counted each time it is reached (what is shared counts as often as it is met; a slice's spare places count too). A statement '..UptoSaid' is the law's where the arguments, and the package variables that the reading takes, are together of bulk at most 1048576: NARROWER than '..Said'. Prove '..Said' where nothing that the law and all that it calls make is longer than what came in: it says more and counts as full. Else prove '..UptoSaid'. A law counts once. -/
mutual
def uptoBulk {H : Type} : DataW H → Nat
  | .lit (.string bytes) => bytes.length + 1
  | .lit _ => 1
  | .nil => 1
  | .ptr d => uptoBulk d + 1
  | .slice elems spare => uptoBulkAll elems + uptoBulkAll spare + 1
  | .agg parts => uptoBulkAll parts + 1
  | .iface _ d => uptoBulk d + 1
  | .map entries => uptoBulkEntries entries + 1
  | .held _ => 1
def uptoBulkAll {H : Type} : List (DataW H) → Nat
  | [] => 0
  | d :: r => uptoBulk d + uptoBulkAll r
def uptoBulkEntries {H : Type} : List (Lit × DataW H) → Nat
  | [] => 0
  | x :: r => uptoBulkEntry x + uptoBulkEntries r
def uptoBulkEntry {H : Type} : Lit × DataW H → Nat
  | (.string bytes, d) => bytes.length + uptoBulk d + 1
  | (_, d) => uptoBulk d + 1
 end
def uptoSmall : (H : Type) → List (DataW H) → Bool := fun _ ds => decide (uptoBulkAll ds ≤ 1048576)
def OpenSpec.upto (s : _root_.Go.ChangeSpec) : _root_.Go.OpenSpec := { _root_.Go.OpenSpec.ofChange s with cond := some uptoSmall }

/-- 'bringuplaw31.RulesFewer', WHERE WHAT IT READS IS OF BULK AT MOST 1048576: true; the input reads as it did. -/
def rulesFewerUptoRow : OpenClaim := { program := "ytfblhejmclcdmaagreatdoor", sum := "276985bfa0abe67e069ac644a193003fc28772731b18f10be7a9d8b7c8f92e0b", func := "bringup/bringuplaw31.RulesFewer", spec := "rulesFewer", unfollowed := true, recurses := true, named := ["bringup/clock.off"], apart := false, laid := [("bringup/clock.off", laid_bringup_clock_off)], narrowed := true }
def RulesFewerUptoSaid : Prop := rulesFewerUptoRow.holds Tryz.pinned (OpenSpec.upto rulesFewerSpec)

/-- 'bringuplaw31.RulesCut', WHERE WHAT IT READS IS OF BULK AT MOST 1048576: true; the input reads as it did. -/
def rulesCutUptoRow : OpenClaim := { program := "ytfblhejmclcdmaagreatdoor", sum := "276985bfa0abe67e069ac644a193003fc28772731b18f10be7a9d8b7c8f92e0b", func := "bringup/bringuplaw31.RulesCut", spec := "rulesCut", unfollowed := true, recurses := true, named := ["bringup/clock.off"], apart := false, laid := [("bringup/clock.off", laid_bringup_clock_off)], narrowed := true }
def RulesCutUptoSaid : Prop := rulesCutUptoRow.holds Tryz.pinned (OpenSpec.upto rulesCutSpec)

/-- 'bringuplaw31.RulesExact', WHERE WHAT IT READS IS OF BULK AT MOST 1048576: true; the input reads as it did. -/
def rulesExactUptoRow : OpenClaim := { program := "ytfblhejmclcdmaagreatdoor", sum := "276985bfa0abe67e069ac644a193003fc28772731b18f10be7a9d8b7c8f92e0b", func := "bringup/bringuplaw31.RulesExact", spec := "rulesExact", unfollowed := true, recurses := true, named := ["bringup/clock.off"], apart := false, laid := [("bringup/clock.off", laid_bringup_clock_off)], narrowed := true }
def RulesExactUptoSaid : Prop := rulesExactUptoRow.holds Tryz.pinned (OpenSpec.upto rulesExactSpec)

end Rows
end Go.Proofs.YtfblhejmclcdmaaGreatDoor

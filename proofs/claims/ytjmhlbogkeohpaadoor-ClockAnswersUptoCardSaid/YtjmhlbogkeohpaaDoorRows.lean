/-
  NARROWER THAN 'FOR EVERY INPUT', by the rows' own cells (each row's printed sentence says how): ClockMeets: laid · ClockScales: laid · ClockAnswers: laid · ClockWays: laid.
  DERIVED. THE GIVEN ROWS OF THIS SEAT. 4 by the template 'for every input the law returns true; each argument reads behind the call as it read before'; 0 by the template 'total and deterministic' (their statements: YtjmhlbogkeohpaaDoorTotals.lean).
  GIVEN WITH THE SEED: the statements are not yours to turn. If you find one false, say at which input.
  Laid BY PROGRAM, IN A SANDBOX (cutbox-rows.mjs): the forced cells as the released guide's own fill.sh prints them over the translation 31481482f7845771… (all of the seat's roots in one cut). By AI agents, Wed Nov 11 2026. No macro, syntax, notation, axiom, sorry.
-/
import Derived.Test.YtjmhlbogkeohpaaDoorChecked
import GoSem.Claim
import GoSem.ClaimJoined
import GoSem.ClaimMapViews
import Derived.JoinedTies
import Derived.KernelRfl
namespace Go.Proofs.YtjmhlbogkeohpaaDoor
/- THE CELL 'sum', in the pinned program and in every row, IS THE sha256 OF THE DUMP (.gsa) THAT YtjmhlbogkeohpaaDoorProg.lean LOADS. Nothing in Lean hashes anything: it is a label: what it is worth is what the hold of that sum in a sandbox is worth. -/
noncomputable def Tryd.pinned : Pinned := { name := "ytjmhlbogkeohpaadoor", sum := "31481482f7845771938be95b766e4b9f80fa647fc377f410002816137a05abbe", checked := Tryd.checked }
namespace Rows
def none {H : Type} : Left H := { results := [], args := [] }

/- WHAT THE LISTED PACKAGE-LEVEL VARIABLES READ AS WHEN THE CALL BEGINS. Each datum BY PROGRAM (the guide's laid-datum.mjs) off the statement by which the dump's own 'gosem.cut.vars' lays the variable. In a bare row this is a premise. The card (YtjmhlbogkeohpaaDoorCards.lean) ties it to the program's text. -/
def laid_bringup_clock_off {H : Type} : DataW H := .agg [.lit (.int .i64 0), .lit (.int .i64 1)]

/-- 'bringuplaw16.ClockMeets': WHATEVER THE INPUT: true; the input reads as it did. -/
def clockMeetsSpec : ChangeSpec := { name := "clockMeets", fn := fun _ => fun
  | [d] => { results := [.lit (.bool true)], args := [d] }
  | _ => none }
def clockMeetsRow : OpenClaim := { program := "ytjmhlbogkeohpaadoor", sum := "31481482f7845771938be95b766e4b9f80fa647fc377f410002816137a05abbe", func := "bringup/bringuplaw16.ClockMeets", spec := "clockMeets", unfollowed := true, recurses := true, named := ["bringup/clock.off"], apart := false, laid := [("bringup/clock.off", laid_bringup_clock_off)] }
def ClockMeetsSaid : Prop := clockMeetsRow.holds Tryd.pinned (OpenSpec.ofChange clockMeetsSpec)

/-- ITS FALSE NEIGHBOUR: 'it returns false'. Refute it at one input. -/
def clockMeetsWrong : ChangeSpec := { name := "clockMeets", fn := fun _ => fun
  | [d] => { results := [.lit (.bool false)], args := [d] }
  | _ => none }
def ClockMeetsWrongFalsely : Prop := clockMeetsRow.holds Tryd.pinned (OpenSpec.ofChange clockMeetsWrong)

/-- 'bringuplaw16.ClockScales': WHATEVER THE INPUT: true; the input reads as it did. -/
def clockScalesSpec : ChangeSpec := { name := "clockScales", fn := fun _ => fun
  | [d] => { results := [.lit (.bool true)], args := [d] }
  | _ => none }
def clockScalesRow : OpenClaim := { program := "ytjmhlbogkeohpaadoor", sum := "31481482f7845771938be95b766e4b9f80fa647fc377f410002816137a05abbe", func := "bringup/bringuplaw16.ClockScales", spec := "clockScales", unfollowed := true, recurses := true, named := ["bringup/clock.off"], apart := false, laid := [("bringup/clock.off", laid_bringup_clock_off)] }
def ClockScalesSaid : Prop := clockScalesRow.holds Tryd.pinned (OpenSpec.ofChange clockScalesSpec)

/-- ITS FALSE NEIGHBOUR: 'it returns false'. Refute it at one input. -/
def clockScalesWrong : ChangeSpec := { name := "clockScales", fn := fun _ => fun
  | [d] => { results := [.lit (.bool false)], args := [d] }
  | _ => none }
def ClockScalesWrongFalsely : Prop := clockScalesRow.holds Tryd.pinned (OpenSpec.ofChange clockScalesWrong)

/-- 'bringuplaw16.ClockAnswers': WHATEVER THE INPUT: true; the input reads as it did. -/
def clockAnswersSpec : ChangeSpec := { name := "clockAnswers", fn := fun _ => fun
  | [d1, d2, d3, d4, d5] => { results := [.lit (.bool true)], args := [d1, d2, d3, d4, d5] }
  | _ => none }
def clockAnswersRow : OpenClaim := { program := "ytjmhlbogkeohpaadoor", sum := "31481482f7845771938be95b766e4b9f80fa647fc377f410002816137a05abbe", func := "bringup/bringuplaw16.ClockAnswers", spec := "clockAnswers", unfollowed := true, recurses := true, named := ["bringup/clock.off"], apart := false, laid := [("bringup/clock.off", laid_bringup_clock_off)] }
def ClockAnswersSaid : Prop := clockAnswersRow.holds Tryd.pinned (OpenSpec.ofChange clockAnswersSpec)

/-- ITS FALSE NEIGHBOUR: 'it returns false'. Refute it at one input. -/
def clockAnswersWrong : ChangeSpec := { name := "clockAnswers", fn := fun _ => fun
  | [d1, d2, d3, d4, d5] => { results := [.lit (.bool false)], args := [d1, d2, d3, d4, d5] }
  | _ => none }
def ClockAnswersWrongFalsely : Prop := clockAnswersRow.holds Tryd.pinned (OpenSpec.ofChange clockAnswersWrong)

/-- 'bringuplaw16.ClockWays': WHATEVER THE INPUT: true; the input reads as it did. -/
def clockWaysSpec : ChangeSpec := { name := "clockWays", fn := fun _ => fun
  | [d] => { results := [.lit (.bool true)], args := [d] }
  | _ => none }
def clockWaysRow : OpenClaim := { program := "ytjmhlbogkeohpaadoor", sum := "31481482f7845771938be95b766e4b9f80fa647fc377f410002816137a05abbe", func := "bringup/bringuplaw16.ClockWays", spec := "clockWays", unfollowed := true, recurses := true, named := ["bringup/clock.off"], apart := false, laid := [("bringup/clock.off", laid_bringup_clock_off)] }
def ClockWaysSaid : Prop := clockWaysRow.holds Tryd.pinned (OpenSpec.ofChange clockWaysSpec)

/-- ITS FALSE NEIGHBOUR: 'it returns false'. Refute it at one input. -/
def clockWaysWrong : ChangeSpec := { name := "clockWays", fn := fun _ => fun
  | [d] => { results := [.lit (.bool false)], args := [d] }
  | _ => none }
def ClockWaysWrongFalsely : Prop := clockWaysRow.holds Tryd.pinned (OpenSpec.ofChange clockWaysWrong)

/- THE SECOND FORM. 'bulk': how many values and letters a reading holds, each counted each time it is reached (what is shared counts as often as it is met; a slice's spare places count too). A statement '..UptoSaid' is the law's where the arguments, and the package variables that the reading takes, are together of bulk at most 1048576: NARROWER than '..Said'. Prove '..Said' where nothing that the law and all that it calls make is longer than what came in: it says more and counts as full. Else prove '..UptoSaid'. A law counts once. -/
mutual
def uptoBulk {H : Type} : DataW H → Nat
  | .lit (.string bytes) => bytes.length + 1
  | .lit _ => 1
  | .nil => 1
  | .ptr d => uptoBulk d + 1
  | .slice elems spare => uptoBulkAll elems + uptoBulkAll spare + 1
  | .agg parts => uptoBulkAll parts + 1
  | .iface _ d => uptoBulk d + 1
  | .map entries => uptoBulkEntries entries + 1
  | .held _ => 1
def uptoBulkAll {H : Type} : List (DataW H) → Nat
  | [] => 0
  | d :: r => uptoBulk d + uptoBulkAll r
def uptoBulkEntries {H : Type} : List (Lit × DataW H) → Nat
  | [] => 0
  | x :: r => uptoBulkEntry x + uptoBulkEntries r
def uptoBulkEntry {H : Type} : Lit × DataW H → Nat
  | (.string bytes, d) => bytes.length + uptoBulk d + 1
  | (_, d) => uptoBulk d + 1
 end
def uptoSmall : (H : Type) → List (DataW H) → Bool := fun _ ds => decide (uptoBulkAll ds ≤ 1048576)
def OpenSpec.upto (s : _root_.Go.ChangeSpec) : _root_.Go.OpenSpec := { _root_.Go.OpenSpec.ofChange s with cond := some uptoSmall }

/-- 'bringuplaw16.ClockMeets', WHERE WHAT IT READS IS OF BULK AT MOST 1048576: true; the input reads as it did. -/
def clockMeetsUptoRow : OpenClaim := { program := "ytjmhlbogkeohpaadoor", sum := "31481482f7845771938be95b766e4b9f80fa647fc377f410002816137a05abbe", func := "bringup/bringuplaw16.ClockMeets", spec := "clockMeets", unfollowed := true, recurses := true, named := ["bringup/clock.off"], apart := false, laid := [("bringup/clock.off", laid_bringup_clock_off)], narrowed := true }
def ClockMeetsUptoSaid : Prop := clockMeetsUptoRow.holds Tryd.pinned (OpenSpec.upto clockMeetsSpec)

/-- 'bringuplaw16.ClockScales', WHERE WHAT IT READS IS OF BULK AT MOST 1048576: true; the input reads as it did. -/
def clockScalesUptoRow : OpenClaim := { program := "ytjmhlbogkeohpaadoor", sum := "31481482f7845771938be95b766e4b9f80fa647fc377f410002816137a05abbe", func := "bringup/bringuplaw16.ClockScales", spec := "clockScales", unfollowed := true, recurses := true, named := ["bringup/clock.off"], apart := false, laid := [("bringup/clock.off", laid_bringup_clock_off)], narrowed := true }
def ClockScalesUptoSaid : Prop := clockScalesUptoRow.holds Tryd.pinned (OpenSpec.upto clockScalesSpec)

/-- 'bringuplaw16.ClockAnswers', WHERE WHAT IT READS IS OF BULK AT MOST 1048576: true; the input reads as it did. -/
def clockAnswersUptoRow : OpenClaim := { program := "ytjmhlbogkeohpaadoor", sum := "31481482f7845771938be95b766e4b9f80fa647fc377f410002816137a05abbe", func := "bringup/bringuplaw16.ClockAnswers", spec := "clockAnswers", unfollowed := true, recurses := true, named := ["bringup/clock.off"], apart := false, laid := [("bringup/clock.off", laid_bringup_clock_off)], narrowed := true }
def ClockAnswersUptoSaid : Prop := clockAnswersUptoRow.holds Tryd.pinned (OpenSpec.upto clockAnswersSpec)

/-- 'bringuplaw16.ClockWays', WHERE WHAT IT READS IS OF BULK AT MOST 1048576: true; the input reads as it did. -/
def clockWaysUptoRow : OpenClaim := { program := "ytjmhlbogkeohpaadoor", sum := "31481482f7845771938be95b766e4b9f80fa647fc377f410002816137a05abbe", func := "bringup/bringuplaw16.ClockWays", spec := "clockWays", unfollowed := true, recurses := true, named := ["bringup/clock.off"], apart := false, laid := [("bringup/clock.off", laid_bringup_clock_off)], narrowed := true }
def ClockWaysUptoSaid : Prop := clockWaysUptoRow.holds Tryd.pinned (OpenSpec.upto clockWaysSpec)

end Rows
end Go.Proofs.YtjmhlbogkeohpaaDoor

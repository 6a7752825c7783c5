/-
  No cell of these rows narrows 'for every input' (looked for: loops, veiled, ifaces, maps, wideKeys, modest, calm, conditions, laid).
  DERIVED. THE GIVEN ROWS OF THIS SEAT. 6 by the template 'for every input the law returns true; each argument reads behind the call as it read before'; 0 by the template 'total and deterministic' (their statements: YtjmhlbogkeohpaaTotals.lean).
  GIVEN WITH THE SEED: the statements are not yours to turn. If you find one false, say at which input.
  Laid BY PROGRAM, IN A SANDBOX (cutbox-rows.mjs): the forced cells as the released guide's own fill.sh prints them over the translation e6b09a8928c6ffce… (all of the seat's roots in one cut). By AI agents, Wed Nov 11 2026. No macro, syntax, notation, axiom, sorry.
-/
import Derived.Test.YtjmhlbogkeohpaaChecked
import GoSem.Claim
import GoSem.ClaimJoined
import GoSem.ClaimMapViews
import Derived.JoinedTies
import Derived.KernelRfl
namespace Go.Proofs.Ytjmhlbogkeohpaa
/- THE CELL 'sum', in the pinned program and in every row, IS THE sha256 OF THE DUMP (.gsa) THAT YtjmhlbogkeohpaaProg.lean LOADS. Nothing in Lean hashes anything: it is a label: what it is worth is what the hold of that sum in a sandbox is worth. -/
noncomputable def Try.pinned : Pinned := { name := "ytjmhlbogkeohpaa", sum := "e6b09a8928c6ffce71d159ccaba860aa045fc4be36866b1c527d05168064b152", checked := Try.checked }
namespace Rows
def none {H : Type} : Left H := { results := [], args := [] }

/-- 'bringuplaw19.SupplyJoins': WHATEVER THE INPUT: true; the input reads as it did. -/
def supplyJoinsSpec : ChangeSpec := { name := "supplyJoins", fn := fun _ => fun
  | [d] => { results := [.lit (.bool true)], args := [d] }
  | _ => none }
def supplyJoinsRow : OpenClaim := { program := "ytjmhlbogkeohpaa", sum := "e6b09a8928c6ffce71d159ccaba860aa045fc4be36866b1c527d05168064b152", func := "bringup/bringuplaw19.SupplyJoins", spec := "supplyJoins", unfollowed := true, recurses := true, apart := false }
def SupplyJoinsSaid : Prop := supplyJoinsRow.holds Try.pinned (OpenSpec.ofChange supplyJoinsSpec)

/-- ITS FALSE NEIGHBOUR: 'it returns false'. Refute it at one input. -/
def supplyJoinsWrong : ChangeSpec := { name := "supplyJoins", fn := fun _ => fun
  | [d] => { results := [.lit (.bool false)], args := [d] }
  | _ => none }
def SupplyJoinsWrongFalsely : Prop := supplyJoinsRow.holds Try.pinned (OpenSpec.ofChange supplyJoinsWrong)

/-- 'bringuplaw19.SupplyLeast': WHATEVER THE INPUT: true; the input reads as it did. -/
def supplyLeastSpec : ChangeSpec := { name := "supplyLeast", fn := fun _ => fun
  | [d] => { results := [.lit (.bool true)], args := [d] }
  | _ => none }
def supplyLeastRow : OpenClaim := { program := "ytjmhlbogkeohpaa", sum := "e6b09a8928c6ffce71d159ccaba860aa045fc4be36866b1c527d05168064b152", func := "bringup/bringuplaw19.SupplyLeast", spec := "supplyLeast", unfollowed := true, recurses := true, apart := false }
def SupplyLeastSaid : Prop := supplyLeastRow.holds Try.pinned (OpenSpec.ofChange supplyLeastSpec)

/-- ITS FALSE NEIGHBOUR: 'it returns false'. Refute it at one input. -/
def supplyLeastWrong : ChangeSpec := { name := "supplyLeast", fn := fun _ => fun
  | [d] => { results := [.lit (.bool false)], args := [d] }
  | _ => none }
def SupplyLeastWrongFalsely : Prop := supplyLeastRow.holds Try.pinned (OpenSpec.ofChange supplyLeastWrong)

/-- 'bringuplaw19.SupplyOrder': WHATEVER THE INPUT: true; the input reads as it did. -/
def supplyOrderSpec : ChangeSpec := { name := "supplyOrder", fn := fun _ => fun
  | [d] => { results := [.lit (.bool true)], args := [d] }
  | _ => none }
def supplyOrderRow : OpenClaim := { program := "ytjmhlbogkeohpaa", sum := "e6b09a8928c6ffce71d159ccaba860aa045fc4be36866b1c527d05168064b152", func := "bringup/bringuplaw19.SupplyOrder", spec := "supplyOrder", unfollowed := true, recurses := true, apart := false }
def SupplyOrderSaid : Prop := supplyOrderRow.holds Try.pinned (OpenSpec.ofChange supplyOrderSpec)

/-- ITS FALSE NEIGHBOUR: 'it returns false'. Refute it at one input. -/
def supplyOrderWrong : ChangeSpec := { name := "supplyOrder", fn := fun _ => fun
  | [d] => { results := [.lit (.bool false)], args := [d] }
  | _ => none }
def SupplyOrderWrongFalsely : Prop := supplyOrderRow.holds Try.pinned (OpenSpec.ofChange supplyOrderWrong)

/-- 'bringuplaw19.SupplyLoads': WHATEVER THE INPUT: true; the input reads as it did. -/
def supplyLoadsSpec : ChangeSpec := { name := "supplyLoads", fn := fun _ => fun
  | [d] => { results := [.lit (.bool true)], args := [d] }
  | _ => none }
def supplyLoadsRow : OpenClaim := { program := "ytjmhlbogkeohpaa", sum := "e6b09a8928c6ffce71d159ccaba860aa045fc4be36866b1c527d05168064b152", func := "bringup/bringuplaw19.SupplyLoads", spec := "supplyLoads", unfollowed := true, recurses := true, apart := false }
def SupplyLoadsSaid : Prop := supplyLoadsRow.holds Try.pinned (OpenSpec.ofChange supplyLoadsSpec)

/-- ITS FALSE NEIGHBOUR: 'it returns false'. Refute it at one input. -/
def supplyLoadsWrong : ChangeSpec := { name := "supplyLoads", fn := fun _ => fun
  | [d] => { results := [.lit (.bool false)], args := [d] }
  | _ => none }
def SupplyLoadsWrongFalsely : Prop := supplyLoadsRow.holds Try.pinned (OpenSpec.ofChange supplyLoadsWrong)

/-- 'bringuplaw19.SupplyProves': WHATEVER THE INPUT: true; the input reads as it did. -/
def supplyProvesSpec : ChangeSpec := { name := "supplyProves", fn := fun _ => fun
  | [d] => { results := [.lit (.bool true)], args := [d] }
  | _ => none }
def supplyProvesRow : OpenClaim := { program := "ytjmhlbogkeohpaa", sum := "e6b09a8928c6ffce71d159ccaba860aa045fc4be36866b1c527d05168064b152", func := "bringup/bringuplaw19.SupplyProves", spec := "supplyProves", unfollowed := true, recurses := true, apart := false }
def SupplyProvesSaid : Prop := supplyProvesRow.holds Try.pinned (OpenSpec.ofChange supplyProvesSpec)

/-- ITS FALSE NEIGHBOUR: 'it returns false'. Refute it at one input. -/
def supplyProvesWrong : ChangeSpec := { name := "supplyProves", fn := fun _ => fun
  | [d] => { results := [.lit (.bool false)], args := [d] }
  | _ => none }
def SupplyProvesWrongFalsely : Prop := supplyProvesRow.holds Try.pinned (OpenSpec.ofChange supplyProvesWrong)

/-- 'bringuplaw19.SupplyAnswers': WHATEVER THE INPUT: true; the input reads as it did. -/
def supplyAnswersSpec : ChangeSpec := { name := "supplyAnswers", fn := fun _ => fun
  | [d1, d2, d3, d4, d5] => { results := [.lit (.bool true)], args := [d1, d2, d3, d4, d5] }
  | _ => none }
def supplyAnswersRow : OpenClaim := { program := "ytjmhlbogkeohpaa", sum := "e6b09a8928c6ffce71d159ccaba860aa045fc4be36866b1c527d05168064b152", func := "bringup/bringuplaw19.SupplyAnswers", spec := "supplyAnswers", unfollowed := true, recurses := true, apart := false }
def SupplyAnswersSaid : Prop := supplyAnswersRow.holds Try.pinned (OpenSpec.ofChange supplyAnswersSpec)

/-- ITS FALSE NEIGHBOUR: 'it returns false'. Refute it at one input. -/
def supplyAnswersWrong : ChangeSpec := { name := "supplyAnswers", fn := fun _ => fun
  | [d1, d2, d3, d4, d5] => { results := [.lit (.bool false)], args := [d1, d2, d3, d4, d5] }
  | _ => none }
def SupplyAnswersWrongFalsely : Prop := supplyAnswersRow.holds Try.pinned (OpenSpec.ofChange supplyAnswersWrong)

/- THE SECOND FORM. 'bulk': how many values and letters a reading holds, each counted each time it is reached (what is shared counts as often as it is met; a slice's spare places count too). A statement '..UptoSaid' is the law's where the arguments, and the package variables that the reading takes, are together of bulk at most 1048576: NARROWER than '..Said'. Prove '..Said' where nothing that the law and all that it calls make is longer than what came in: it says more and counts as full. Else prove '..UptoSaid'. A law counts once. -/
mutual
def uptoBulk {H : Type} : DataW H → Nat
  | .lit (.string bytes) => bytes.length + 1
  | .lit _ => 1
  | .nil => 1
  | .ptr d => uptoBulk d + 1
  | .slice elems spare => uptoBulkAll elems + uptoBulkAll spare + 1
  | .agg parts => uptoBulkAll parts + 1
  | .iface _ d => uptoBulk d + 1
  | .map entries => uptoBulkEntries entries + 1
  | .held _ => 1
def uptoBulkAll {H : Type} : List (DataW H) → Nat
  | [] => 0
  | d :: r => uptoBulk d + uptoBulkAll r
def uptoBulkEntries {H : Type} : List (Lit × DataW H) → Nat
  | [] => 0
  | x :: r => uptoBulkEntry x + uptoBulkEntries r
def uptoBulkEntry {H : Type} : Lit × DataW H → Nat
  | (.string bytes, d) => bytes.length + uptoBulk d + 1
  | (_, d) => uptoBulk d + 1
 end
def uptoSmall : (H : Type) → List (DataW H) → Bool := fun _ ds => decide (uptoBulkAll ds ≤ 1048576)
def OpenSpec.upto (s : _root_.Go.ChangeSpec) : _root_.Go.OpenSpec := { _root_.Go.OpenSpec.ofChange s with cond := some uptoSmall }

/-- 'bringuplaw19.SupplyJoins', WHERE WHAT IT READS IS OF BULK AT MOST 1048576: true; the input reads as it did. -/
def supplyJoinsUptoRow : OpenClaim := { program := "ytjmhlbogkeohpaa", sum := "e6b09a8928c6ffce71d159ccaba860aa045fc4be36866b1c527d05168064b152", func := "bringup/bringuplaw19.SupplyJoins", spec := "supplyJoins", unfollowed := true, recurses := true, apart := false, narrowed := true }
def SupplyJoinsUptoSaid : Prop := supplyJoinsUptoRow.holds Try.pinned (OpenSpec.upto supplyJoinsSpec)

/-- 'bringuplaw19.SupplyLeast', WHERE WHAT IT READS IS OF BULK AT MOST 1048576: true; the input reads as it did. -/
def supplyLeastUptoRow : OpenClaim := { program := "ytjmhlbogkeohpaa", sum := "e6b09a8928c6ffce71d159ccaba860aa045fc4be36866b1c527d05168064b152", func := "bringup/bringuplaw19.SupplyLeast", spec := "supplyLeast", unfollowed := true, recurses := true, apart := false, narrowed := true }
def SupplyLeastUptoSaid : Prop := supplyLeastUptoRow.holds Try.pinned (OpenSpec.upto supplyLeastSpec)

/-- 'bringuplaw19.SupplyOrder', WHERE WHAT IT READS IS OF BULK AT MOST 1048576: true; the input reads as it did. -/
def supplyOrderUptoRow : OpenClaim := { program := "ytjmhlbogkeohpaa", sum := "e6b09a8928c6ffce71d159ccaba860aa045fc4be36866b1c527d05168064b152", func := "bringup/bringuplaw19.SupplyOrder", spec := "supplyOrder", unfollowed := true, recurses := true, apart := false, narrowed := true }
def SupplyOrderUptoSaid : Prop := supplyOrderUptoRow.holds Try.pinned (OpenSpec.upto supplyOrderSpec)

/-- 'bringuplaw19.SupplyLoads', WHERE WHAT IT READS IS OF BULK AT MOST 1048576: true; the input reads as it did. -/
def supplyLoadsUptoRow : OpenClaim := { program := "ytjmhlbogkeohpaa", sum := "e6b09a8928c6ffce71d159ccaba860aa045fc4be36866b1c527d05168064b152", func := "bringup/bringuplaw19.SupplyLoads", spec := "supplyLoads", unfollowed := true, recurses := true, apart := false, narrowed := true }
def SupplyLoadsUptoSaid : Prop := supplyLoadsUptoRow.holds Try.pinned (OpenSpec.upto supplyLoadsSpec)

/-- 'bringuplaw19.SupplyProves', WHERE WHAT IT READS IS OF BULK AT MOST 1048576: true; the input reads as it did. -/
def supplyProvesUptoRow : OpenClaim := { program := "ytjmhlbogkeohpaa", sum := "e6b09a8928c6ffce71d159ccaba860aa045fc4be36866b1c527d05168064b152", func := "bringup/bringuplaw19.SupplyProves", spec := "supplyProves", unfollowed := true, recurses := true, apart := false, narrowed := true }
def SupplyProvesUptoSaid : Prop := supplyProvesUptoRow.holds Try.pinned (OpenSpec.upto supplyProvesSpec)

/-- 'bringuplaw19.SupplyAnswers', WHERE WHAT IT READS IS OF BULK AT MOST 1048576: true; the input reads as it did. -/
def supplyAnswersUptoRow : OpenClaim := { program := "ytjmhlbogkeohpaa", sum := "e6b09a8928c6ffce71d159ccaba860aa045fc4be36866b1c527d05168064b152", func := "bringup/bringuplaw19.SupplyAnswers", spec := "supplyAnswers", unfollowed := true, recurses := true, apart := false, narrowed := true }
def SupplyAnswersUptoSaid : Prop := supplyAnswersUptoRow.holds Try.pinned (OpenSpec.upto supplyAnswersSpec)

end Rows
end Go.Proofs.Ytjmhlbogkeohpaa

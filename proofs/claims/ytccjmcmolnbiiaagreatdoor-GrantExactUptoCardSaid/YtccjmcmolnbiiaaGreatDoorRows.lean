/-
  NARROWER THAN 'FOR EVERY INPUT', by the rows' own cells (each row's printed sentence says how): GrantPins: laid · GrantCount: laid · GrantExact: laid · GrantServes: laid · GrantOrder: laid · GrantLeast: laid.
  DERIVED. THE GIVEN ROWS OF THIS SEAT. 6 by the template 'for every input the law returns true; each argument reads behind the call as it read before'; 0 by the template 'total and deterministic' (their statements: YtccjmcmolnbiiaaGreatDoorTotals.lean).
  GIVEN WITH THE SEED: the statements are not yours to turn. If you find one false, say at which input.
  Laid BY PROGRAM, IN A SANDBOX (cutbox-rows.mjs): the forced cells as the released guide's own fill.sh prints them over the translation f5a19ee3dbe1c374… (all of the seat's roots in one cut). By AI agents, Wed Nov 11 2026. No macro, syntax, notation, axiom, sorry.
-/
import Derived.Test.YtccjmcmolnbiiaaGreatDoorChecked
import GoSem.Claim
import GoSem.ClaimJoined
import GoSem.ClaimMapViews
import Derived.JoinedTies
import Derived.KernelRfl
namespace Go.Proofs.YtccjmcmolnbiiaaGreatDoor
/- THE CELL 'sum', in the pinned program and in every row, IS THE sha256 OF THE DUMP (.gsa) THAT YtccjmcmolnbiiaaGreatDoorProg.lean LOADS. Nothing in Lean hashes anything: it is a label: what it is worth is what the hold of that sum in a sandbox is worth. -/
noncomputable def Tryz.pinned : Pinned := { name := "ytccjmcmolnbiiaagreatdoor", sum := "f5a19ee3dbe1c3744638c4a4a4bca57a5bceef348e56a8221089ab915106dac0", checked := Tryz.checked }
namespace Rows
def none {H : Type} : Left H := { results := [], args := [] }

/- WHAT THE LISTED PACKAGE-LEVEL VARIABLES READ AS WHEN THE CALL BEGINS. Each datum BY PROGRAM (the guide's laid-datum.mjs) off the statement by which the dump's own 'gosem.cut.vars' lays the variable. In a bare row this is a premise. The card (YtccjmcmolnbiiaaGreatDoorCards.lean) ties it to the program's text. -/
def laid_bringup_clock_off {H : Type} : DataW H := .agg [.lit (.int .i64 0), .lit (.int .i64 1)]

/-- 'bringuplaw33.GrantPins': WHATEVER THE INPUT: true; the input reads as it did. -/
def grantPinsSpec : ChangeSpec := { name := "grantPins", fn := fun _ => fun
  | [d1, d2] => { results := [.lit (.bool true)], args := [d1, d2] }
  | _ => none }
def grantPinsRow : OpenClaim := { program := "ytccjmcmolnbiiaagreatdoor", sum := "f5a19ee3dbe1c3744638c4a4a4bca57a5bceef348e56a8221089ab915106dac0", func := "bringup/bringuplaw33.GrantPins", spec := "grantPins", unfollowed := true, recurses := true, named := ["bringup/clock.off"], apart := false, laid := [("bringup/clock.off", laid_bringup_clock_off)] }
def GrantPinsSaid : Prop := grantPinsRow.holds Tryz.pinned (OpenSpec.ofChange grantPinsSpec)

/-- ITS FALSE NEIGHBOUR: 'it returns false'. Refute it at one input. -/
def grantPinsWrong : ChangeSpec := { name := "grantPins", fn := fun _ => fun
  | [d1, d2] => { results := [.lit (.bool false)], args := [d1, d2] }
  | _ => none }
def GrantPinsWrongFalsely : Prop := grantPinsRow.holds Tryz.pinned (OpenSpec.ofChange grantPinsWrong)

/-- 'bringuplaw33.GrantCount': WHATEVER THE INPUT: true; the input reads as it did. -/
def grantCountSpec : ChangeSpec := { name := "grantCount", fn := fun _ => fun
  | [d] => { results := [.lit (.bool true)], args := [d] }
  | _ => none }
def grantCountRow : OpenClaim := { program := "ytccjmcmolnbiiaagreatdoor", sum := "f5a19ee3dbe1c3744638c4a4a4bca57a5bceef348e56a8221089ab915106dac0", func := "bringup/bringuplaw33.GrantCount", spec := "grantCount", unfollowed := true, recurses := true, named := ["bringup/clock.off"], apart := false, laid := [("bringup/clock.off", laid_bringup_clock_off)] }
def GrantCountSaid : Prop := grantCountRow.holds Tryz.pinned (OpenSpec.ofChange grantCountSpec)

/-- ITS FALSE NEIGHBOUR: 'it returns false'. Refute it at one input. -/
def grantCountWrong : ChangeSpec := { name := "grantCount", fn := fun _ => fun
  | [d] => { results := [.lit (.bool false)], args := [d] }
  | _ => none }
def GrantCountWrongFalsely : Prop := grantCountRow.holds Tryz.pinned (OpenSpec.ofChange grantCountWrong)

/-- 'bringuplaw33.GrantExact': WHATEVER THE INPUT: true; the input reads as it did. -/
def grantExactSpec : ChangeSpec := { name := "grantExact", fn := fun _ => fun
  | [d1, d2, d3, d4, d5, d6] => { results := [.lit (.bool true)], args := [d1, d2, d3, d4, d5, d6] }
  | _ => none }
def grantExactRow : OpenClaim := { program := "ytccjmcmolnbiiaagreatdoor", sum := "f5a19ee3dbe1c3744638c4a4a4bca57a5bceef348e56a8221089ab915106dac0", func := "bringup/bringuplaw33.GrantExact", spec := "grantExact", unfollowed := true, recurses := true, named := ["bringup/clock.off"], apart := false, laid := [("bringup/clock.off", laid_bringup_clock_off)] }
def GrantExactSaid : Prop := grantExactRow.holds Tryz.pinned (OpenSpec.ofChange grantExactSpec)

/-- ITS FALSE NEIGHBOUR: 'it returns false'. Refute it at one input. -/
def grantExactWrong : ChangeSpec := { name := "grantExact", fn := fun _ => fun
  | [d1, d2, d3, d4, d5, d6] => { results := [.lit (.bool false)], args := [d1, d2, d3, d4, d5, d6] }
  | _ => none }
def GrantExactWrongFalsely : Prop := grantExactRow.holds Tryz.pinned (OpenSpec.ofChange grantExactWrong)

/-- 'bringuplaw33.GrantServes': WHATEVER THE INPUT: true; the input reads as it did. -/
def grantServesSpec : ChangeSpec := { name := "grantServes", fn := fun _ => fun
  | [d1, d2] => { results := [.lit (.bool true)], args := [d1, d2] }
  | _ => none }
def grantServesRow : OpenClaim := { program := "ytccjmcmolnbiiaagreatdoor", sum := "f5a19ee3dbe1c3744638c4a4a4bca57a5bceef348e56a8221089ab915106dac0", func := "bringup/bringuplaw33.GrantServes", spec := "grantServes", unfollowed := true, recurses := true, named := ["bringup/clock.off"], apart := false, laid := [("bringup/clock.off", laid_bringup_clock_off)] }
def GrantServesSaid : Prop := grantServesRow.holds Tryz.pinned (OpenSpec.ofChange grantServesSpec)

/-- ITS FALSE NEIGHBOUR: 'it returns false'. Refute it at one input. -/
def grantServesWrong : ChangeSpec := { name := "grantServes", fn := fun _ => fun
  | [d1, d2] => { results := [.lit (.bool false)], args := [d1, d2] }
  | _ => none }
def GrantServesWrongFalsely : Prop := grantServesRow.holds Tryz.pinned (OpenSpec.ofChange grantServesWrong)

/-- 'bringuplaw33.GrantOrder': WHATEVER THE INPUT: true; the input reads as it did. -/
def grantOrderSpec : ChangeSpec := { name := "grantOrder", fn := fun _ => fun
  | [d] => { results := [.lit (.bool true)], args := [d] }
  | _ => none }
def grantOrderRow : OpenClaim := { program := "ytccjmcmolnbiiaagreatdoor", sum := "f5a19ee3dbe1c3744638c4a4a4bca57a5bceef348e56a8221089ab915106dac0", func := "bringup/bringuplaw33.GrantOrder", spec := "grantOrder", unfollowed := true, recurses := true, named := ["bringup/clock.off"], apart := false, laid := [("bringup/clock.off", laid_bringup_clock_off)] }
def GrantOrderSaid : Prop := grantOrderRow.holds Tryz.pinned (OpenSpec.ofChange grantOrderSpec)

/-- ITS FALSE NEIGHBOUR: 'it returns false'. Refute it at one input. -/
def grantOrderWrong : ChangeSpec := { name := "grantOrder", fn := fun _ => fun
  | [d] => { results := [.lit (.bool false)], args := [d] }
  | _ => none }
def GrantOrderWrongFalsely : Prop := grantOrderRow.holds Tryz.pinned (OpenSpec.ofChange grantOrderWrong)

/-- 'bringuplaw33.GrantLeast': WHATEVER THE INPUT: true; the input reads as it did. -/
def grantLeastSpec : ChangeSpec := { name := "grantLeast", fn := fun _ => fun
  | [d1, d2] => { results := [.lit (.bool true)], args := [d1, d2] }
  | _ => none }
def grantLeastRow : OpenClaim := { program := "ytccjmcmolnbiiaagreatdoor", sum := "f5a19ee3dbe1c3744638c4a4a4bca57a5bceef348e56a8221089ab915106dac0", func := "bringup/bringuplaw33.GrantLeast", spec := "grantLeast", unfollowed := true, recurses := true, named := ["bringup/clock.off"], apart := false, laid := [("bringup/clock.off", laid_bringup_clock_off)] }
def GrantLeastSaid : Prop := grantLeastRow.holds Tryz.pinned (OpenSpec.ofChange grantLeastSpec)

/-- ITS FALSE NEIGHBOUR: 'it returns false'. Refute it at one input. -/
def grantLeastWrong : ChangeSpec := { name := "grantLeast", fn := fun _ => fun
  | [d1, d2] => { results := [.lit (.bool false)], args := [d1, d2] }
  | _ => none }
def GrantLeastWrongFalsely : Prop := grantLeastRow.holds Tryz.pinned (OpenSpec.ofChange grantLeastWrong)

/- THE SECOND FORM. 'bulk': how many values and letters a reading holds, each counted each time it is reached (what is shared counts as often as it is met; a slice's spare places count too). A statement '..UptoSaid' is the law's where the arguments, and the package variables that the reading takes, are together of bulk at most 1048576: NARROWER than '..Said'. Prove '..Said' where nothing that the law and all that it calls make is longer than what came in: it says more and counts as full. Else prove '..UptoSaid'. A law counts once. -/
mutual
def uptoBulk {H : Type} : DataW H → Nat
  | .lit (.string bytes) => bytes.length + 1
  | .lit _ => 1
  | .nil => 1
  | .ptr d => uptoBulk d + 1
  | .slice elems spare => uptoBulkAll elems + uptoBulkAll spare + 1
  | .agg parts => uptoBulkAll parts + 1
  | .iface _ d => uptoBulk d + 1
  | .map entries => uptoBulkEntries entries + 1
  | .held _ => 1
def uptoBulkAll {H : Type} : List (DataW H) → Nat
  | [] => 0
  | d :: r => uptoBulk d + uptoBulkAll r
def uptoBulkEntries {H : Type} : List (Lit × DataW H) → Nat
  | [] => 0
  | x :: r => uptoBulkEntry x + uptoBulkEntries r
def uptoBulkEntry {H : Type} : Lit × DataW H → Nat
  | (.string bytes, d) => bytes.length + uptoBulk d + 1
  | (_, d) => uptoBulk d + 1
 end
def uptoSmall : (H : Type) → List (DataW H) → Bool := fun _ ds => decide (uptoBulkAll ds ≤ 1048576)
def OpenSpec.upto (s : _root_.Go.ChangeSpec) : _root_.Go.OpenSpec := { _root_.Go.OpenSpec.ofChange s with cond := some uptoSmall }

/-- 'bringuplaw33.GrantPins', WHERE WHAT IT READS IS OF BULK AT MOST 1048576: true; the input reads as it did. -/
def grantPinsUptoRow : OpenClaim := { program := "ytccjmcmolnbiiaagreatdoor", sum := "f5a19ee3dbe1c3744638c4a4a4bca57a5bceef348e56a8221089ab915106dac0", func := "bringup/bringuplaw33.GrantPins", spec := "grantPins", unfollowed := true, recurses := true, named := ["bringup/clock.off"], apart := false, laid := [("bringup/clock.off", laid_bringup_clock_off)], narrowed := true }
def GrantPinsUptoSaid : Prop := grantPinsUptoRow.holds Tryz.pinned (OpenSpec.upto grantPinsSpec)

/-- 'bringuplaw33.GrantCount', WHERE WHAT IT READS IS OF BULK AT MOST 1048576: true; the input reads as it did. -/
def grantCountUptoRow : OpenClaim := { program := "ytccjmcmolnbiiaagreatdoor", sum := "f5a19ee3dbe1c3744638c4a4a4bca57a5bceef348e56a8221089ab915106dac0", func := "bringup/bringuplaw33.GrantCount", spec := "grantCount", unfollowed := true, recurses := true, named := ["bringup/clock.off"], apart := false, laid := [("bringup/clock.off", laid_bringup_clock_off)], narrowed := true }
def GrantCountUptoSaid : Prop := grantCountUptoRow.holds Tryz.pinned (OpenSpec.upto grantCountSpec)

/-- 'bringuplaw33.GrantExact', WHERE WHAT IT READS IS OF BULK AT MOST 1048576: true; the input reads as it did. -/
def grantExactUptoRow : OpenClaim := { program := "ytccjmcmolnbiiaagreatdoor", sum := "f5a19ee3dbe1c3744638c4a4a4bca57a5bceef348e56a8221089ab915106dac0", func := "bringup/bringuplaw33.GrantExact", spec := "grantExact", unfollowed := true, recurses := true, named := ["bringup/clock.off"], apart := false, laid := [("bringup/clock.off", laid_bringup_clock_off)], narrowed := true }
def GrantExactUptoSaid : Prop := grantExactUptoRow.holds Tryz.pinned (OpenSpec.upto grantExactSpec)

/-- 'bringuplaw33.GrantServes', WHERE WHAT IT READS IS OF BULK AT MOST 1048576: true; the input reads as it did. -/
def grantServesUptoRow : OpenClaim := { program := "ytccjmcmolnbiiaagreatdoor", sum := "f5a19ee3dbe1c3744638c4a4a4bca57a5bceef348e56a8221089ab915106dac0", func := "bringup/bringuplaw33.GrantServes", spec := "grantServes", unfollowed := true, recurses := true, named := ["bringup/clock.off"], apart := false, laid := [("bringup/clock.off", laid_bringup_clock_off)], narrowed := true }
def GrantServesUptoSaid : Prop := grantServesUptoRow.holds Tryz.pinned (OpenSpec.upto grantServesSpec)

/-- 'bringuplaw33.GrantOrder', WHERE WHAT IT READS IS OF BULK AT MOST 1048576: true; the input reads as it did. -/
def grantOrderUptoRow : OpenClaim := { program := "ytccjmcmolnbiiaagreatdoor", sum := "f5a19ee3dbe1c3744638c4a4a4bca57a5bceef348e56a8221089ab915106dac0", func := "bringup/bringuplaw33.GrantOrder", spec := "grantOrder", unfollowed := true, recurses := true, named := ["bringup/clock.off"], apart := false, laid := [("bringup/clock.off", laid_bringup_clock_off)], narrowed := true }
def GrantOrderUptoSaid : Prop := grantOrderUptoRow.holds Tryz.pinned (OpenSpec.upto grantOrderSpec)

/-- 'bringuplaw33.GrantLeast', WHERE WHAT IT READS IS OF BULK AT MOST 1048576: true; the input reads as it did. -/
def grantLeastUptoRow : OpenClaim := { program := "ytccjmcmolnbiiaagreatdoor", sum := "f5a19ee3dbe1c3744638c4a4a4bca57a5bceef348e56a8221089ab915106dac0", func := "bringup/bringuplaw33.GrantLeast", spec := "grantLeast", unfollowed := true, recurses := true, named := ["bringup/clock.off"], apart := false, laid := [("bringup/clock.off", laid_bringup_clock_off)], narrowed := true }
def GrantLeastUptoSaid : Prop := grantLeastUptoRow.holds Tryz.pinned (OpenSpec.upto grantLeastSpec)

end Rows
end Go.Proofs.YtccjmcmolnbiiaaGreatDoor

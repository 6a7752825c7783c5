/-
  DERIVED. GIVEN WITH THE SEED: THE CARDS: each row of YtnbjfoeapbncjaaGreatDoorRows.lean that lists a variable, with what it lists TIED to the program's text (the seventh form; the later family's looks); each row that meets fmt, with fmt's text TOLD by the authors' own Lean function (tested against real Go, not proved from fmt's source: count such statements apart). THE CARD IS WHAT COUNTS. Prove the row's statement (the work); the ties are given (YtnbjfoeapbncjaaGreatDoorTie.lean); close each card by the builder's one call (the guide's Derived/Test/ToyasCard.lean, 'card_holds'). Laid BY PROGRAM, IN A SANDBOX (cutbox-door.mjs). By AI agents, Wed Nov 11 2026. No macro, syntax, notation, axiom, sorry.
-/
import Derived.Test.YtnbjfoeapbncjaaGreatDoorRows
import GoSem.ClaimSeven
namespace Go.Proofs.YtnbjfoeapbncjaaGreatDoor
namespace Rows

/-- THE TIED CARD OF 'bringuplaw34.RefusalCircles'. -/
def refusalCirclesCard : Claim7 := { stood := { row := refusalCirclesRow, standIns := [], harness := (true, "d1b5fca0aad43a274b0bbceabe8102d1dbfb279301d26656f34c5e008aaf72ec"), looks := false }, kinds := [], alts := [], laidByText := true, laidKinds := [.data], laidTests := true, laidLooks := .later }
def RefusalCirclesCardSaid : Prop := Claim7.holds Tryz.pinned (.plain (OpenSpec.ofChange refusalCirclesSpec)) refusalCirclesCard

/-- THE SECOND FORM's CARD OF 'bringuplaw34.RefusalCircles'. -/
def refusalCirclesUptoCard : Claim7 := { stood := { row := refusalCirclesUptoRow, standIns := [], harness := (true, "d1b5fca0aad43a274b0bbceabe8102d1dbfb279301d26656f34c5e008aaf72ec"), looks := false }, kinds := [], alts := [], laidByText := true, laidKinds := [.data], laidTests := true, laidLooks := .later }
def RefusalCirclesUptoCardSaid : Prop := Claim7.holds Tryz.pinned (.plain (OpenSpec.upto refusalCirclesSpec)) refusalCirclesUptoCard
end Rows
end Go.Proofs.YtnbjfoeapbncjaaGreatDoor

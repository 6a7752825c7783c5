/-
  DERIVED. GIVEN WITH THE SEED: THE CARDS: each row of YtifekdmmpbcdgaaGreatDoorRows.lean that lists a variable, with what it lists TIED to the program's text (the seventh form; the later family's looks); each row that meets fmt, with fmt's text TOLD by the authors' own Lean function (tested against real Go, not proved from fmt's source: count such statements apart). THE CARD IS WHAT COUNTS. Prove the row's statement (the work); the ties are given (YtifekdmmpbcdgaaGreatDoorTie.lean); close each card by the builder's one call (the guide's Derived/Test/ToyasCard.lean, 'card_holds'). Laid BY PROGRAM, IN A SANDBOX (cutbox-door.mjs). By AI agents, Wed Nov 11 2026. No macro, syntax, notation, axiom, sorry.
-/
import Derived.Test.YtifekdmmpbcdgaaGreatDoorRows
import GoSem.ClaimSeven
namespace Go.Proofs.YtifekdmmpbcdgaaGreatDoor
namespace Rows

/-- THE TIED CARD OF 'bringuplaw35.PassageSafe'. -/
def passageSafeCard : Claim7 := { stood := { row := passageSafeRow, standIns := [], harness := (true, "1b2d1e2f73183d173db3e9c028035f86cb1ce8d5ee75572d7f6444ac95352508"), looks := false }, kinds := [], alts := [], laidByText := true, laidKinds := [.data], laidTests := true, laidLooks := .later }
def PassageSafeCardSaid : Prop := Claim7.holds Tryz.pinned (.plain (OpenSpec.ofChange passageSafeSpec)) passageSafeCard

/-- THE TIED CARD OF 'bringuplaw35.PassageFails'. -/
def passageFailsCard : Claim7 := { stood := { row := passageFailsRow, standIns := [], harness := (true, "1b2d1e2f73183d173db3e9c028035f86cb1ce8d5ee75572d7f6444ac95352508"), looks := false }, kinds := [], alts := [], laidByText := true, laidKinds := [.data], laidTests := true, laidLooks := .later }
def PassageFailsCardSaid : Prop := Claim7.holds Tryz.pinned (.plain (OpenSpec.ofChange passageFailsSpec)) passageFailsCard

/-- THE TIED CARD OF 'bringuplaw35.PassageBoth'. -/
def passageBothCard : Claim7 := { stood := { row := passageBothRow, standIns := [], harness := (true, "1b2d1e2f73183d173db3e9c028035f86cb1ce8d5ee75572d7f6444ac95352508"), looks := false }, kinds := [], alts := [], laidByText := true, laidKinds := [.data], laidTests := true, laidLooks := .later }
def PassageBothCardSaid : Prop := Claim7.holds Tryz.pinned (.plain (OpenSpec.ofChange passageBothSpec)) passageBothCard

/-- THE TIED CARD OF 'bringuplaw35.PassageLeast'. -/
def passageLeastCard : Claim7 := { stood := { row := passageLeastRow, standIns := [], harness := (true, "1b2d1e2f73183d173db3e9c028035f86cb1ce8d5ee75572d7f6444ac95352508"), looks := false }, kinds := [], alts := [], laidByText := true, laidKinds := [.data], laidTests := true, laidLooks := .later }
def PassageLeastCardSaid : Prop := Claim7.holds Tryz.pinned (.plain (OpenSpec.ofChange passageLeastSpec)) passageLeastCard

/-- THE SECOND FORM's CARD OF 'bringuplaw35.PassageSafe'. -/
def passageSafeUptoCard : Claim7 := { stood := { row := passageSafeUptoRow, standIns := [], harness := (true, "1b2d1e2f73183d173db3e9c028035f86cb1ce8d5ee75572d7f6444ac95352508"), looks := false }, kinds := [], alts := [], laidByText := true, laidKinds := [.data], laidTests := true, laidLooks := .later }
def PassageSafeUptoCardSaid : Prop := Claim7.holds Tryz.pinned (.plain (OpenSpec.upto passageSafeSpec)) passageSafeUptoCard

/-- THE SECOND FORM's CARD OF 'bringuplaw35.PassageFails'. -/
def passageFailsUptoCard : Claim7 := { stood := { row := passageFailsUptoRow, standIns := [], harness := (true, "1b2d1e2f73183d173db3e9c028035f86cb1ce8d5ee75572d7f6444ac95352508"), looks := false }, kinds := [], alts := [], laidByText := true, laidKinds := [.data], laidTests := true, laidLooks := .later }
def PassageFailsUptoCardSaid : Prop := Claim7.holds Tryz.pinned (.plain (OpenSpec.upto passageFailsSpec)) passageFailsUptoCard

/-- THE SECOND FORM's CARD OF 'bringuplaw35.PassageBoth'. -/
def passageBothUptoCard : Claim7 := { stood := { row := passageBothUptoRow, standIns := [], harness := (true, "1b2d1e2f73183d173db3e9c028035f86cb1ce8d5ee75572d7f6444ac95352508"), looks := false }, kinds := [], alts := [], laidByText := true, laidKinds := [.data], laidTests := true, laidLooks := .later }
def PassageBothUptoCardSaid : Prop := Claim7.holds Tryz.pinned (.plain (OpenSpec.upto passageBothSpec)) passageBothUptoCard

/-- THE SECOND FORM's CARD OF 'bringuplaw35.PassageLeast'. -/
def passageLeastUptoCard : Claim7 := { stood := { row := passageLeastUptoRow, standIns := [], harness := (true, "1b2d1e2f73183d173db3e9c028035f86cb1ce8d5ee75572d7f6444ac95352508"), looks := false }, kinds := [], alts := [], laidByText := true, laidKinds := [.data], laidTests := true, laidLooks := .later }
def PassageLeastUptoCardSaid : Prop := Claim7.holds Tryz.pinned (.plain (OpenSpec.upto passageLeastSpec)) passageLeastUptoCard
end Rows
end Go.Proofs.YtifekdmmpbcdgaaGreatDoor

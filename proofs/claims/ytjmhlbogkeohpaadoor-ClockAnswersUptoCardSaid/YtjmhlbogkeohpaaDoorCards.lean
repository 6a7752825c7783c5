/-
  DERIVED. GIVEN WITH THE SEED: THE CARDS: each row of YtjmhlbogkeohpaaDoorRows.lean that lists a variable, with what it lists TIED to the program's text (the seventh form; the later family's looks); each row that meets fmt, with fmt's text TOLD by the authors' own Lean function (tested against real Go, not proved from fmt's source: count such statements apart). THE CARD IS WHAT COUNTS. Prove the row's statement (the work); the ties are given (YtjmhlbogkeohpaaDoorTie.lean); close each card by the builder's one call (the guide's Derived/Test/ToyasCard.lean, 'card_holds'). Laid BY PROGRAM, IN A SANDBOX (cutbox-door.mjs). By AI agents, Wed Nov 11 2026. No macro, syntax, notation, axiom, sorry.
-/
import Derived.Test.YtjmhlbogkeohpaaDoorRows
import GoSem.ClaimSeven
namespace Go.Proofs.YtjmhlbogkeohpaaDoor
namespace Rows

/-- THE TIED CARD OF 'bringuplaw16.ClockMeets'. -/
def clockMeetsCard : Claim7 := { stood := { row := clockMeetsRow, standIns := [], harness := (true, "0a58284c75b9e610d5be7a26943b22416c764121613b0bee1ec67975f9bda473"), looks := false }, kinds := [], alts := [], laidByText := true, laidKinds := [.data], laidTests := true, laidLooks := .later }
def ClockMeetsCardSaid : Prop := Claim7.holds Tryd.pinned (.plain (OpenSpec.ofChange clockMeetsSpec)) clockMeetsCard

/-- THE TIED CARD OF 'bringuplaw16.ClockScales'. -/
def clockScalesCard : Claim7 := { stood := { row := clockScalesRow, standIns := [], harness := (true, "0a58284c75b9e610d5be7a26943b22416c764121613b0bee1ec67975f9bda473"), looks := false }, kinds := [], alts := [], laidByText := true, laidKinds := [.data], laidTests := true, laidLooks := .later }
def ClockScalesCardSaid : Prop := Claim7.holds Tryd.pinned (.plain (OpenSpec.ofChange clockScalesSpec)) clockScalesCard

/-- THE TIED CARD OF 'bringuplaw16.ClockAnswers'. -/
def clockAnswersCard : Claim7 := { stood := { row := clockAnswersRow, standIns := [], harness := (true, "0a58284c75b9e610d5be7a26943b22416c764121613b0bee1ec67975f9bda473"), looks := false }, kinds := [], alts := [], laidByText := true, laidKinds := [.data], laidTests := true, laidLooks := .later }
def ClockAnswersCardSaid : Prop := Claim7.holds Tryd.pinned (.plain (OpenSpec.ofChange clockAnswersSpec)) clockAnswersCard

/-- THE TIED CARD OF 'bringuplaw16.ClockWays'. -/
def clockWaysCard : Claim7 := { stood := { row := clockWaysRow, standIns := [], harness := (true, "0a58284c75b9e610d5be7a26943b22416c764121613b0bee1ec67975f9bda473"), looks := false }, kinds := [], alts := [], laidByText := true, laidKinds := [.data], laidTests := true, laidLooks := .later }
def ClockWaysCardSaid : Prop := Claim7.holds Tryd.pinned (.plain (OpenSpec.ofChange clockWaysSpec)) clockWaysCard

/-- THE SECOND FORM's CARD OF 'bringuplaw16.ClockMeets'. -/
def clockMeetsUptoCard : Claim7 := { stood := { row := clockMeetsUptoRow, standIns := [], harness := (true, "0a58284c75b9e610d5be7a26943b22416c764121613b0bee1ec67975f9bda473"), looks := false }, kinds := [], alts := [], laidByText := true, laidKinds := [.data], laidTests := true, laidLooks := .later }
def ClockMeetsUptoCardSaid : Prop := Claim7.holds Tryd.pinned (.plain (OpenSpec.upto clockMeetsSpec)) clockMeetsUptoCard

/-- THE SECOND FORM's CARD OF 'bringuplaw16.ClockScales'. -/
def clockScalesUptoCard : Claim7 := { stood := { row := clockScalesUptoRow, standIns := [], harness := (true, "0a58284c75b9e610d5be7a26943b22416c764121613b0bee1ec67975f9bda473"), looks := false }, kinds := [], alts := [], laidByText := true, laidKinds := [.data], laidTests := true, laidLooks := .later }
def ClockScalesUptoCardSaid : Prop := Claim7.holds Tryd.pinned (.plain (OpenSpec.upto clockScalesSpec)) clockScalesUptoCard

/-- THE SECOND FORM's CARD OF 'bringuplaw16.ClockAnswers'. -/
def clockAnswersUptoCard : Claim7 := { stood := { row := clockAnswersUptoRow, standIns := [], harness := (true, "0a58284c75b9e610d5be7a26943b22416c764121613b0bee1ec67975f9bda473"), looks := false }, kinds := [], alts := [], laidByText := true, laidKinds := [.data], laidTests := true, laidLooks := .later }
def ClockAnswersUptoCardSaid : Prop := Claim7.holds Tryd.pinned (.plain (OpenSpec.upto clockAnswersSpec)) clockAnswersUptoCard

/-- THE SECOND FORM's CARD OF 'bringuplaw16.ClockWays'. -/
def clockWaysUptoCard : Claim7 := { stood := { row := clockWaysUptoRow, standIns := [], harness := (true, "0a58284c75b9e610d5be7a26943b22416c764121613b0bee1ec67975f9bda473"), looks := false }, kinds := [], alts := [], laidByText := true, laidKinds := [.data], laidTests := true, laidLooks := .later }
def ClockWaysUptoCardSaid : Prop := Claim7.holds Tryd.pinned (.plain (OpenSpec.upto clockWaysSpec)) clockWaysUptoCard
end Rows
end Go.Proofs.YtjmhlbogkeohpaaDoor

/-
  DERIVED. GIVEN WITH THE SEED: THE CARDS: each row of YtccjmcmolnbiiaaGreatDoorRows.lean that lists a variable, with what it lists TIED to the program's text (the seventh form; the later family's looks); each row that meets fmt, with fmt's text TOLD by the authors' own Lean function (tested against real Go, not proved from fmt's source: count such statements apart). THE CARD IS WHAT COUNTS. Prove the row's statement (the work); the ties are given (YtccjmcmolnbiiaaGreatDoorTie.lean); close each card by the builder's one call (the guide's Derived/Test/ToyasCard.lean, 'card_holds'). Laid BY PROGRAM, IN A SANDBOX (cutbox-door.mjs). By AI agents, Wed Nov 11 2026. No macro, syntax, notation, axiom, sorry.
-/
import Derived.Test.YtccjmcmolnbiiaaGreatDoorRows
import GoSem.ClaimSeven
namespace Go.Proofs.YtccjmcmolnbiiaaGreatDoor
namespace Rows

/-- THE TIED CARD OF 'bringuplaw33.GrantPins'. -/
def grantPinsCard : Claim7 := { stood := { row := grantPinsRow, standIns := [], harness := (true, "db7c717fb90629ad3da5a4df5b4af929cbdf0a962e9a1304de9f74c2aba308a5"), looks := false }, kinds := [], alts := [], laidByText := true, laidKinds := [.data], laidTests := true, laidLooks := .later }
def GrantPinsCardSaid : Prop := Claim7.holds Tryz.pinned (.plain (OpenSpec.ofChange grantPinsSpec)) grantPinsCard

/-- THE TIED CARD OF 'bringuplaw33.GrantCount'. -/
def grantCountCard : Claim7 := { stood := { row := grantCountRow, standIns := [], harness := (true, "db7c717fb90629ad3da5a4df5b4af929cbdf0a962e9a1304de9f74c2aba308a5"), looks := false }, kinds := [], alts := [], laidByText := true, laidKinds := [.data], laidTests := true, laidLooks := .later }
def GrantCountCardSaid : Prop := Claim7.holds Tryz.pinned (.plain (OpenSpec.ofChange grantCountSpec)) grantCountCard

/-- THE TIED CARD OF 'bringuplaw33.GrantExact'. -/
def grantExactCard : Claim7 := { stood := { row := grantExactRow, standIns := [], harness := (true, "db7c717fb90629ad3da5a4df5b4af929cbdf0a962e9a1304de9f74c2aba308a5"), looks := false }, kinds := [], alts := [], laidByText := true, laidKinds := [.data], laidTests := true, laidLooks := .later }
def GrantExactCardSaid : Prop := Claim7.holds Tryz.pinned (.plain (OpenSpec.ofChange grantExactSpec)) grantExactCard

/-- THE TIED CARD OF 'bringuplaw33.GrantServes'. -/
def grantServesCard : Claim7 := { stood := { row := grantServesRow, standIns := [], harness := (true, "db7c717fb90629ad3da5a4df5b4af929cbdf0a962e9a1304de9f74c2aba308a5"), looks := false }, kinds := [], alts := [], laidByText := true, laidKinds := [.data], laidTests := true, laidLooks := .later }
def GrantServesCardSaid : Prop := Claim7.holds Tryz.pinned (.plain (OpenSpec.ofChange grantServesSpec)) grantServesCard

/-- THE TIED CARD OF 'bringuplaw33.GrantOrder'. -/
def grantOrderCard : Claim7 := { stood := { row := grantOrderRow, standIns := [], harness := (true, "db7c717fb90629ad3da5a4df5b4af929cbdf0a962e9a1304de9f74c2aba308a5"), looks := false }, kinds := [], alts := [], laidByText := true, laidKinds := [.data], laidTests := true, laidLooks := .later }
def GrantOrderCardSaid : Prop := Claim7.holds Tryz.pinned (.plain (OpenSpec.ofChange grantOrderSpec)) grantOrderCard

/-- THE TIED CARD OF 'bringuplaw33.GrantLeast'. -/
def grantLeastCard : Claim7 := { stood := { row := grantLeastRow, standIns := [], harness := (true, "db7c717fb90629ad3da5a4df5b4af929cbdf0a962e9a1304de9f74c2aba308a5"), looks := false }, kinds := [], alts := [], laidByText := true, laidKinds := [.data], laidTests := true, laidLooks := .later }
def GrantLeastCardSaid : Prop := Claim7.holds Tryz.pinned (.plain (OpenSpec.ofChange grantLeastSpec)) grantLeastCard

/-- THE SECOND FORM's CARD OF 'bringuplaw33.GrantPins'. -/
def grantPinsUptoCard : Claim7 := { stood := { row := grantPinsUptoRow, standIns := [], harness := (true, "db7c717fb90629ad3da5a4df5b4af929cbdf0a962e9a1304de9f74c2aba308a5"), looks := false }, kinds := [], alts := [], laidByText := true, laidKinds := [.data], laidTests := true, laidLooks := .later }
def GrantPinsUptoCardSaid : Prop := Claim7.holds Tryz.pinned (.plain (OpenSpec.upto grantPinsSpec)) grantPinsUptoCard

/-- THE SECOND FORM's CARD OF 'bringuplaw33.GrantCount'. -/
def grantCountUptoCard : Claim7 := { stood := { row := grantCountUptoRow, standIns := [], harness := (true, "db7c717fb90629ad3da5a4df5b4af929cbdf0a962e9a1304de9f74c2aba308a5"), looks := false }, kinds := [], alts := [], laidByText := true, laidKinds := [.data], laidTests := true, laidLooks := .later }
def GrantCountUptoCardSaid : Prop := Claim7.holds Tryz.pinned (.plain (OpenSpec.upto grantCountSpec)) grantCountUptoCard

/-- THE SECOND FORM's CARD OF 'bringuplaw33.GrantExact'. -/
def grantExactUptoCard : Claim7 := { stood := { row := grantExactUptoRow, standIns := [], harness := (true, "db7c717fb90629ad3da5a4df5b4af929cbdf0a962e9a1304de9f74c2aba308a5"), looks := false }, kinds := [], alts := [], laidByText := true, laidKinds := [.data], laidTests := true, laidLooks := .later }
def GrantExactUptoCardSaid : Prop := Claim7.holds Tryz.pinned (.plain (OpenSpec.upto grantExactSpec)) grantExactUptoCard

/-- THE SECOND FORM's CARD OF 'bringuplaw33.GrantServes'. -/
def grantServesUptoCard : Claim7 := { stood := { row := grantServesUptoRow, standIns := [], harness := (true, "db7c717fb90629ad3da5a4df5b4af929cbdf0a962e9a1304de9f74c2aba308a5"), looks := false }, kinds := [], alts := [], laidByText := true, laidKinds := [.data], laidTests := true, laidLooks := .later }
def GrantServesUptoCardSaid : Prop := Claim7.holds Tryz.pinned (.plain (OpenSpec.upto grantServesSpec)) grantServesUptoCard

/-- THE SECOND FORM's CARD OF 'bringuplaw33.GrantOrder'. -/
def grantOrderUptoCard : Claim7 := { stood := { row := grantOrderUptoRow, standIns := [], harness := (true, "db7c717fb90629ad3da5a4df5b4af929cbdf0a962e9a1304de9f74c2aba308a5"), looks := false }, kinds := [], alts := [], laidByText := true, laidKinds := [.data], laidTests := true, laidLooks := .later }
def GrantOrderUptoCardSaid : Prop := Claim7.holds Tryz.pinned (.plain (OpenSpec.upto grantOrderSpec)) grantOrderUptoCard

/-- THE SECOND FORM's CARD OF 'bringuplaw33.GrantLeast'. -/
def grantLeastUptoCard : Claim7 := { stood := { row := grantLeastUptoRow, standIns := [], harness := (true, "db7c717fb90629ad3da5a4df5b4af929cbdf0a962e9a1304de9f74c2aba308a5"), looks := false }, kinds := [], alts := [], laidByText := true, laidKinds := [.data], laidTests := true, laidLooks := .later }
def GrantLeastUptoCardSaid : Prop := Claim7.holds Tryz.pinned (.plain (OpenSpec.upto grantLeastSpec)) grantLeastUptoCard
end Rows
end Go.Proofs.YtccjmcmolnbiiaaGreatDoor

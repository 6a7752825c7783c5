/-
  DERIVED. GIVEN WITH THE SEED: THE CARDS: each row of YtfblhejmclcdmaaGreatDoorRows.lean that lists a variable, with what it lists TIED to the program's text (the seventh form; the later family's looks); each row that meets fmt, with fmt's text TOLD by the authors' own Lean function (tested against real Go, not proved from fmt's source: count such statements apart). THE CARD IS WHAT COUNTS. Prove the row's statement (the work); the ties are given (YtfblhejmclcdmaaGreatDoorTie.lean); close each card by the builder's one call (the guide's Derived/Test/ToyasCard.lean, 'card_holds'). Laid BY PROGRAM, IN A SANDBOX (cutbox-door.mjs). By AI agents, Wed Nov 11 2026. No macro, syntax, notation, axiom, sorry.
-/
import Derived.Test.YtfblhejmclcdmaaGreatDoorRows
import GoSem.ClaimSeven
namespace Go.Proofs.YtfblhejmclcdmaaGreatDoor
namespace Rows

/-- THE TIED CARD OF 'bringuplaw31.RulesFewer'. -/
def rulesFewerCard : Claim7 := { stood := { row := rulesFewerRow, standIns := [], harness := (true, "76c8fa13ce6461f68ec0df461a201cccab2664e8e70d934bb6c9f9c864bc9791"), looks := false }, kinds := [], alts := [], laidByText := true, laidKinds := [.data], laidTests := true, laidLooks := .later }
def RulesFewerCardSaid : Prop := Claim7.holds Tryz.pinned (.plain (OpenSpec.ofChange rulesFewerSpec)) rulesFewerCard

/-- THE TIED CARD OF 'bringuplaw31.RulesCut'. -/
def rulesCutCard : Claim7 := { stood := { row := rulesCutRow, standIns := [], harness := (true, "76c8fa13ce6461f68ec0df461a201cccab2664e8e70d934bb6c9f9c864bc9791"), looks := false }, kinds := [], alts := [], laidByText := true, laidKinds := [.data], laidTests := true, laidLooks := .later }
def RulesCutCardSaid : Prop := Claim7.holds Tryz.pinned (.plain (OpenSpec.ofChange rulesCutSpec)) rulesCutCard

/-- THE TIED CARD OF 'bringuplaw31.RulesExact'. -/
def rulesExactCard : Claim7 := { stood := { row := rulesExactRow, standIns := [], harness := (true, "76c8fa13ce6461f68ec0df461a201cccab2664e8e70d934bb6c9f9c864bc9791"), looks := false }, kinds := [], alts := [], laidByText := true, laidKinds := [.data], laidTests := true, laidLooks := .later }
def RulesExactCardSaid : Prop := Claim7.holds Tryz.pinned (.plain (OpenSpec.ofChange rulesExactSpec)) rulesExactCard

/-- THE SECOND FORM's CARD OF 'bringuplaw31.RulesFewer'. -/
def rulesFewerUptoCard : Claim7 := { stood := { row := rulesFewerUptoRow, standIns := [], harness := (true, "76c8fa13ce6461f68ec0df461a201cccab2664e8e70d934bb6c9f9c864bc9791"), looks := false }, kinds := [], alts := [], laidByText := true, laidKinds := [.data], laidTests := true, laidLooks := .later }
def RulesFewerUptoCardSaid : Prop := Claim7.holds Tryz.pinned (.plain (OpenSpec.upto rulesFewerSpec)) rulesFewerUptoCard

/-- THE SECOND FORM's CARD OF 'bringuplaw31.RulesCut'. -/
def rulesCutUptoCard : Claim7 := { stood := { row := rulesCutUptoRow, standIns := [], harness := (true, "76c8fa13ce6461f68ec0df461a201cccab2664e8e70d934bb6c9f9c864bc9791"), looks := false }, kinds := [], alts := [], laidByText := true, laidKinds := [.data], laidTests := true, laidLooks := .later }
def RulesCutUptoCardSaid : Prop := Claim7.holds Tryz.pinned (.plain (OpenSpec.upto rulesCutSpec)) rulesCutUptoCard

/-- THE SECOND FORM's CARD OF 'bringuplaw31.RulesExact'. -/
def rulesExactUptoCard : Claim7 := { stood := { row := rulesExactUptoRow, standIns := [], harness := (true, "76c8fa13ce6461f68ec0df461a201cccab2664e8e70d934bb6c9f9c864bc9791"), looks := false }, kinds := [], alts := [], laidByText := true, laidKinds := [.data], laidTests := true, laidLooks := .later }
def RulesExactUptoCardSaid : Prop := Claim7.holds Tryz.pinned (.plain (OpenSpec.upto rulesExactSpec)) rulesExactUptoCard
end Rows
end Go.Proofs.YtfblhejmclcdmaaGreatDoor

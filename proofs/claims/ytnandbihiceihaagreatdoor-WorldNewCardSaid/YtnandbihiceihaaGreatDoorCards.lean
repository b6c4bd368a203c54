/-
  DERIVED. GIVEN WITH THE SEED: THE CARDS: each row of YtnandbihiceihaaGreatDoorRows.lean that lists a variable, with what it lists TIED to the program's text (the seventh form; the later family's looks); each row that meets fmt, with fmt's text TOLD by the authors' own Lean function (tested against real Go, not proved from fmt's source: count such statements apart). THE CARD IS WHAT COUNTS. Prove the row's statement (the work); the ties are given (YtnandbihiceihaaGreatDoorTie.lean); close each card by the builder's one call (the guide's Derived/Test/ToyasCard.lean, 'card_holds'). Laid BY PROGRAM, IN A SANDBOX (cutbox-door.mjs). By AI agents, Wed Nov 11 2026. No macro, syntax, notation, axiom, sorry.
-/
import Derived.Test.YtnandbihiceihaaGreatDoorRows
import GoSem.ClaimSeven
namespace Go.Proofs.YtnandbihiceihaaGreatDoor
namespace Rows

/-- THE TIED CARD OF 'flagstonelaw45.WorldNew'. -/
def worldNewCard : Claim7 := { stood := { row := worldNewRow, standIns := [], harness := (true, "24ef085ececbf2e449944f2fa279a9d6dabc29a236d619dcf20cebb4c2546787"), looks := false }, kinds := [], alts := [], laidByText := true, laidKinds := [.data, .data, .data, .listed, .data], laidTests := true, laidLooks := .later }
def WorldNewCardSaid : Prop := Claim7.holds Tryz.pinned (.plain (OpenSpec.ofChange worldNewSpec)) worldNewCard

/-- THE TIED CARD OF 'flagstonelaw45.WorldTables'. -/
def worldTablesCard : Claim7 := { stood := { row := worldTablesRow, standIns := [], harness := (true, "24ef085ececbf2e449944f2fa279a9d6dabc29a236d619dcf20cebb4c2546787"), looks := false }, kinds := [], alts := [], laidByText := true, laidKinds := [.data, .data, .data, .listed, .data], laidTests := true, laidLooks := .later }
def WorldTablesCardSaid : Prop := Claim7.holds Tryz.pinned (.plain (OpenSpec.ofChange worldTablesSpec)) worldTablesCard

/-- THE SECOND FORM's CARD OF 'flagstonelaw45.WorldNew'. -/
def worldNewUptoCard : Claim7 := { stood := { row := worldNewUptoRow, standIns := [], harness := (true, "24ef085ececbf2e449944f2fa279a9d6dabc29a236d619dcf20cebb4c2546787"), looks := false }, kinds := [], alts := [], laidByText := true, laidKinds := [.data, .data, .data, .listed, .data], laidTests := true, laidLooks := .later }
def WorldNewUptoCardSaid : Prop := Claim7.holds Tryz.pinned (.plain (OpenSpec.upto worldNewSpec)) worldNewUptoCard

/-- THE SECOND FORM's CARD OF 'flagstonelaw45.WorldTables'. -/
def worldTablesUptoCard : Claim7 := { stood := { row := worldTablesUptoRow, standIns := [], harness := (true, "24ef085ececbf2e449944f2fa279a9d6dabc29a236d619dcf20cebb4c2546787"), looks := false }, kinds := [], alts := [], laidByText := true, laidKinds := [.data, .data, .data, .listed, .data], laidTests := true, laidLooks := .later }
def WorldTablesUptoCardSaid : Prop := Claim7.holds Tryz.pinned (.plain (OpenSpec.upto worldTablesSpec)) worldTablesUptoCard
end Rows
end Go.Proofs.YtnandbihiceihaaGreatDoor

/-
  DERIVED. GIVEN WITH THE SEED: THE CARDS: each row of YtgfgndaoocfpdaaGreatDoorRows.lean that lists a variable, with what it lists TIED to the program's text (the seventh form; the later family's looks); each row that meets fmt, with fmt's text TOLD by the authors' own Lean function (tested against real Go, not proved from fmt's source: count such statements apart). THE CARD IS WHAT COUNTS. Prove the row's statement (the work); the ties are given (YtgfgndaoocfpdaaGreatDoorTie.lean); close each card by the builder's one call (the guide's Derived/Test/ToyasCard.lean, 'card_holds'). Laid BY PROGRAM, IN A SANDBOX (cutbox-door.mjs). By AI agents, Wed Nov 11 2026. No macro, syntax, notation, axiom, sorry.
-/
import Derived.Test.YtgfgndaoocfpdaaGreatDoorRows
import GoSem.ClaimSeven
namespace Go.Proofs.YtgfgndaoocfpdaaGreatDoor
namespace Rows

/-- THE TIED CARD OF 'flagstonelaw43.GuardChecks'. -/
def guardChecksCard : Claim7 := { stood := { row := guardChecksRow, standIns := [], harness := (true, "66c7051dc7189c4ddc24bb28ad65d48c8b7803c24c2572dd87649f307a065bc8"), looks := false }, kinds := [], alts := [], laidByText := true, laidKinds := [.listed, .data], laidTests := true, laidLooks := .later }
def GuardChecksCardSaid : Prop := Claim7.holds Tryz.pinned (.plain (OpenSpec.ofChange guardChecksSpec)) guardChecksCard

/-- THE TIED CARD OF 'flagstonelaw43.GuardLooks'. -/
def guardLooksCard : Claim7 := { stood := { row := guardLooksRow, standIns := [], harness := (true, "66c7051dc7189c4ddc24bb28ad65d48c8b7803c24c2572dd87649f307a065bc8"), looks := false }, kinds := [], alts := [], laidByText := true, laidKinds := [.listed, .data], laidTests := true, laidLooks := .later }
def GuardLooksCardSaid : Prop := Claim7.holds Tryz.pinned (.plain (OpenSpec.ofChange guardLooksSpec)) guardLooksCard

/-- THE TIED CARD OF 'flagstonelaw43.GuardRuns'. -/
def guardRunsCard : Claim7 := { stood := { row := guardRunsRow, standIns := [], harness := (true, "66c7051dc7189c4ddc24bb28ad65d48c8b7803c24c2572dd87649f307a065bc8"), looks := false }, kinds := [], alts := [], laidByText := true, laidKinds := [.listed, .data], laidTests := true, laidLooks := .later }
def GuardRunsCardSaid : Prop := Claim7.holds Tryz.pinned (.plain (OpenSpec.ofChange guardRunsSpec)) guardRunsCard

/-- THE TIED CARD OF 'flagstonelaw43.GuardReplays'. -/
def guardReplaysCard : Claim7 := { stood := { row := guardReplaysRow, standIns := [], harness := (true, "66c7051dc7189c4ddc24bb28ad65d48c8b7803c24c2572dd87649f307a065bc8"), looks := false }, kinds := [], alts := [], laidByText := true, laidKinds := [.listed, .data], laidTests := true, laidLooks := .later }
def GuardReplaysCardSaid : Prop := Claim7.holds Tryz.pinned (.plain (OpenSpec.ofChange guardReplaysSpec)) guardReplaysCard

/-- THE TIED CARD OF 'flagstonelaw43.GuardCourse'. -/
def guardCourseCard : Claim7 := { stood := { row := guardCourseRow, standIns := [], harness := (true, "66c7051dc7189c4ddc24bb28ad65d48c8b7803c24c2572dd87649f307a065bc8"), looks := false }, kinds := [], alts := [], laidByText := true, laidKinds := [.listed, .data], laidTests := true, laidLooks := .later }
def GuardCourseCardSaid : Prop := Claim7.holds Tryz.pinned (.plain (OpenSpec.ofChange guardCourseSpec)) guardCourseCard

/-- THE TIED CARD OF 'flagstonelaw43.GuardReasons'. -/
def guardReasonsCard : Claim7 := { stood := { row := guardReasonsRow, standIns := [], harness := (true, "66c7051dc7189c4ddc24bb28ad65d48c8b7803c24c2572dd87649f307a065bc8"), looks := false }, kinds := [], alts := [], laidByText := true, laidKinds := [.listed, .data], laidTests := true, laidLooks := .later }
def GuardReasonsCardSaid : Prop := Claim7.holds Tryz.pinned (.plain (OpenSpec.ofChange guardReasonsSpec)) guardReasonsCard

/-- THE SECOND FORM's CARD OF 'flagstonelaw43.GuardChecks'. -/
def guardChecksUptoCard : Claim7 := { stood := { row := guardChecksUptoRow, standIns := [], harness := (true, "66c7051dc7189c4ddc24bb28ad65d48c8b7803c24c2572dd87649f307a065bc8"), looks := false }, kinds := [], alts := [], laidByText := true, laidKinds := [.listed, .data], laidTests := true, laidLooks := .later }
def GuardChecksUptoCardSaid : Prop := Claim7.holds Tryz.pinned (.plain (OpenSpec.upto guardChecksSpec)) guardChecksUptoCard

/-- THE SECOND FORM's CARD OF 'flagstonelaw43.GuardLooks'. -/
def guardLooksUptoCard : Claim7 := { stood := { row := guardLooksUptoRow, standIns := [], harness := (true, "66c7051dc7189c4ddc24bb28ad65d48c8b7803c24c2572dd87649f307a065bc8"), looks := false }, kinds := [], alts := [], laidByText := true, laidKinds := [.listed, .data], laidTests := true, laidLooks := .later }
def GuardLooksUptoCardSaid : Prop := Claim7.holds Tryz.pinned (.plain (OpenSpec.upto guardLooksSpec)) guardLooksUptoCard

/-- THE SECOND FORM's CARD OF 'flagstonelaw43.GuardRuns'. -/
def guardRunsUptoCard : Claim7 := { stood := { row := guardRunsUptoRow, standIns := [], harness := (true, "66c7051dc7189c4ddc24bb28ad65d48c8b7803c24c2572dd87649f307a065bc8"), looks := false }, kinds := [], alts := [], laidByText := true, laidKinds := [.listed, .data], laidTests := true, laidLooks := .later }
def GuardRunsUptoCardSaid : Prop := Claim7.holds Tryz.pinned (.plain (OpenSpec.upto guardRunsSpec)) guardRunsUptoCard

/-- THE SECOND FORM's CARD OF 'flagstonelaw43.GuardReplays'. -/
def guardReplaysUptoCard : Claim7 := { stood := { row := guardReplaysUptoRow, standIns := [], harness := (true, "66c7051dc7189c4ddc24bb28ad65d48c8b7803c24c2572dd87649f307a065bc8"), looks := false }, kinds := [], alts := [], laidByText := true, laidKinds := [.listed, .data], laidTests := true, laidLooks := .later }
def GuardReplaysUptoCardSaid : Prop := Claim7.holds Tryz.pinned (.plain (OpenSpec.upto guardReplaysSpec)) guardReplaysUptoCard

/-- THE SECOND FORM's CARD OF 'flagstonelaw43.GuardCourse'. -/
def guardCourseUptoCard : Claim7 := { stood := { row := guardCourseUptoRow, standIns := [], harness := (true, "66c7051dc7189c4ddc24bb28ad65d48c8b7803c24c2572dd87649f307a065bc8"), looks := false }, kinds := [], alts := [], laidByText := true, laidKinds := [.listed, .data], laidTests := true, laidLooks := .later }
def GuardCourseUptoCardSaid : Prop := Claim7.holds Tryz.pinned (.plain (OpenSpec.upto guardCourseSpec)) guardCourseUptoCard

/-- THE SECOND FORM's CARD OF 'flagstonelaw43.GuardReasons'. -/
def guardReasonsUptoCard : Claim7 := { stood := { row := guardReasonsUptoRow, standIns := [], harness := (true, "66c7051dc7189c4ddc24bb28ad65d48c8b7803c24c2572dd87649f307a065bc8"), looks := false }, kinds := [], alts := [], laidByText := true, laidKinds := [.listed, .data], laidTests := true, laidLooks := .later }
def GuardReasonsUptoCardSaid : Prop := Claim7.holds Tryz.pinned (.plain (OpenSpec.upto guardReasonsSpec)) guardReasonsUptoCard
end Rows
end Go.Proofs.YtgfgndaoocfpdaaGreatDoor

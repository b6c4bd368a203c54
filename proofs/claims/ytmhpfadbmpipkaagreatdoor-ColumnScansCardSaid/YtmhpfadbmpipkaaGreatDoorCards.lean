/-
  DERIVED. GIVEN WITH THE SEED: THE CARDS: each row of YtmhpfadbmpipkaaGreatDoorRows.lean that lists a variable, with what it lists TIED to the program's text (the seventh form; the later family's looks); each row that meets fmt, with fmt's text TOLD by the authors' own Lean function (tested against real Go, not proved from fmt's source: count such statements apart). THE CARD IS WHAT COUNTS. Prove the row's statement (the work); the ties are given (YtmhpfadbmpipkaaGreatDoorTie.lean); close each card by the builder's one call (the guide's Derived/Test/ToyasCard.lean, 'card_holds'). Laid BY PROGRAM, IN A SANDBOX (cutbox-door.mjs). By AI agents, Wed Nov 11 2026. No macro, syntax, notation, axiom, sorry.
-/
import Derived.Test.YtmhpfadbmpipkaaGreatDoorRows
import GoSem.ClaimSeven
namespace Go.Proofs.YtmhpfadbmpipkaaGreatDoor
namespace Rows

/-- THE TIED CARD OF 'flagstonelaw31.ColumnTables'. -/
def columnTablesCard : Claim7 := { stood := { row := columnTablesRow, standIns := [], harness := (true, "2c44a09e7dd6e0ab0e92b2d5e8c0dafd6776108df28f7b188cdd756a0334e66a"), looks := false }, kinds := [], alts := [], laidByText := true, laidKinds := [.listed, .data], laidTests := true, laidLooks := .later }
def ColumnTablesCardSaid : Prop := Claim7.holds Tryz.pinned (.plain (OpenSpec.ofChange columnTablesSpec)) columnTablesCard

/-- THE TIED CARD OF 'flagstonelaw31.ColumnLimits'. -/
def columnLimitsCard : Claim7 := { stood := { row := columnLimitsRow, standIns := [], harness := (true, "2c44a09e7dd6e0ab0e92b2d5e8c0dafd6776108df28f7b188cdd756a0334e66a"), looks := false }, kinds := [], alts := [], laidByText := true, laidKinds := [.listed, .data], laidTests := true, laidLooks := .later }
def ColumnLimitsCardSaid : Prop := Claim7.holds Tryz.pinned (.plain (OpenSpec.ofChange columnLimitsSpec)) columnLimitsCard

/-- THE TIED CARD OF 'flagstonelaw31.ColumnScans'. -/
def columnScansCard : Claim7 := { stood := { row := columnScansRow, standIns := [], harness := (true, "2c44a09e7dd6e0ab0e92b2d5e8c0dafd6776108df28f7b188cdd756a0334e66a"), looks := false }, kinds := [], alts := [], laidByText := true, laidKinds := [.listed, .data], laidTests := true, laidLooks := .later }
def ColumnScansCardSaid : Prop := Claim7.holds Tryz.pinned (.plain (OpenSpec.ofChange columnScansSpec)) columnScansCard

/-- THE TIED CARD OF 'flagstonelaw31.ColumnSkips'. -/
def columnSkipsCard : Claim7 := { stood := { row := columnSkipsRow, standIns := [], harness := (true, "2c44a09e7dd6e0ab0e92b2d5e8c0dafd6776108df28f7b188cdd756a0334e66a"), looks := false }, kinds := [], alts := [], laidByText := true, laidKinds := [.listed, .data], laidTests := true, laidLooks := .later }
def ColumnSkipsCardSaid : Prop := Claim7.holds Tryz.pinned (.plain (OpenSpec.ofChange columnSkipsSpec)) columnSkipsCard

/-- THE SECOND FORM's CARD OF 'flagstonelaw31.ColumnTables'. -/
def columnTablesUptoCard : Claim7 := { stood := { row := columnTablesUptoRow, standIns := [], harness := (true, "2c44a09e7dd6e0ab0e92b2d5e8c0dafd6776108df28f7b188cdd756a0334e66a"), looks := false }, kinds := [], alts := [], laidByText := true, laidKinds := [.listed, .data], laidTests := true, laidLooks := .later }
def ColumnTablesUptoCardSaid : Prop := Claim7.holds Tryz.pinned (.plain (OpenSpec.upto columnTablesSpec)) columnTablesUptoCard

/-- THE SECOND FORM's CARD OF 'flagstonelaw31.ColumnLimits'. -/
def columnLimitsUptoCard : Claim7 := { stood := { row := columnLimitsUptoRow, standIns := [], harness := (true, "2c44a09e7dd6e0ab0e92b2d5e8c0dafd6776108df28f7b188cdd756a0334e66a"), looks := false }, kinds := [], alts := [], laidByText := true, laidKinds := [.listed, .data], laidTests := true, laidLooks := .later }
def ColumnLimitsUptoCardSaid : Prop := Claim7.holds Tryz.pinned (.plain (OpenSpec.upto columnLimitsSpec)) columnLimitsUptoCard

/-- THE SECOND FORM's CARD OF 'flagstonelaw31.ColumnScans'. -/
def columnScansUptoCard : Claim7 := { stood := { row := columnScansUptoRow, standIns := [], harness := (true, "2c44a09e7dd6e0ab0e92b2d5e8c0dafd6776108df28f7b188cdd756a0334e66a"), looks := false }, kinds := [], alts := [], laidByText := true, laidKinds := [.listed, .data], laidTests := true, laidLooks := .later }
def ColumnScansUptoCardSaid : Prop := Claim7.holds Tryz.pinned (.plain (OpenSpec.upto columnScansSpec)) columnScansUptoCard

/-- THE SECOND FORM's CARD OF 'flagstonelaw31.ColumnSkips'. -/
def columnSkipsUptoCard : Claim7 := { stood := { row := columnSkipsUptoRow, standIns := [], harness := (true, "2c44a09e7dd6e0ab0e92b2d5e8c0dafd6776108df28f7b188cdd756a0334e66a"), looks := false }, kinds := [], alts := [], laidByText := true, laidKinds := [.listed, .data], laidTests := true, laidLooks := .later }
def ColumnSkipsUptoCardSaid : Prop := Claim7.holds Tryz.pinned (.plain (OpenSpec.upto columnSkipsSpec)) columnSkipsUptoCard
end Rows
end Go.Proofs.YtmhpfadbmpipkaaGreatDoor

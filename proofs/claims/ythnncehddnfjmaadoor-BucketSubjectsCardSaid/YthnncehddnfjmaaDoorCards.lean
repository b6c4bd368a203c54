/-
  DERIVED. GIVEN WITH THE SEED: THE CARDS: each row of YthnncehddnfjmaaDoorRows.lean that lists a variable, with what it lists TIED to the program's text (the seventh form; the later family's looks); each row that meets fmt, with fmt's text TOLD by the authors' own Lean function (tested against real Go, not proved from fmt's source: count such statements apart). THE CARD IS WHAT COUNTS. Prove the row's statement (the work); the ties are given (YthnncehddnfjmaaDoorTie.lean); close each card by the builder's one call (the guide's Derived/Test/ToyasCard.lean, 'card_holds'). Laid BY PROGRAM, IN A SANDBOX (cutbox-door.mjs). By AI agents, Wed Nov 11 2026. No macro, syntax, notation, axiom, sorry.
-/
import Derived.Test.YthnncehddnfjmaaDoorRows
import GoSem.ClaimSeven
namespace Go.Proofs.YthnncehddnfjmaaDoor
namespace Rows

/-- THE TIED CARD OF 'flagstonelaw13.BucketReweighs'. -/
def bucketReweighsCard : Claim7 := { stood := { row := bucketReweighsRow, standIns := [], harness := (true, "27375a9f36e626bc40107f245a20ff78879ee2deee744738d90e57c0ce3cd8d8"), looks := false }, kinds := [], alts := [], laidByText := true, laidKinds := [.widerDeep], laidTests := true, laidLooks := .later }
def BucketReweighsCardSaid : Prop := Claim7.holds Tryd.pinned (.plain (OpenSpec.ofChange bucketReweighsSpec)) bucketReweighsCard

/-- THE TIED CARD OF 'flagstonelaw13.BucketPicks'. -/
def bucketPicksCard : Claim7 := { stood := { row := bucketPicksRow, standIns := [], harness := (true, "27375a9f36e626bc40107f245a20ff78879ee2deee744738d90e57c0ce3cd8d8"), looks := false }, kinds := [], alts := [], laidByText := true, laidKinds := [.widerDeep], laidTests := true, laidLooks := .later }
def BucketPicksCardSaid : Prop := Claim7.holds Tryd.pinned (.plain (OpenSpec.ofChange bucketPicksSpec)) bucketPicksCard

/-- THE TIED CARD OF 'flagstonelaw13.BucketDistance'. -/
def bucketDistanceCard : Claim7 := { stood := { row := bucketDistanceRow, standIns := [], harness := (true, "27375a9f36e626bc40107f245a20ff78879ee2deee744738d90e57c0ce3cd8d8"), looks := false }, kinds := [], alts := [], laidByText := true, laidKinds := [.widerDeep], laidTests := true, laidLooks := .later }
def BucketDistanceCardSaid : Prop := Claim7.holds Tryd.pinned (.plain (OpenSpec.ofChange bucketDistanceSpec)) bucketDistanceCard

/-- THE TIED CARD OF 'flagstonelaw13.BucketWeights'. -/
def bucketWeightsCard : Claim7 := { stood := { row := bucketWeightsRow, standIns := [], harness := (true, "27375a9f36e626bc40107f245a20ff78879ee2deee744738d90e57c0ce3cd8d8"), looks := false }, kinds := [], alts := [], laidByText := true, laidKinds := [.widerDeep], laidTests := true, laidLooks := .later }
def BucketWeightsCardSaid : Prop := Claim7.holds Tryd.pinned (.plain (OpenSpec.ofChange bucketWeightsSpec)) bucketWeightsCard

/-- THE TIED CARD OF 'flagstonelaw13.BucketLeast'. -/
def bucketLeastCard : Claim7 := { stood := { row := bucketLeastRow, standIns := [], harness := (true, "27375a9f36e626bc40107f245a20ff78879ee2deee744738d90e57c0ce3cd8d8"), looks := false }, kinds := [], alts := [], laidByText := true, laidKinds := [.widerDeep], laidTests := true, laidLooks := .later }
def BucketLeastCardSaid : Prop := Claim7.holds Tryd.pinned (.plain (OpenSpec.ofChange bucketLeastSpec)) bucketLeastCard

/-- THE TIED CARD OF 'flagstonelaw13.BucketHashes'. -/
def bucketHashesCard : Claim7 := { stood := { row := bucketHashesRow, standIns := [], harness := (true, "27375a9f36e626bc40107f245a20ff78879ee2deee744738d90e57c0ce3cd8d8"), looks := false }, kinds := [], alts := [], laidByText := true, laidKinds := [.data, .data, .data, .data, .data, .widerDeep, .widerDeep], laidTests := true, laidLooks := .later }
def BucketHashesCardSaid : Prop := Claim7.holds Tryd.pinned (.plain (OpenSpec.ofChange bucketHashesSpec)) bucketHashesCard

/-- THE TIED CARD OF 'flagstonelaw13.BucketSubjects'. -/
def bucketSubjectsCard : Claim7 := { stood := { row := bucketSubjectsRow, standIns := [], harness := (true, "27375a9f36e626bc40107f245a20ff78879ee2deee744738d90e57c0ce3cd8d8"), looks := false }, kinds := [], alts := [], laidByText := true, laidKinds := [.data, .data, .data, .data, .data, .widerDeep, .widerDeep], laidTests := true, laidLooks := .later }
def BucketSubjectsCardSaid : Prop := Claim7.holds Tryd.pinned (.plain (OpenSpec.ofChange bucketSubjectsSpec)) bucketSubjectsCard

/-- THE SECOND FORM's CARD OF 'flagstonelaw13.BucketReweighs'. -/
def bucketReweighsUptoCard : Claim7 := { stood := { row := bucketReweighsUptoRow, standIns := [], harness := (true, "27375a9f36e626bc40107f245a20ff78879ee2deee744738d90e57c0ce3cd8d8"), looks := false }, kinds := [], alts := [], laidByText := true, laidKinds := [.widerDeep], laidTests := true, laidLooks := .later }
def BucketReweighsUptoCardSaid : Prop := Claim7.holds Tryd.pinned (.plain (OpenSpec.upto bucketReweighsSpec)) bucketReweighsUptoCard

/-- THE SECOND FORM's CARD OF 'flagstonelaw13.BucketPicks'. -/
def bucketPicksUptoCard : Claim7 := { stood := { row := bucketPicksUptoRow, standIns := [], harness := (true, "27375a9f36e626bc40107f245a20ff78879ee2deee744738d90e57c0ce3cd8d8"), looks := false }, kinds := [], alts := [], laidByText := true, laidKinds := [.widerDeep], laidTests := true, laidLooks := .later }
def BucketPicksUptoCardSaid : Prop := Claim7.holds Tryd.pinned (.plain (OpenSpec.upto bucketPicksSpec)) bucketPicksUptoCard

/-- THE SECOND FORM's CARD OF 'flagstonelaw13.BucketDistance'. -/
def bucketDistanceUptoCard : Claim7 := { stood := { row := bucketDistanceUptoRow, standIns := [], harness := (true, "27375a9f36e626bc40107f245a20ff78879ee2deee744738d90e57c0ce3cd8d8"), looks := false }, kinds := [], alts := [], laidByText := true, laidKinds := [.widerDeep], laidTests := true, laidLooks := .later }
def BucketDistanceUptoCardSaid : Prop := Claim7.holds Tryd.pinned (.plain (OpenSpec.upto bucketDistanceSpec)) bucketDistanceUptoCard

/-- THE SECOND FORM's CARD OF 'flagstonelaw13.BucketWeights'. -/
def bucketWeightsUptoCard : Claim7 := { stood := { row := bucketWeightsUptoRow, standIns := [], harness := (true, "27375a9f36e626bc40107f245a20ff78879ee2deee744738d90e57c0ce3cd8d8"), looks := false }, kinds := [], alts := [], laidByText := true, laidKinds := [.widerDeep], laidTests := true, laidLooks := .later }
def BucketWeightsUptoCardSaid : Prop := Claim7.holds Tryd.pinned (.plain (OpenSpec.upto bucketWeightsSpec)) bucketWeightsUptoCard

/-- THE SECOND FORM's CARD OF 'flagstonelaw13.BucketLeast'. -/
def bucketLeastUptoCard : Claim7 := { stood := { row := bucketLeastUptoRow, standIns := [], harness := (true, "27375a9f36e626bc40107f245a20ff78879ee2deee744738d90e57c0ce3cd8d8"), looks := false }, kinds := [], alts := [], laidByText := true, laidKinds := [.widerDeep], laidTests := true, laidLooks := .later }
def BucketLeastUptoCardSaid : Prop := Claim7.holds Tryd.pinned (.plain (OpenSpec.upto bucketLeastSpec)) bucketLeastUptoCard

/-- THE SECOND FORM's CARD OF 'flagstonelaw13.BucketHashes'. -/
def bucketHashesUptoCard : Claim7 := { stood := { row := bucketHashesUptoRow, standIns := [], harness := (true, "27375a9f36e626bc40107f245a20ff78879ee2deee744738d90e57c0ce3cd8d8"), looks := false }, kinds := [], alts := [], laidByText := true, laidKinds := [.data, .data, .data, .data, .data, .widerDeep, .widerDeep], laidTests := true, laidLooks := .later }
def BucketHashesUptoCardSaid : Prop := Claim7.holds Tryd.pinned (.plain (OpenSpec.upto bucketHashesSpec)) bucketHashesUptoCard

/-- THE SECOND FORM's CARD OF 'flagstonelaw13.BucketSubjects'. -/
def bucketSubjectsUptoCard : Claim7 := { stood := { row := bucketSubjectsUptoRow, standIns := [], harness := (true, "27375a9f36e626bc40107f245a20ff78879ee2deee744738d90e57c0ce3cd8d8"), looks := false }, kinds := [], alts := [], laidByText := true, laidKinds := [.data, .data, .data, .data, .data, .widerDeep, .widerDeep], laidTests := true, laidLooks := .later }
def BucketSubjectsUptoCardSaid : Prop := Claim7.holds Tryd.pinned (.plain (OpenSpec.upto bucketSubjectsSpec)) bucketSubjectsUptoCard
end Rows
end Go.Proofs.YthnncehddnfjmaaDoor

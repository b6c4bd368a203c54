/-
  DERIVED. GIVEN WITH THE SEED: THE CARDS: each row of YtocckceefcmeaaaGreatDoorRows.lean that lists a variable, with what it lists TIED to the program's text (the seventh form; the later family's looks); each row that meets fmt, with fmt's text TOLD by the authors' own Lean function (tested against real Go, not proved from fmt's source: count such statements apart). THE CARD IS WHAT COUNTS. Prove the row's statement (the work); the ties are given (YtocckceefcmeaaaGreatDoorTie.lean); close each card by the builder's one call (the guide's Derived/Test/ToyasCard.lean, 'card_holds'). Laid BY PROGRAM, IN A SANDBOX (cutbox-door.mjs). By AI agents, Wed Nov 11 2026. No macro, syntax, notation, axiom, sorry.
-/
import Derived.Test.YtocckceefcmeaaaGreatDoorRows
import GoSem.ClaimSeven
namespace Go.Proofs.YtocckceefcmeaaaGreatDoor
namespace Rows

/-- THE TIED CARD OF 'flagstonelaw33.StoreSectors'. -/
def storeSectorsCard : Claim7 := { stood := { row := storeSectorsRow, standIns := [], harness := (true, "a50d3b26968b771a4cefac49e53bcfcc94746155bc4b21dd06f8724ada668c2f"), looks := false }, kinds := [], alts := [], laidByText := true, laidKinds := [.listed, .data], laidTests := true, laidLooks := .later }
def StoreSectorsCardSaid : Prop := Claim7.holds Tryz.pinned (.plain (OpenSpec.ofChange storeSectorsSpec)) storeSectorsCard

/-- THE TIED CARD OF 'flagstonelaw33.StoreLong'. -/
def storeLongCard : Claim7 := { stood := { row := storeLongRow, standIns := [], harness := (true, "a50d3b26968b771a4cefac49e53bcfcc94746155bc4b21dd06f8724ada668c2f"), looks := false }, kinds := [], alts := [], laidByText := true, laidKinds := [.listed, .data], laidTests := true, laidLooks := .later }
def StoreLongCardSaid : Prop := Claim7.holds Tryz.pinned (.plain (OpenSpec.ofChange storeLongSpec)) storeLongCard

/-- THE TIED CARD OF 'flagstonelaw33.StoreDamaged'. -/
def storeDamagedCard : Claim7 := { stood := { row := storeDamagedRow, standIns := [], harness := (true, "a50d3b26968b771a4cefac49e53bcfcc94746155bc4b21dd06f8724ada668c2f"), looks := false }, kinds := [], alts := [], laidByText := true, laidKinds := [.listed, .data], laidTests := true, laidLooks := .later }
def StoreDamagedCardSaid : Prop := Claim7.holds Tryz.pinned (.plain (OpenSpec.ofChange storeDamagedSpec)) storeDamagedCard

/-- THE TIED CARD OF 'flagstonelaw33.StorePlays'. -/
def storePlaysCard : Claim7 := { stood := { row := storePlaysRow, standIns := [], harness := (true, "a50d3b26968b771a4cefac49e53bcfcc94746155bc4b21dd06f8724ada668c2f"), looks := false }, kinds := [], alts := [], laidByText := true, laidKinds := [.listed, .data], laidTests := true, laidLooks := .later }
def StorePlaysCardSaid : Prop := Claim7.holds Tryz.pinned (.plain (OpenSpec.ofChange storePlaysSpec)) storePlaysCard

/-- THE TIED CARD OF 'flagstonelaw33.StoreKeeps'. -/
def storeKeepsCard : Claim7 := { stood := { row := storeKeepsRow, standIns := [], harness := (true, "a50d3b26968b771a4cefac49e53bcfcc94746155bc4b21dd06f8724ada668c2f"), looks := false }, kinds := [], alts := [], laidByText := true, laidKinds := [.listed, .data], laidTests := true, laidLooks := .later }
def StoreKeepsCardSaid : Prop := Claim7.holds Tryz.pinned (.plain (OpenSpec.ofChange storeKeepsSpec)) storeKeepsCard

/-- THE TIED CARD OF 'flagstonelaw33.StoreCrashes'. -/
def storeCrashesCard : Claim7 := { stood := { row := storeCrashesRow, standIns := [], harness := (true, "a50d3b26968b771a4cefac49e53bcfcc94746155bc4b21dd06f8724ada668c2f"), looks := false }, kinds := [], alts := [], laidByText := true, laidKinds := [.listed, .data], laidTests := true, laidLooks := .later }
def StoreCrashesCardSaid : Prop := Claim7.holds Tryz.pinned (.plain (OpenSpec.ofChange storeCrashesSpec)) storeCrashesCard

/-- THE SECOND FORM's CARD OF 'flagstonelaw33.StoreSectors'. -/
def storeSectorsUptoCard : Claim7 := { stood := { row := storeSectorsUptoRow, standIns := [], harness := (true, "a50d3b26968b771a4cefac49e53bcfcc94746155bc4b21dd06f8724ada668c2f"), looks := false }, kinds := [], alts := [], laidByText := true, laidKinds := [.listed, .data], laidTests := true, laidLooks := .later }
def StoreSectorsUptoCardSaid : Prop := Claim7.holds Tryz.pinned (.plain (OpenSpec.upto storeSectorsSpec)) storeSectorsUptoCard

/-- THE SECOND FORM's CARD OF 'flagstonelaw33.StoreLong'. -/
def storeLongUptoCard : Claim7 := { stood := { row := storeLongUptoRow, standIns := [], harness := (true, "a50d3b26968b771a4cefac49e53bcfcc94746155bc4b21dd06f8724ada668c2f"), looks := false }, kinds := [], alts := [], laidByText := true, laidKinds := [.listed, .data], laidTests := true, laidLooks := .later }
def StoreLongUptoCardSaid : Prop := Claim7.holds Tryz.pinned (.plain (OpenSpec.upto storeLongSpec)) storeLongUptoCard

/-- THE SECOND FORM's CARD OF 'flagstonelaw33.StoreDamaged'. -/
def storeDamagedUptoCard : Claim7 := { stood := { row := storeDamagedUptoRow, standIns := [], harness := (true, "a50d3b26968b771a4cefac49e53bcfcc94746155bc4b21dd06f8724ada668c2f"), looks := false }, kinds := [], alts := [], laidByText := true, laidKinds := [.listed, .data], laidTests := true, laidLooks := .later }
def StoreDamagedUptoCardSaid : Prop := Claim7.holds Tryz.pinned (.plain (OpenSpec.upto storeDamagedSpec)) storeDamagedUptoCard

/-- THE SECOND FORM's CARD OF 'flagstonelaw33.StorePlays'. -/
def storePlaysUptoCard : Claim7 := { stood := { row := storePlaysUptoRow, standIns := [], harness := (true, "a50d3b26968b771a4cefac49e53bcfcc94746155bc4b21dd06f8724ada668c2f"), looks := false }, kinds := [], alts := [], laidByText := true, laidKinds := [.listed, .data], laidTests := true, laidLooks := .later }
def StorePlaysUptoCardSaid : Prop := Claim7.holds Tryz.pinned (.plain (OpenSpec.upto storePlaysSpec)) storePlaysUptoCard

/-- THE SECOND FORM's CARD OF 'flagstonelaw33.StoreKeeps'. -/
def storeKeepsUptoCard : Claim7 := { stood := { row := storeKeepsUptoRow, standIns := [], harness := (true, "a50d3b26968b771a4cefac49e53bcfcc94746155bc4b21dd06f8724ada668c2f"), looks := false }, kinds := [], alts := [], laidByText := true, laidKinds := [.listed, .data], laidTests := true, laidLooks := .later }
def StoreKeepsUptoCardSaid : Prop := Claim7.holds Tryz.pinned (.plain (OpenSpec.upto storeKeepsSpec)) storeKeepsUptoCard

/-- THE SECOND FORM's CARD OF 'flagstonelaw33.StoreCrashes'. -/
def storeCrashesUptoCard : Claim7 := { stood := { row := storeCrashesUptoRow, standIns := [], harness := (true, "a50d3b26968b771a4cefac49e53bcfcc94746155bc4b21dd06f8724ada668c2f"), looks := false }, kinds := [], alts := [], laidByText := true, laidKinds := [.listed, .data], laidTests := true, laidLooks := .later }
def StoreCrashesUptoCardSaid : Prop := Claim7.holds Tryz.pinned (.plain (OpenSpec.upto storeCrashesSpec)) storeCrashesUptoCard
end Rows
end Go.Proofs.YtocckceefcmeaaaGreatDoor

/-
  DERIVED. GIVEN WITH THE SEED: THE CARDS: each row of YtinpgogjkmmjpaaDoorRows.lean that lists a variable, with what it lists TIED to the program's text (the seventh form; the later family's looks); each row that meets fmt, with fmt's text TOLD by the authors' own Lean function (tested against real Go, not proved from fmt's source: count such statements apart). THE CARD IS WHAT COUNTS. Prove the row's statement (the work); the ties are given (YtinpgogjkmmjpaaDoorTie.lean); close each card by the builder's one call (the guide's Derived/Test/ToyasCard.lean, 'card_holds'). Laid BY PROGRAM, IN A SANDBOX (cutbox-door.mjs). By AI agents, Wed Nov 11 2026. No macro, syntax, notation, axiom, sorry.
-/
import Derived.Test.YtinpgogjkmmjpaaDoorRows
import GoSem.ClaimSeven
namespace Go.Proofs.YtinpgogjkmmjpaaDoor
namespace Rows

/-- THE TIED CARD OF 'flagstonelaw27.StickyPlays'. -/
def stickyPlaysCard : Claim7 := { stood := { row := stickyPlaysRow, standIns := [], harness := (true, "55ce815adc245fece9d570fdd53b72133d31b578e2474eac6fbee028adffab0c"), looks := false }, kinds := [], alts := [], laidByText := true, laidKinds := [.listed, .data], laidTests := true, laidLooks := .later }
def StickyPlaysCardSaid : Prop := Claim7.holds Tryd.pinned (.plain (OpenSpec.ofChange stickyPlaysSpec)) stickyPlaysCard

/-- THE TIED CARD OF 'flagstonelaw27.StickySpoilt'. -/
def stickySpoiltCard : Claim7 := { stood := { row := stickySpoiltRow, standIns := [], harness := (true, "55ce815adc245fece9d570fdd53b72133d31b578e2474eac6fbee028adffab0c"), looks := false }, kinds := [], alts := [], laidByText := true, laidKinds := [.listed, .data], laidTests := true, laidLooks := .later }
def StickySpoiltCardSaid : Prop := Claim7.holds Tryd.pinned (.plain (OpenSpec.ofChange stickySpoiltSpec)) stickySpoiltCard

/-- THE TIED CARD OF 'flagstonelaw27.StickyOnce'. -/
def stickyOnceCard : Claim7 := { stood := { row := stickyOnceRow, standIns := [], harness := (true, "55ce815adc245fece9d570fdd53b72133d31b578e2474eac6fbee028adffab0c"), looks := false }, kinds := [], alts := [], laidByText := true, laidKinds := [.listed, .data], laidTests := true, laidLooks := .later }
def StickyOnceCardSaid : Prop := Claim7.holds Tryd.pinned (.plain (OpenSpec.ofChange stickyOnceSpec)) stickyOnceCard

/-- THE TIED CARD OF 'flagstonelaw27.StickyStays'. -/
def stickyStaysCard : Claim7 := { stood := { row := stickyStaysRow, standIns := [], harness := (true, "55ce815adc245fece9d570fdd53b72133d31b578e2474eac6fbee028adffab0c"), looks := false }, kinds := [], alts := [], laidByText := true, laidKinds := [.listed, .data], laidTests := true, laidLooks := .later }
def StickyStaysCardSaid : Prop := Claim7.holds Tryd.pinned (.plain (OpenSpec.ofChange stickyStaysSpec)) stickyStaysCard

/-- THE TIED CARD OF 'flagstonelaw27.StickyMerges'. -/
def stickyMergesCard : Claim7 := { stood := { row := stickyMergesRow, standIns := [], harness := (true, "55ce815adc245fece9d570fdd53b72133d31b578e2474eac6fbee028adffab0c"), looks := false }, kinds := [], alts := [], laidByText := true, laidKinds := [.listed, .data], laidTests := true, laidLooks := .later }
def StickyMergesCardSaid : Prop := Claim7.holds Tryd.pinned (.plain (OpenSpec.ofChange stickyMergesSpec)) stickyMergesCard

/-- THE TIED CARD OF 'flagstonelaw27.StickyPast'. -/
def stickyPastCard : Claim7 := { stood := { row := stickyPastRow, standIns := [], harness := (true, "55ce815adc245fece9d570fdd53b72133d31b578e2474eac6fbee028adffab0c"), looks := false }, kinds := [], alts := [], laidByText := true, laidKinds := [.listed, .data], laidTests := true, laidLooks := .later }
def StickyPastCardSaid : Prop := Claim7.holds Tryd.pinned (.plain (OpenSpec.ofChange stickyPastSpec)) stickyPastCard

/-- THE TIED CARD OF 'flagstonelaw27.StickyChanges'. -/
def stickyChangesCard : Claim7 := { stood := { row := stickyChangesRow, standIns := [], harness := (true, "55ce815adc245fece9d570fdd53b72133d31b578e2474eac6fbee028adffab0c"), looks := false }, kinds := [], alts := [], laidByText := true, laidKinds := [.listed, .data], laidTests := true, laidLooks := .later }
def StickyChangesCardSaid : Prop := Claim7.holds Tryd.pinned (.plain (OpenSpec.ofChange stickyChangesSpec)) stickyChangesCard

/-- THE TIED CARD OF 'flagstonelaw27.StickyAny'. -/
def stickyAnyCard : Claim7 := { stood := { row := stickyAnyRow, standIns := [], harness := (true, "55ce815adc245fece9d570fdd53b72133d31b578e2474eac6fbee028adffab0c"), looks := false }, kinds := [], alts := [], laidByText := true, laidKinds := [.listed, .data], laidTests := true, laidLooks := .later }
def StickyAnyCardSaid : Prop := Claim7.holds Tryd.pinned (.plain (OpenSpec.ofChange stickyAnySpec)) stickyAnyCard

/-- THE TIED CARD OF 'flagstonelaw27.StickyKeeps'. -/
def stickyKeepsCard : Claim7 := { stood := { row := stickyKeepsRow, standIns := [], harness := (true, "55ce815adc245fece9d570fdd53b72133d31b578e2474eac6fbee028adffab0c"), looks := false }, kinds := [], alts := [], laidByText := true, laidKinds := [.listed, .data], laidTests := true, laidLooks := .later }
def StickyKeepsCardSaid : Prop := Claim7.holds Tryd.pinned (.plain (OpenSpec.ofChange stickyKeepsSpec)) stickyKeepsCard

/-- THE TIED CARD OF 'flagstonelaw27.StickyTells'. -/
def stickyTellsCard : Claim7 := { stood := { row := stickyTellsRow, standIns := [], harness := (true, "55ce815adc245fece9d570fdd53b72133d31b578e2474eac6fbee028adffab0c"), looks := false }, kinds := [], alts := [], laidByText := true, laidKinds := [.listed, .data], laidTests := true, laidLooks := .later }
def StickyTellsCardSaid : Prop := Claim7.holds Tryd.pinned (.plain (OpenSpec.ofChange stickyTellsSpec)) stickyTellsCard

/-- THE SECOND FORM's CARD OF 'flagstonelaw27.StickyPlays'. -/
def stickyPlaysUptoCard : Claim7 := { stood := { row := stickyPlaysUptoRow, standIns := [], harness := (true, "55ce815adc245fece9d570fdd53b72133d31b578e2474eac6fbee028adffab0c"), looks := false }, kinds := [], alts := [], laidByText := true, laidKinds := [.listed, .data], laidTests := true, laidLooks := .later }
def StickyPlaysUptoCardSaid : Prop := Claim7.holds Tryd.pinned (.plain (OpenSpec.upto stickyPlaysSpec)) stickyPlaysUptoCard

/-- THE SECOND FORM's CARD OF 'flagstonelaw27.StickySpoilt'. -/
def stickySpoiltUptoCard : Claim7 := { stood := { row := stickySpoiltUptoRow, standIns := [], harness := (true, "55ce815adc245fece9d570fdd53b72133d31b578e2474eac6fbee028adffab0c"), looks := false }, kinds := [], alts := [], laidByText := true, laidKinds := [.listed, .data], laidTests := true, laidLooks := .later }
def StickySpoiltUptoCardSaid : Prop := Claim7.holds Tryd.pinned (.plain (OpenSpec.upto stickySpoiltSpec)) stickySpoiltUptoCard

/-- THE SECOND FORM's CARD OF 'flagstonelaw27.StickyOnce'. -/
def stickyOnceUptoCard : Claim7 := { stood := { row := stickyOnceUptoRow, standIns := [], harness := (true, "55ce815adc245fece9d570fdd53b72133d31b578e2474eac6fbee028adffab0c"), looks := false }, kinds := [], alts := [], laidByText := true, laidKinds := [.listed, .data], laidTests := true, laidLooks := .later }
def StickyOnceUptoCardSaid : Prop := Claim7.holds Tryd.pinned (.plain (OpenSpec.upto stickyOnceSpec)) stickyOnceUptoCard

/-- THE SECOND FORM's CARD OF 'flagstonelaw27.StickyStays'. -/
def stickyStaysUptoCard : Claim7 := { stood := { row := stickyStaysUptoRow, standIns := [], harness := (true, "55ce815adc245fece9d570fdd53b72133d31b578e2474eac6fbee028adffab0c"), looks := false }, kinds := [], alts := [], laidByText := true, laidKinds := [.listed, .data], laidTests := true, laidLooks := .later }
def StickyStaysUptoCardSaid : Prop := Claim7.holds Tryd.pinned (.plain (OpenSpec.upto stickyStaysSpec)) stickyStaysUptoCard

/-- THE SECOND FORM's CARD OF 'flagstonelaw27.StickyMerges'. -/
def stickyMergesUptoCard : Claim7 := { stood := { row := stickyMergesUptoRow, standIns := [], harness := (true, "55ce815adc245fece9d570fdd53b72133d31b578e2474eac6fbee028adffab0c"), looks := false }, kinds := [], alts := [], laidByText := true, laidKinds := [.listed, .data], laidTests := true, laidLooks := .later }
def StickyMergesUptoCardSaid : Prop := Claim7.holds Tryd.pinned (.plain (OpenSpec.upto stickyMergesSpec)) stickyMergesUptoCard

/-- THE SECOND FORM's CARD OF 'flagstonelaw27.StickyPast'. -/
def stickyPastUptoCard : Claim7 := { stood := { row := stickyPastUptoRow, standIns := [], harness := (true, "55ce815adc245fece9d570fdd53b72133d31b578e2474eac6fbee028adffab0c"), looks := false }, kinds := [], alts := [], laidByText := true, laidKinds := [.listed, .data], laidTests := true, laidLooks := .later }
def StickyPastUptoCardSaid : Prop := Claim7.holds Tryd.pinned (.plain (OpenSpec.upto stickyPastSpec)) stickyPastUptoCard

/-- THE SECOND FORM's CARD OF 'flagstonelaw27.StickyChanges'. -/
def stickyChangesUptoCard : Claim7 := { stood := { row := stickyChangesUptoRow, standIns := [], harness := (true, "55ce815adc245fece9d570fdd53b72133d31b578e2474eac6fbee028adffab0c"), looks := false }, kinds := [], alts := [], laidByText := true, laidKinds := [.listed, .data], laidTests := true, laidLooks := .later }
def StickyChangesUptoCardSaid : Prop := Claim7.holds Tryd.pinned (.plain (OpenSpec.upto stickyChangesSpec)) stickyChangesUptoCard

/-- THE SECOND FORM's CARD OF 'flagstonelaw27.StickyAny'. -/
def stickyAnyUptoCard : Claim7 := { stood := { row := stickyAnyUptoRow, standIns := [], harness := (true, "55ce815adc245fece9d570fdd53b72133d31b578e2474eac6fbee028adffab0c"), looks := false }, kinds := [], alts := [], laidByText := true, laidKinds := [.listed, .data], laidTests := true, laidLooks := .later }
def StickyAnyUptoCardSaid : Prop := Claim7.holds Tryd.pinned (.plain (OpenSpec.upto stickyAnySpec)) stickyAnyUptoCard

/-- THE SECOND FORM's CARD OF 'flagstonelaw27.StickyKeeps'. -/
def stickyKeepsUptoCard : Claim7 := { stood := { row := stickyKeepsUptoRow, standIns := [], harness := (true, "55ce815adc245fece9d570fdd53b72133d31b578e2474eac6fbee028adffab0c"), looks := false }, kinds := [], alts := [], laidByText := true, laidKinds := [.listed, .data], laidTests := true, laidLooks := .later }
def StickyKeepsUptoCardSaid : Prop := Claim7.holds Tryd.pinned (.plain (OpenSpec.upto stickyKeepsSpec)) stickyKeepsUptoCard

/-- THE SECOND FORM's CARD OF 'flagstonelaw27.StickyTells'. -/
def stickyTellsUptoCard : Claim7 := { stood := { row := stickyTellsUptoRow, standIns := [], harness := (true, "55ce815adc245fece9d570fdd53b72133d31b578e2474eac6fbee028adffab0c"), looks := false }, kinds := [], alts := [], laidByText := true, laidKinds := [.listed, .data], laidTests := true, laidLooks := .later }
def StickyTellsUptoCardSaid : Prop := Claim7.holds Tryd.pinned (.plain (OpenSpec.upto stickyTellsSpec)) stickyTellsUptoCard
end Rows
end Go.Proofs.YtinpgogjkmmjpaaDoor

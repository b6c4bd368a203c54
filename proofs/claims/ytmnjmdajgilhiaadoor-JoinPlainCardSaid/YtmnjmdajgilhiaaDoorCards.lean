/-
  DERIVED. GIVEN WITH THE SEED: THE CARDS: each row of YtmnjmdajgilhiaaDoorRows.lean that lists a variable, with what it lists TIED to the program's text (the seventh form; the later family's looks); each row that meets fmt, with fmt's text TOLD by the authors' own Lean function (tested against real Go, not proved from fmt's source: count such statements apart). THE CARD IS WHAT COUNTS. Prove the row's statement (the work); the ties are given (YtmnjmdajgilhiaaDoorTie.lean); close each card by the builder's one call (the guide's Derived/Test/ToyasCard.lean, 'card_holds'). Laid BY PROGRAM, IN A SANDBOX (cutbox-door.mjs). By AI agents, Wed Nov 11 2026. No macro, syntax, notation, axiom, sorry.
-/
import Derived.Test.YtmnjmdajgilhiaaDoorRows
import GoSem.ClaimSeven
namespace Go.Proofs.YtmnjmdajgilhiaaDoor
namespace Rows

/-- THE TIED CARD OF 'flagstonelaw35.JoinFinal'. -/
def joinFinalCard : Claim7 := { stood := { row := joinFinalRow, standIns := [], harness := (true, "fc1387f8c4abf7b3bf850dc94a31ba06bf3f6f61cbe608fb43da798e214de781"), looks := false }, kinds := [], alts := [], laidByText := true, laidKinds := [.listed, .data], laidTests := true, laidLooks := .later }
def JoinFinalCardSaid : Prop := Claim7.holds Tryd.pinned (.plain (OpenSpec.ofChange joinFinalSpec)) joinFinalCard

/-- THE TIED CARD OF 'flagstonelaw35.JoinShares'. -/
def joinSharesCard : Claim7 := { stood := { row := joinSharesRow, standIns := [], harness := (true, "fc1387f8c4abf7b3bf850dc94a31ba06bf3f6f61cbe608fb43da798e214de781"), looks := false }, kinds := [], alts := [], laidByText := true, laidKinds := [.listed, .data], laidTests := true, laidLooks := .later }
def JoinSharesCardSaid : Prop := Claim7.holds Tryd.pinned (.plain (OpenSpec.ofChange joinSharesSpec)) joinSharesCard

/-- THE TIED CARD OF 'flagstonelaw35.JoinPlain'. -/
def joinPlainCard : Claim7 := { stood := { row := joinPlainRow, standIns := [], harness := (true, "fc1387f8c4abf7b3bf850dc94a31ba06bf3f6f61cbe608fb43da798e214de781"), looks := false }, kinds := [], alts := [], laidByText := true, laidKinds := [.listed, .data], laidTests := true, laidLooks := .later }
def JoinPlainCardSaid : Prop := Claim7.holds Tryd.pinned (.plain (OpenSpec.ofChange joinPlainSpec)) joinPlainCard

/-- THE TIED CARD OF 'flagstonelaw35.JoinTells'. -/
def joinTellsCard : Claim7 := { stood := { row := joinTellsRow, standIns := [], harness := (true, "fc1387f8c4abf7b3bf850dc94a31ba06bf3f6f61cbe608fb43da798e214de781"), looks := false }, kinds := [], alts := [], laidByText := true, laidKinds := [.listed, .data], laidTests := true, laidLooks := .later }
def JoinTellsCardSaid : Prop := Claim7.holds Tryd.pinned (.plain (OpenSpec.ofChange joinTellsSpec)) joinTellsCard

/-- THE TIED CARD OF 'flagstonelaw35.JoinOnce'. -/
def joinOnceCard : Claim7 := { stood := { row := joinOnceRow, standIns := [], harness := (true, "fc1387f8c4abf7b3bf850dc94a31ba06bf3f6f61cbe608fb43da798e214de781"), looks := false }, kinds := [], alts := [], laidByText := true, laidKinds := [.listed, .data], laidTests := true, laidLooks := .later }
def JoinOnceCardSaid : Prop := Claim7.holds Tryd.pinned (.plain (OpenSpec.ofChange joinOnceSpec)) joinOnceCard

/-- THE TIED CARD OF 'flagstonelaw35.JoinSamples'. -/
def joinSamplesCard : Claim7 := { stood := { row := joinSamplesRow, standIns := [], harness := (true, "fc1387f8c4abf7b3bf850dc94a31ba06bf3f6f61cbe608fb43da798e214de781"), looks := false }, kinds := [], alts := [], laidByText := true, laidKinds := [.listed, .data], laidTests := true, laidLooks := .later }
def JoinSamplesCardSaid : Prop := Claim7.holds Tryd.pinned (.plain (OpenSpec.ofChange joinSamplesSpec)) joinSamplesCard

/-- THE TIED CARD OF 'flagstonelaw35.JoinTallies'. -/
def joinTalliesCard : Claim7 := { stood := { row := joinTalliesRow, standIns := [], harness := (true, "fc1387f8c4abf7b3bf850dc94a31ba06bf3f6f61cbe608fb43da798e214de781"), looks := false }, kinds := [], alts := [], laidByText := true, laidKinds := [.listed, .data], laidTests := true, laidLooks := .later }
def JoinTalliesCardSaid : Prop := Claim7.holds Tryd.pinned (.plain (OpenSpec.ofChange joinTalliesSpec)) joinTalliesCard

/-- THE SECOND FORM's CARD OF 'flagstonelaw35.JoinFinal'. -/
def joinFinalUptoCard : Claim7 := { stood := { row := joinFinalUptoRow, standIns := [], harness := (true, "fc1387f8c4abf7b3bf850dc94a31ba06bf3f6f61cbe608fb43da798e214de781"), looks := false }, kinds := [], alts := [], laidByText := true, laidKinds := [.listed, .data], laidTests := true, laidLooks := .later }
def JoinFinalUptoCardSaid : Prop := Claim7.holds Tryd.pinned (.plain (OpenSpec.upto joinFinalSpec)) joinFinalUptoCard

/-- THE SECOND FORM's CARD OF 'flagstonelaw35.JoinShares'. -/
def joinSharesUptoCard : Claim7 := { stood := { row := joinSharesUptoRow, standIns := [], harness := (true, "fc1387f8c4abf7b3bf850dc94a31ba06bf3f6f61cbe608fb43da798e214de781"), looks := false }, kinds := [], alts := [], laidByText := true, laidKinds := [.listed, .data], laidTests := true, laidLooks := .later }
def JoinSharesUptoCardSaid : Prop := Claim7.holds Tryd.pinned (.plain (OpenSpec.upto joinSharesSpec)) joinSharesUptoCard

/-- THE SECOND FORM's CARD OF 'flagstonelaw35.JoinPlain'. -/
def joinPlainUptoCard : Claim7 := { stood := { row := joinPlainUptoRow, standIns := [], harness := (true, "fc1387f8c4abf7b3bf850dc94a31ba06bf3f6f61cbe608fb43da798e214de781"), looks := false }, kinds := [], alts := [], laidByText := true, laidKinds := [.listed, .data], laidTests := true, laidLooks := .later }
def JoinPlainUptoCardSaid : Prop := Claim7.holds Tryd.pinned (.plain (OpenSpec.upto joinPlainSpec)) joinPlainUptoCard

/-- THE SECOND FORM's CARD OF 'flagstonelaw35.JoinTells'. -/
def joinTellsUptoCard : Claim7 := { stood := { row := joinTellsUptoRow, standIns := [], harness := (true, "fc1387f8c4abf7b3bf850dc94a31ba06bf3f6f61cbe608fb43da798e214de781"), looks := false }, kinds := [], alts := [], laidByText := true, laidKinds := [.listed, .data], laidTests := true, laidLooks := .later }
def JoinTellsUptoCardSaid : Prop := Claim7.holds Tryd.pinned (.plain (OpenSpec.upto joinTellsSpec)) joinTellsUptoCard

/-- THE SECOND FORM's CARD OF 'flagstonelaw35.JoinOnce'. -/
def joinOnceUptoCard : Claim7 := { stood := { row := joinOnceUptoRow, standIns := [], harness := (true, "fc1387f8c4abf7b3bf850dc94a31ba06bf3f6f61cbe608fb43da798e214de781"), looks := false }, kinds := [], alts := [], laidByText := true, laidKinds := [.listed, .data], laidTests := true, laidLooks := .later }
def JoinOnceUptoCardSaid : Prop := Claim7.holds Tryd.pinned (.plain (OpenSpec.upto joinOnceSpec)) joinOnceUptoCard

/-- THE SECOND FORM's CARD OF 'flagstonelaw35.JoinSamples'. -/
def joinSamplesUptoCard : Claim7 := { stood := { row := joinSamplesUptoRow, standIns := [], harness := (true, "fc1387f8c4abf7b3bf850dc94a31ba06bf3f6f61cbe608fb43da798e214de781"), looks := false }, kinds := [], alts := [], laidByText := true, laidKinds := [.listed, .data], laidTests := true, laidLooks := .later }
def JoinSamplesUptoCardSaid : Prop := Claim7.holds Tryd.pinned (.plain (OpenSpec.upto joinSamplesSpec)) joinSamplesUptoCard

/-- THE SECOND FORM's CARD OF 'flagstonelaw35.JoinTallies'. -/
def joinTalliesUptoCard : Claim7 := { stood := { row := joinTalliesUptoRow, standIns := [], harness := (true, "fc1387f8c4abf7b3bf850dc94a31ba06bf3f6f61cbe608fb43da798e214de781"), looks := false }, kinds := [], alts := [], laidByText := true, laidKinds := [.listed, .data], laidTests := true, laidLooks := .later }
def JoinTalliesUptoCardSaid : Prop := Claim7.holds Tryd.pinned (.plain (OpenSpec.upto joinTalliesSpec)) joinTalliesUptoCard
end Rows
end Go.Proofs.YtmnjmdajgilhiaaDoor

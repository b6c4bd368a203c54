/-
  NARROWER THAN 'FOR EVERY INPUT', by the rows' own cells (each row's printed sentence says how): StickyPlays: laid · StickySpoilt: laid · StickyOnce: laid · StickyStays: laid · StickyMerges: laid · StickyPast: laid · StickyChanges: laid · StickyAny: laid · StickyKeeps: laid · StickyTells: laid.
  DERIVED. THE GIVEN ROWS OF THIS SEAT. 10 by the template 'for every input the law returns true; each argument reads behind the call as it read before'; 0 by the template 'total and deterministic' (their statements: YtinpgogjkmmjpaaDoorTotals.lean).
  GIVEN WITH THE SEED: the statements are not yours to turn. If you find one false, say at which input.
  Laid BY PROGRAM, IN A SANDBOX (cutbox-rows.mjs): the forced cells as the released guide's own fill.sh prints them over the translation fa370912ddc31ff4… (all of the seat's roots in one cut). By AI agents, Wed Nov 11 2026. No macro, syntax, notation, axiom, sorry.
-/
import Derived.Test.YtinpgogjkmmjpaaDoorChecked
import GoSem.Claim
import GoSem.ClaimJoined
import GoSem.ClaimMapViews
import Derived.JoinedTies
import Derived.KernelRfl
namespace Go.Proofs.YtinpgogjkmmjpaaDoor
/- THE CELL 'sum', in the pinned program and in every row, IS THE sha256 OF THE DUMP (.gsa) THAT YtinpgogjkmmjpaaDoorProg.lean LOADS. Nothing in Lean hashes anything: it is a label: what it is worth is what the hold of that sum in a sandbox is worth. -/
noncomputable def Tryd.pinned : Pinned := { name := "ytinpgogjkmmjpaadoor", sum := "fa370912ddc31ff4e64436ada21bf23f1903c315d699341d4275341f9aa93b64", checked := Tryd.checked }
namespace Rows
def none {H : Type} : Left H := { results := [], args := [] }

/- WHAT THE LISTED PACKAGE-LEVEL VARIABLES READ AS WHEN THE CALL BEGINS. Each datum BY PROGRAM (the guide's laid-datum.mjs) off the statement by which the dump's own 'gosem.cut.vars' lays the variable. In a bare row this is a premise. The card (YtinpgogjkmmjpaaDoorCards.lean) ties it to the program's text. -/
def laid_unicode_White_Space {H : Type} : DataW H := .ptr (.agg [.slice [.agg [.lit (.int .u16 9), .lit (.int .u16 13), .lit (.int .u16 1)], .agg [.lit (.int .u16 32), .lit (.int .u16 133), .lit (.int .u16 101)], .agg [.lit (.int .u16 160), .lit (.int .u16 5760), .lit (.int .u16 5600)], .agg [.lit (.int .u16 8192), .lit (.int .u16 8202), .lit (.int .u16 1)], .agg [.lit (.int .u16 8232), .lit (.int .u16 8233), .lit (.int .u16 1)], .agg [.lit (.int .u16 8239), .lit (.int .u16 8287), .lit (.int .u16 48)], .agg [.lit (.int .u16 12288), .lit (.int .u16 12288), .lit (.int .u16 1)]] [], .nil, .lit (.int .i64 2)])
def laid_strings_asciiSpace {H : Type} : DataW H := .agg [.lit (.int .u8 0), .lit (.int .u8 0), .lit (.int .u8 0), .lit (.int .u8 0), .lit (.int .u8 0), .lit (.int .u8 0), .lit (.int .u8 0), .lit (.int .u8 0), .lit (.int .u8 0), .lit (.int .u8 1), .lit (.int .u8 1), .lit (.int .u8 1), .lit (.int .u8 1), .lit (.int .u8 1), .lit (.int .u8 0), .lit (.int .u8 0), .lit (.int .u8 0), .lit (.int .u8 0), .lit (.int .u8 0), .lit (.int .u8 0), .lit (.int .u8 0), .lit (.int .u8 0), .lit (.int .u8 0), .lit (.int .u8 0), .lit (.int .u8 0), .lit (.int .u8 0), .lit (.int .u8 0), .lit (.int .u8 0), .lit (.int .u8 0), .lit (.int .u8 0), .lit (.int .u8 0), .lit (.int .u8 0), .lit (.int .u8 1), .lit (.int .u8 0), .lit (.int .u8 0), .lit (.int .u8 0), .lit (.int .u8 0), .lit (.int .u8 0), .lit (.int .u8 0), .lit (.int .u8 0), .lit (.int .u8 0), .lit (.int .u8 0), .lit (.int .u8 0), .lit (.int .u8 0), .lit (.int .u8 0), .lit (.int .u8 0), .lit (.int .u8 0), .lit (.int .u8 0), .lit (.int .u8 0), .lit (.int .u8 0), .lit (.int .u8 0), .lit (.int .u8 0), .lit (.int .u8 0), .lit (.int .u8 0), .lit (.int .u8 0), .lit (.int .u8 0), .lit (.int .u8 0), .lit (.int .u8 0), .lit (.int .u8 0), .lit (.int .u8 0), .lit (.int .u8 0), .lit (.int .u8 0), .lit (.int .u8 0), .lit (.int .u8 0), .lit (.int .u8 0), .lit (.int .u8 0), .lit (.int .u8 0), .lit (.int .u8 0), .lit (.int .u8 0), .lit (.int .u8 0), .lit (.int .u8 0), .lit (.int .u8 0), .lit (.int .u8 0), .lit (.int .u8 0), .lit (.int .u8 0), .lit (.int .u8 0), .lit (.int .u8 0), .lit (.int .u8 0), .lit (.int .u8 0), .lit (.int .u8 0), .lit (.int .u8 0), .lit (.int .u8 0), .lit (.int .u8 0), .lit (.int .u8 0), .lit (.int .u8 0), .lit (.int .u8 0), .lit (.int .u8 0), .lit (.int .u8 0), .lit (.int .u8 0), .lit (.int .u8 0), .lit (.int .u8 0), .lit (.int .u8 0), .lit (.int .u8 0), .lit (.int .u8 0), .lit (.int .u8 0), .lit (.int .u8 0), .lit (.int .u8 0), .lit (.int .u8 0), .lit (.int .u8 0), .lit (.int .u8 0), .lit (.int .u8 0), .lit (.int .u8 0), .lit (.int .u8 0), .lit (.int .u8 0), .lit (.int .u8 0), .lit (.int .u8 0), .lit (.int .u8 0), .lit (.int .u8 0), .lit (.int .u8 0), .lit (.int .u8 0), .lit (.int .u8 0), .lit (.int .u8 0), .lit (.int .u8 0), .lit (.int .u8 0), .lit (.int .u8 0), .lit (.int .u8 0), .lit (.int .u8 0), .lit (.int .u8 0), .lit (.int .u8 0), .lit (.int .u8 0), .lit (.int .u8 0), .lit (.int .u8 0), .lit (.int .u8 0), .lit (.int .u8 0), .lit (.int .u8 0), .lit (.int .u8 0), .lit (.int .u8 0), .lit (.int .u8 0), .lit (.int .u8 0), .lit (.int .u8 0), .lit (.int .u8 0), .lit (.int .u8 0), .lit (.int .u8 0), .lit (.int .u8 0), .lit (.int .u8 0), .lit (.int .u8 0), .lit (.int .u8 0), .lit (.int .u8 0), .lit (.int .u8 0), .lit (.int .u8 0), .lit (.int .u8 0), .lit (.int .u8 0), .lit (.int .u8 0), .lit (.int .u8 0), .lit (.int .u8 0), .lit (.int .u8 0), .lit (.int .u8 0), .lit (.int .u8 0), .lit (.int .u8 0), .lit (.int .u8 0), .lit (.int .u8 0), .lit (.int .u8 0), .lit (.int .u8 0), .lit (.int .u8 0), .lit (.int .u8 0), .lit (.int .u8 0), .lit (.int .u8 0), .lit (.int .u8 0), .lit (.int .u8 0), .lit (.int .u8 0), .lit (.int .u8 0), .lit (.int .u8 0), .lit (.int .u8 0), .lit (.int .u8 0), .lit (.int .u8 0), .lit (.int .u8 0), .lit (.int .u8 0), .lit (.int .u8 0), .lit (.int .u8 0), .lit (.int .u8 0), .lit (.int .u8 0), .lit (.int .u8 0), .lit (.int .u8 0), .lit (.int .u8 0), .lit (.int .u8 0), .lit (.int .u8 0), .lit (.int .u8 0), .lit (.int .u8 0), .lit (.int .u8 0), .lit (.int .u8 0), .lit (.int .u8 0), .lit (.int .u8 0), .lit (.int .u8 0), .lit (.int .u8 0), .lit (.int .u8 0), .lit (.int .u8 0), .lit (.int .u8 0), .lit (.int .u8 0), .lit (.int .u8 0), .lit (.int .u8 0), .lit (.int .u8 0), .lit (.int .u8 0), .lit (.int .u8 0), .lit (.int .u8 0), .lit (.int .u8 0), .lit (.int .u8 0), .lit (.int .u8 0), .lit (.int .u8 0), .lit (.int .u8 0), .lit (.int .u8 0), .lit (.int .u8 0), .lit (.int .u8 0), .lit (.int .u8 0), .lit (.int .u8 0), .lit (.int .u8 0), .lit (.int .u8 0), .lit (.int .u8 0), .lit (.int .u8 0), .lit (.int .u8 0), .lit (.int .u8 0), .lit (.int .u8 0), .lit (.int .u8 0), .lit (.int .u8 0), .lit (.int .u8 0), .lit (.int .u8 0), .lit (.int .u8 0), .lit (.int .u8 0), .lit (.int .u8 0), .lit (.int .u8 0), .lit (.int .u8 0), .lit (.int .u8 0), .lit (.int .u8 0), .lit (.int .u8 0), .lit (.int .u8 0), .lit (.int .u8 0), .lit (.int .u8 0), .lit (.int .u8 0), .lit (.int .u8 0), .lit (.int .u8 0), .lit (.int .u8 0), .lit (.int .u8 0), .lit (.int .u8 0), .lit (.int .u8 0), .lit (.int .u8 0), .lit (.int .u8 0), .lit (.int .u8 0), .lit (.int .u8 0), .lit (.int .u8 0), .lit (.int .u8 0), .lit (.int .u8 0), .lit (.int .u8 0), .lit (.int .u8 0), .lit (.int .u8 0), .lit (.int .u8 0), .lit (.int .u8 0), .lit (.int .u8 0), .lit (.int .u8 0), .lit (.int .u8 0), .lit (.int .u8 0), .lit (.int .u8 0), .lit (.int .u8 0), .lit (.int .u8 0), .lit (.int .u8 0), .lit (.int .u8 0), .lit (.int .u8 0), .lit (.int .u8 0)]

/-- 'flagstonelaw27.StickyPlays': WHATEVER THE INPUT: true; the input reads as it did. -/
def stickyPlaysSpec : ChangeSpec := { name := "stickyPlays", fn := fun _ => fun
  | [d] => { results := [.lit (.bool true)], args := [d] }
  | _ => none }
def stickyPlaysRow : OpenClaim := { program := "ytinpgogjkmmjpaadoor", sum := "fa370912ddc31ff4e64436ada21bf23f1903c315d699341d4275341f9aa93b64", func := "flagstone/flagstonelaw27.StickyPlays", spec := "stickyPlays", unfollowed := true, recurses := true, named := ["strings.asciiSpace", "unicode.White_Space"], plainKeys := false, apart := false, laid := [("unicode.White_Space", laid_unicode_White_Space), ("strings.asciiSpace", laid_strings_asciiSpace)] }
def StickyPlaysSaid : Prop := stickyPlaysRow.holds Tryd.pinned (OpenSpec.ofChange stickyPlaysSpec)

/-- ITS FALSE NEIGHBOUR: 'it returns false'. Refute it at one input. -/
def stickyPlaysWrong : ChangeSpec := { name := "stickyPlays", fn := fun _ => fun
  | [d] => { results := [.lit (.bool false)], args := [d] }
  | _ => none }
def StickyPlaysWrongFalsely : Prop := stickyPlaysRow.holds Tryd.pinned (OpenSpec.ofChange stickyPlaysWrong)

/-- 'flagstonelaw27.StickySpoilt': WHATEVER THE INPUT: true; the input reads as it did. -/
def stickySpoiltSpec : ChangeSpec := { name := "stickySpoilt", fn := fun _ => fun
  | [d1, d2, d3, d4, d5] => { results := [.lit (.bool true)], args := [d1, d2, d3, d4, d5] }
  | _ => none }
def stickySpoiltRow : OpenClaim := { program := "ytinpgogjkmmjpaadoor", sum := "fa370912ddc31ff4e64436ada21bf23f1903c315d699341d4275341f9aa93b64", func := "flagstone/flagstonelaw27.StickySpoilt", spec := "stickySpoilt", unfollowed := true, recurses := true, named := ["strings.asciiSpace", "unicode.White_Space"], plainKeys := false, apart := false, laid := [("unicode.White_Space", laid_unicode_White_Space), ("strings.asciiSpace", laid_strings_asciiSpace)] }
def StickySpoiltSaid : Prop := stickySpoiltRow.holds Tryd.pinned (OpenSpec.ofChange stickySpoiltSpec)

/-- ITS FALSE NEIGHBOUR: 'it returns false'. Refute it at one input. -/
def stickySpoiltWrong : ChangeSpec := { name := "stickySpoilt", fn := fun _ => fun
  | [d1, d2, d3, d4, d5] => { results := [.lit (.bool false)], args := [d1, d2, d3, d4, d5] }
  | _ => none }
def StickySpoiltWrongFalsely : Prop := stickySpoiltRow.holds Tryd.pinned (OpenSpec.ofChange stickySpoiltWrong)

/-- 'flagstonelaw27.StickyOnce': WHATEVER THE INPUT: true; the input reads as it did. -/
def stickyOnceSpec : ChangeSpec := { name := "stickyOnce", fn := fun _ => fun
  | [d1, d2] => { results := [.lit (.bool true)], args := [d1, d2] }
  | _ => none }
def stickyOnceRow : OpenClaim := { program := "ytinpgogjkmmjpaadoor", sum := "fa370912ddc31ff4e64436ada21bf23f1903c315d699341d4275341f9aa93b64", func := "flagstone/flagstonelaw27.StickyOnce", spec := "stickyOnce", unfollowed := true, recurses := true, named := ["strings.asciiSpace", "unicode.White_Space"], plainKeys := false, apart := false, laid := [("unicode.White_Space", laid_unicode_White_Space), ("strings.asciiSpace", laid_strings_asciiSpace)] }
def StickyOnceSaid : Prop := stickyOnceRow.holds Tryd.pinned (OpenSpec.ofChange stickyOnceSpec)

/-- ITS FALSE NEIGHBOUR: 'it returns false'. Refute it at one input. -/
def stickyOnceWrong : ChangeSpec := { name := "stickyOnce", fn := fun _ => fun
  | [d1, d2] => { results := [.lit (.bool false)], args := [d1, d2] }
  | _ => none }
def StickyOnceWrongFalsely : Prop := stickyOnceRow.holds Tryd.pinned (OpenSpec.ofChange stickyOnceWrong)

/-- 'flagstonelaw27.StickyStays': WHATEVER THE INPUT: true; the input reads as it did. -/
def stickyStaysSpec : ChangeSpec := { name := "stickyStays", fn := fun _ => fun
  | [d] => { results := [.lit (.bool true)], args := [d] }
  | _ => none }
def stickyStaysRow : OpenClaim := { program := "ytinpgogjkmmjpaadoor", sum := "fa370912ddc31ff4e64436ada21bf23f1903c315d699341d4275341f9aa93b64", func := "flagstone/flagstonelaw27.StickyStays", spec := "stickyStays", unfollowed := true, recurses := true, named := ["strings.asciiSpace", "unicode.White_Space"], plainKeys := false, apart := false, laid := [("unicode.White_Space", laid_unicode_White_Space), ("strings.asciiSpace", laid_strings_asciiSpace)] }
def StickyStaysSaid : Prop := stickyStaysRow.holds Tryd.pinned (OpenSpec.ofChange stickyStaysSpec)

/-- ITS FALSE NEIGHBOUR: 'it returns false'. Refute it at one input. -/
def stickyStaysWrong : ChangeSpec := { name := "stickyStays", fn := fun _ => fun
  | [d] => { results := [.lit (.bool false)], args := [d] }
  | _ => none }
def StickyStaysWrongFalsely : Prop := stickyStaysRow.holds Tryd.pinned (OpenSpec.ofChange stickyStaysWrong)

/-- 'flagstonelaw27.StickyMerges': WHATEVER THE INPUT: true; the input reads as it did. -/
def stickyMergesSpec : ChangeSpec := { name := "stickyMerges", fn := fun _ => fun
  | [d1, d2, d3] => { results := [.lit (.bool true)], args := [d1, d2, d3] }
  | _ => none }
def stickyMergesRow : OpenClaim := { program := "ytinpgogjkmmjpaadoor", sum := "fa370912ddc31ff4e64436ada21bf23f1903c315d699341d4275341f9aa93b64", func := "flagstone/flagstonelaw27.StickyMerges", spec := "stickyMerges", unfollowed := true, recurses := true, named := ["strings.asciiSpace", "unicode.White_Space"], plainKeys := false, apart := false, laid := [("unicode.White_Space", laid_unicode_White_Space), ("strings.asciiSpace", laid_strings_asciiSpace)] }
def StickyMergesSaid : Prop := stickyMergesRow.holds Tryd.pinned (OpenSpec.ofChange stickyMergesSpec)

/-- ITS FALSE NEIGHBOUR: 'it returns false'. Refute it at one input. -/
def stickyMergesWrong : ChangeSpec := { name := "stickyMerges", fn := fun _ => fun
  | [d1, d2, d3] => { results := [.lit (.bool false)], args := [d1, d2, d3] }
  | _ => none }
def StickyMergesWrongFalsely : Prop := stickyMergesRow.holds Tryd.pinned (OpenSpec.ofChange stickyMergesWrong)

/-- 'flagstonelaw27.StickyPast': WHATEVER THE INPUT: true; the input reads as it did. -/
def stickyPastSpec : ChangeSpec := { name := "stickyPast", fn := fun _ => fun
  | [d1, d2, d3, d4] => { results := [.lit (.bool true)], args := [d1, d2, d3, d4] }
  | _ => none }
def stickyPastRow : OpenClaim := { program := "ytinpgogjkmmjpaadoor", sum := "fa370912ddc31ff4e64436ada21bf23f1903c315d699341d4275341f9aa93b64", func := "flagstone/flagstonelaw27.StickyPast", spec := "stickyPast", unfollowed := true, recurses := true, named := ["strings.asciiSpace", "unicode.White_Space"], plainKeys := false, apart := false, laid := [("unicode.White_Space", laid_unicode_White_Space), ("strings.asciiSpace", laid_strings_asciiSpace)] }
def StickyPastSaid : Prop := stickyPastRow.holds Tryd.pinned (OpenSpec.ofChange stickyPastSpec)

/-- ITS FALSE NEIGHBOUR: 'it returns false'. Refute it at one input. -/
def stickyPastWrong : ChangeSpec := { name := "stickyPast", fn := fun _ => fun
  | [d1, d2, d3, d4] => { results := [.lit (.bool false)], args := [d1, d2, d3, d4] }
  | _ => none }
def StickyPastWrongFalsely : Prop := stickyPastRow.holds Tryd.pinned (OpenSpec.ofChange stickyPastWrong)

/-- 'flagstonelaw27.StickyChanges': WHATEVER THE INPUT: true; the input reads as it did. -/
def stickyChangesSpec : ChangeSpec := { name := "stickyChanges", fn := fun _ => fun
  | [d1, d2, d3, d4, d5] => { results := [.lit (.bool true)], args := [d1, d2, d3, d4, d5] }
  | _ => none }
def stickyChangesRow : OpenClaim := { program := "ytinpgogjkmmjpaadoor", sum := "fa370912ddc31ff4e64436ada21bf23f1903c315d699341d4275341f9aa93b64", func := "flagstone/flagstonelaw27.StickyChanges", spec := "stickyChanges", unfollowed := true, recurses := true, named := ["strings.asciiSpace", "unicode.White_Space"], plainKeys := false, apart := false, laid := [("unicode.White_Space", laid_unicode_White_Space), ("strings.asciiSpace", laid_strings_asciiSpace)] }
def StickyChangesSaid : Prop := stickyChangesRow.holds Tryd.pinned (OpenSpec.ofChange stickyChangesSpec)

/-- ITS FALSE NEIGHBOUR: 'it returns false'. Refute it at one input. -/
def stickyChangesWrong : ChangeSpec := { name := "stickyChanges", fn := fun _ => fun
  | [d1, d2, d3, d4, d5] => { results := [.lit (.bool false)], args := [d1, d2, d3, d4, d5] }
  | _ => none }
def StickyChangesWrongFalsely : Prop := stickyChangesRow.holds Tryd.pinned (OpenSpec.ofChange stickyChangesWrong)

/-- 'flagstonelaw27.StickyAny': WHATEVER THE INPUT: true; the input reads as it did. -/
def stickyAnySpec : ChangeSpec := { name := "stickyAny", fn := fun _ => fun
  | [d1, d2, d3, d4, d5, d6, d7] => { results := [.lit (.bool true)], args := [d1, d2, d3, d4, d5, d6, d7] }
  | _ => none }
def stickyAnyRow : OpenClaim := { program := "ytinpgogjkmmjpaadoor", sum := "fa370912ddc31ff4e64436ada21bf23f1903c315d699341d4275341f9aa93b64", func := "flagstone/flagstonelaw27.StickyAny", spec := "stickyAny", unfollowed := true, recurses := true, named := ["strings.asciiSpace", "unicode.White_Space"], plainKeys := false, apart := false, laid := [("unicode.White_Space", laid_unicode_White_Space), ("strings.asciiSpace", laid_strings_asciiSpace)] }
def StickyAnySaid : Prop := stickyAnyRow.holds Tryd.pinned (OpenSpec.ofChange stickyAnySpec)

/-- ITS FALSE NEIGHBOUR: 'it returns false'. Refute it at one input. -/
def stickyAnyWrong : ChangeSpec := { name := "stickyAny", fn := fun _ => fun
  | [d1, d2, d3, d4, d5, d6, d7] => { results := [.lit (.bool false)], args := [d1, d2, d3, d4, d5, d6, d7] }
  | _ => none }
def StickyAnyWrongFalsely : Prop := stickyAnyRow.holds Tryd.pinned (OpenSpec.ofChange stickyAnyWrong)

/-- 'flagstonelaw27.StickyKeeps': WHATEVER THE INPUT: true; the input reads as it did. -/
def stickyKeepsSpec : ChangeSpec := { name := "stickyKeeps", fn := fun _ => fun
  | [d1, d2] => { results := [.lit (.bool true)], args := [d1, d2] }
  | _ => none }
def stickyKeepsRow : OpenClaim := { program := "ytinpgogjkmmjpaadoor", sum := "fa370912ddc31ff4e64436ada21bf23f1903c315d699341d4275341f9aa93b64", func := "flagstone/flagstonelaw27.StickyKeeps", spec := "stickyKeeps", unfollowed := true, recurses := true, named := ["strings.asciiSpace", "unicode.White_Space"], plainKeys := false, apart := false, laid := [("unicode.White_Space", laid_unicode_White_Space), ("strings.asciiSpace", laid_strings_asciiSpace)] }
def StickyKeepsSaid : Prop := stickyKeepsRow.holds Tryd.pinned (OpenSpec.ofChange stickyKeepsSpec)

/-- ITS FALSE NEIGHBOUR: 'it returns false'. Refute it at one input. -/
def stickyKeepsWrong : ChangeSpec := { name := "stickyKeeps", fn := fun _ => fun
  | [d1, d2] => { results := [.lit (.bool false)], args := [d1, d2] }
  | _ => none }
def StickyKeepsWrongFalsely : Prop := stickyKeepsRow.holds Tryd.pinned (OpenSpec.ofChange stickyKeepsWrong)

/-- 'flagstonelaw27.StickyTells': WHATEVER THE INPUT: true; the input reads as it did. -/
def stickyTellsSpec : ChangeSpec := { name := "stickyTells", fn := fun _ => fun
  | [d1, d2, d3] => { results := [.lit (.bool true)], args := [d1, d2, d3] }
  | _ => none }
def stickyTellsRow : OpenClaim := { program := "ytinpgogjkmmjpaadoor", sum := "fa370912ddc31ff4e64436ada21bf23f1903c315d699341d4275341f9aa93b64", func := "flagstone/flagstonelaw27.StickyTells", spec := "stickyTells", unfollowed := true, recurses := true, named := ["strings.asciiSpace", "unicode.White_Space"], plainKeys := false, apart := false, laid := [("unicode.White_Space", laid_unicode_White_Space), ("strings.asciiSpace", laid_strings_asciiSpace)] }
def StickyTellsSaid : Prop := stickyTellsRow.holds Tryd.pinned (OpenSpec.ofChange stickyTellsSpec)

/-- ITS FALSE NEIGHBOUR: 'it returns false'. Refute it at one input. -/
def stickyTellsWrong : ChangeSpec := { name := "stickyTells", fn := fun _ => fun
  | [d1, d2, d3] => { results := [.lit (.bool false)], args := [d1, d2, d3] }
  | _ => none }
def StickyTellsWrongFalsely : Prop := stickyTellsRow.holds Tryd.pinned (OpenSpec.ofChange stickyTellsWrong)

/- THE SECOND FORM. 'bulk': how many values and letters a reading holds, each counted each time it is reached (what is shared counts as often as it is met; a slice's spare places count too). A statement '..UptoSaid' is the law's where the arguments, and the package variables that the reading takes, are together of bulk at most 1048576: NARROWER than '..Said'. Prove '..Said' where nothing that the law and all that it calls make is longer than what came in: it says more and counts as full. Else prove '..UptoSaid'. A law counts once. -/
mutual
def uptoBulk {H : Type} : DataW H → Nat
  | .lit (.string bytes) => bytes.length + 1
  | .lit _ => 1
  | .nil => 1
  | .ptr d => uptoBulk d + 1
  | .slice elems spare => uptoBulkAll elems + uptoBulkAll spare + 1
  | .agg parts => uptoBulkAll parts + 1
  | .iface _ d => uptoBulk d + 1
  | .map entries => uptoBulkEntries entries + 1
  | .held _ => 1
def uptoBulkAll {H : Type} : List (DataW H) → Nat
  | [] => 0
  | d :: r => uptoBulk d + uptoBulkAll r
def uptoBulkEntries {H : Type} : List (Lit × DataW H) → Nat
  | [] => 0
  | x :: r => uptoBulkEntry x + uptoBulkEntries r
def uptoBulkEntry {H : Type} : Lit × DataW H → Nat
  | (.string bytes, d) => bytes.length + uptoBulk d + 1
  | (_, d) => uptoBulk d + 1
 end
def uptoSmall : (H : Type) → List (DataW H) → Bool := fun _ ds => decide (uptoBulkAll ds ≤ 1048576)
def OpenSpec.upto (s : _root_.Go.ChangeSpec) : _root_.Go.OpenSpec := { _root_.Go.OpenSpec.ofChange s with cond := some uptoSmall }

/-- 'flagstonelaw27.StickyPlays', WHERE WHAT IT READS IS OF BULK AT MOST 1048576: true; the input reads as it did. -/
def stickyPlaysUptoRow : OpenClaim := { program := "ytinpgogjkmmjpaadoor", sum := "fa370912ddc31ff4e64436ada21bf23f1903c315d699341d4275341f9aa93b64", func := "flagstone/flagstonelaw27.StickyPlays", spec := "stickyPlays", unfollowed := true, recurses := true, named := ["strings.asciiSpace", "unicode.White_Space"], plainKeys := false, apart := false, laid := [("unicode.White_Space", laid_unicode_White_Space), ("strings.asciiSpace", laid_strings_asciiSpace)], narrowed := true }
def StickyPlaysUptoSaid : Prop := stickyPlaysUptoRow.holds Tryd.pinned (OpenSpec.upto stickyPlaysSpec)

/-- 'flagstonelaw27.StickySpoilt', WHERE WHAT IT READS IS OF BULK AT MOST 1048576: true; the input reads as it did. -/
def stickySpoiltUptoRow : OpenClaim := { program := "ytinpgogjkmmjpaadoor", sum := "fa370912ddc31ff4e64436ada21bf23f1903c315d699341d4275341f9aa93b64", func := "flagstone/flagstonelaw27.StickySpoilt", spec := "stickySpoilt", unfollowed := true, recurses := true, named := ["strings.asciiSpace", "unicode.White_Space"], plainKeys := false, apart := false, laid := [("unicode.White_Space", laid_unicode_White_Space), ("strings.asciiSpace", laid_strings_asciiSpace)], narrowed := true }
def StickySpoiltUptoSaid : Prop := stickySpoiltUptoRow.holds Tryd.pinned (OpenSpec.upto stickySpoiltSpec)

/-- 'flagstonelaw27.StickyOnce', WHERE WHAT IT READS IS OF BULK AT MOST 1048576: true; the input reads as it did. -/
def stickyOnceUptoRow : OpenClaim := { program := "ytinpgogjkmmjpaadoor", sum := "fa370912ddc31ff4e64436ada21bf23f1903c315d699341d4275341f9aa93b64", func := "flagstone/flagstonelaw27.StickyOnce", spec := "stickyOnce", unfollowed := true, recurses := true, named := ["strings.asciiSpace", "unicode.White_Space"], plainKeys := false, apart := false, laid := [("unicode.White_Space", laid_unicode_White_Space), ("strings.asciiSpace", laid_strings_asciiSpace)], narrowed := true }
def StickyOnceUptoSaid : Prop := stickyOnceUptoRow.holds Tryd.pinned (OpenSpec.upto stickyOnceSpec)

/-- 'flagstonelaw27.StickyStays', WHERE WHAT IT READS IS OF BULK AT MOST 1048576: true; the input reads as it did. -/
def stickyStaysUptoRow : OpenClaim := { program := "ytinpgogjkmmjpaadoor", sum := "fa370912ddc31ff4e64436ada21bf23f1903c315d699341d4275341f9aa93b64", func := "flagstone/flagstonelaw27.StickyStays", spec := "stickyStays", unfollowed := true, recurses := true, named := ["strings.asciiSpace", "unicode.White_Space"], plainKeys := false, apart := false, laid := [("unicode.White_Space", laid_unicode_White_Space), ("strings.asciiSpace", laid_strings_asciiSpace)], narrowed := true }
def StickyStaysUptoSaid : Prop := stickyStaysUptoRow.holds Tryd.pinned (OpenSpec.upto stickyStaysSpec)

/-- 'flagstonelaw27.StickyMerges', WHERE WHAT IT READS IS OF BULK AT MOST 1048576: true; the input reads as it did. -/
def stickyMergesUptoRow : OpenClaim := { program := "ytinpgogjkmmjpaadoor", sum := "fa370912ddc31ff4e64436ada21bf23f1903c315d699341d4275341f9aa93b64", func := "flagstone/flagstonelaw27.StickyMerges", spec := "stickyMerges", unfollowed := true, recurses := true, named := ["strings.asciiSpace", "unicode.White_Space"], plainKeys := false, apart := false, laid := [("unicode.White_Space", laid_unicode_White_Space), ("strings.asciiSpace", laid_strings_asciiSpace)], narrowed := true }
def StickyMergesUptoSaid : Prop := stickyMergesUptoRow.holds Tryd.pinned (OpenSpec.upto stickyMergesSpec)

/-- 'flagstonelaw27.StickyPast', WHERE WHAT IT READS IS OF BULK AT MOST 1048576: true; the input reads as it did. -/
def stickyPastUptoRow : OpenClaim := { program := "ytinpgogjkmmjpaadoor", sum := "fa370912ddc31ff4e64436ada21bf23f1903c315d699341d4275341f9aa93b64", func := "flagstone/flagstonelaw27.StickyPast", spec := "stickyPast", unfollowed := true, recurses := true, named := ["strings.asciiSpace", "unicode.White_Space"], plainKeys := false, apart := false, laid := [("unicode.White_Space", laid_unicode_White_Space), ("strings.asciiSpace", laid_strings_asciiSpace)], narrowed := true }
def StickyPastUptoSaid : Prop := stickyPastUptoRow.holds Tryd.pinned (OpenSpec.upto stickyPastSpec)

/-- 'flagstonelaw27.StickyChanges', WHERE WHAT IT READS IS OF BULK AT MOST 1048576: true; the input reads as it did. -/
def stickyChangesUptoRow : OpenClaim := { program := "ytinpgogjkmmjpaadoor", sum := "fa370912ddc31ff4e64436ada21bf23f1903c315d699341d4275341f9aa93b64", func := "flagstone/flagstonelaw27.StickyChanges", spec := "stickyChanges", unfollowed := true, recurses := true, named := ["strings.asciiSpace", "unicode.White_Space"], plainKeys := false, apart := false, laid := [("unicode.White_Space", laid_unicode_White_Space), ("strings.asciiSpace", laid_strings_asciiSpace)], narrowed := true }
def StickyChangesUptoSaid : Prop := stickyChangesUptoRow.holds Tryd.pinned (OpenSpec.upto stickyChangesSpec)

/-- 'flagstonelaw27.StickyAny', WHERE WHAT IT READS IS OF BULK AT MOST 1048576: true; the input reads as it did. -/
def stickyAnyUptoRow : OpenClaim := { program := "ytinpgogjkmmjpaadoor", sum := "fa370912ddc31ff4e64436ada21bf23f1903c315d699341d4275341f9aa93b64", func := "flagstone/flagstonelaw27.StickyAny", spec := "stickyAny", unfollowed := true, recurses := true, named := ["strings.asciiSpace", "unicode.White_Space"], plainKeys := false, apart := false, laid := [("unicode.White_Space", laid_unicode_White_Space), ("strings.asciiSpace", laid_strings_asciiSpace)], narrowed := true }
def StickyAnyUptoSaid : Prop := stickyAnyUptoRow.holds Tryd.pinned (OpenSpec.upto stickyAnySpec)

/-- 'flagstonelaw27.StickyKeeps', WHERE WHAT IT READS IS OF BULK AT MOST 1048576: true; the input reads as it did. -/
def stickyKeepsUptoRow : OpenClaim := { program := "ytinpgogjkmmjpaadoor", sum := "fa370912ddc31ff4e64436ada21bf23f1903c315d699341d4275341f9aa93b64", func := "flagstone/flagstonelaw27.StickyKeeps", spec := "stickyKeeps", unfollowed := true, recurses := true, named := ["strings.asciiSpace", "unicode.White_Space"], plainKeys := false, apart := false, laid := [("unicode.White_Space", laid_unicode_White_Space), ("strings.asciiSpace", laid_strings_asciiSpace)], narrowed := true }
def StickyKeepsUptoSaid : Prop := stickyKeepsUptoRow.holds Tryd.pinned (OpenSpec.upto stickyKeepsSpec)

/-- 'flagstonelaw27.StickyTells', WHERE WHAT IT READS IS OF BULK AT MOST 1048576: true; the input reads as it did. -/
def stickyTellsUptoRow : OpenClaim := { program := "ytinpgogjkmmjpaadoor", sum := "fa370912ddc31ff4e64436ada21bf23f1903c315d699341d4275341f9aa93b64", func := "flagstone/flagstonelaw27.StickyTells", spec := "stickyTells", unfollowed := true, recurses := true, named := ["strings.asciiSpace", "unicode.White_Space"], plainKeys := false, apart := false, laid := [("unicode.White_Space", laid_unicode_White_Space), ("strings.asciiSpace", laid_strings_asciiSpace)], narrowed := true }
def StickyTellsUptoSaid : Prop := stickyTellsUptoRow.holds Tryd.pinned (OpenSpec.upto stickyTellsSpec)

end Rows
end Go.Proofs.YtinpgogjkmmjpaaDoor

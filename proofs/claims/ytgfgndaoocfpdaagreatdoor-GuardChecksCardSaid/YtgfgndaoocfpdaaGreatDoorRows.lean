/-
  NARROWER THAN 'FOR EVERY INPUT', by the rows' own cells (each row's printed sentence says how): GuardChecks: laid · GuardLooks: laid · GuardRuns: laid · GuardReplays: laid · GuardCourse: laid · GuardReasons: laid.
  DERIVED. THE GIVEN ROWS OF THIS SEAT. 6 by the template 'for every input the law returns true; each argument reads behind the call as it read before'; 0 by the template 'total and deterministic' (their statements: YtgfgndaoocfpdaaGreatDoorTotals.lean).
  GIVEN WITH THE SEED: the statements are not yours to turn. If you find one false, say at which input.
  Laid BY PROGRAM, IN A SANDBOX (cutbox-rows.mjs): the forced cells as the released guide's own fill.sh prints them over the translation 3378ef4a55cac4d9… (all of the seat's roots in one cut). By AI agents, Wed Nov 11 2026. No macro, syntax, notation, axiom, sorry.
-/
import Derived.Test.YtgfgndaoocfpdaaGreatDoorChecked
import GoSem.Claim
import GoSem.ClaimJoined
import GoSem.ClaimMapViews
import Derived.JoinedTies
import Derived.KernelRfl
namespace Go.Proofs.YtgfgndaoocfpdaaGreatDoor
/- THE CELL 'sum', in the pinned program and in every row, IS THE sha256 OF THE DUMP (.gsa) THAT YtgfgndaoocfpdaaGreatDoorProg.lean LOADS. Nothing in Lean hashes anything: it is a label: what it is worth is what the hold of that sum in a sandbox is worth. -/
noncomputable def Tryz.pinned : Pinned := { name := "ytgfgndaoocfpdaagreatdoor", sum := "3378ef4a55cac4d95452f1243231cfef2ac9552fc12169061e6ad122e135da5a", checked := Tryz.checked }
namespace Rows
def none {H : Type} : Left H := { results := [], args := [] }

/- WHAT THE LISTED PACKAGE-LEVEL VARIABLES READ AS WHEN THE CALL BEGINS. Each datum BY PROGRAM (the guide's laid-datum.mjs) off the statement by which the dump's own 'gosem.cut.vars' lays the variable. In a bare row this is a premise. The card (YtgfgndaoocfpdaaGreatDoorCards.lean) ties it to the program's text. -/
def laid_unicode_White_Space {H : Type} : DataW H := .ptr (.agg [.slice [.agg [.lit (.int .u16 9), .lit (.int .u16 13), .lit (.int .u16 1)], .agg [.lit (.int .u16 32), .lit (.int .u16 133), .lit (.int .u16 101)], .agg [.lit (.int .u16 160), .lit (.int .u16 5760), .lit (.int .u16 5600)], .agg [.lit (.int .u16 8192), .lit (.int .u16 8202), .lit (.int .u16 1)], .agg [.lit (.int .u16 8232), .lit (.int .u16 8233), .lit (.int .u16 1)], .agg [.lit (.int .u16 8239), .lit (.int .u16 8287), .lit (.int .u16 48)], .agg [.lit (.int .u16 12288), .lit (.int .u16 12288), .lit (.int .u16 1)]] [], .nil, .lit (.int .i64 2)])
def laid_strings_asciiSpace {H : Type} : DataW H := .agg [.lit (.int .u8 0), .lit (.int .u8 0), .lit (.int .u8 0), .lit (.int .u8 0), .lit (.int .u8 0), .lit (.int .u8 0), .lit (.int .u8 0), .lit (.int .u8 0), .lit (.int .u8 0), .lit (.int .u8 1), .lit (.int .u8 1), .lit (.int .u8 1), .lit (.int .u8 1), .lit (.int .u8 1), .lit (.int .u8 0), .lit (.int .u8 0), .lit (.int .u8 0), .lit (.int .u8 0), .lit (.int .u8 0), .lit (.int .u8 0), .lit (.int .u8 0), .lit (.int .u8 0), .lit (.int .u8 0), .lit (.int .u8 0), .lit (.int .u8 0), .lit (.int .u8 0), .lit (.int .u8 0), .lit (.int .u8 0), .lit (.int .u8 0), .lit (.int .u8 0), .lit (.int .u8 0), .lit (.int .u8 0), .lit (.int .u8 1), .lit (.int .u8 0), .lit (.int .u8 0), .lit (.int .u8 0), .lit (.int .u8 0), .lit (.int .u8 0), .lit (.int .u8 0), .lit (.int .u8 0), .lit (.int .u8 0), .lit (.int .u8 0), .lit (.int .u8 0), .lit (.int .u8 0), .lit (.int .u8 0), .lit (.int .u8 0), .lit (.int .u8 0), .lit (.int .u8 0), .lit (.int .u8 0), .lit (.int .u8 0), .lit (.int .u8 0), .lit (.int .u8 0), .lit (.int .u8 0), .lit (.int .u8 0), .lit (.int .u8 0), .lit (.int .u8 0), .lit (.int .u8 0), .lit (.int .u8 0), .lit (.int .u8 0), .lit (.int .u8 0), .lit (.int .u8 0), .lit (.int .u8 0), .lit (.int .u8 0), .lit (.int .u8 0), .lit (.int .u8 0), .lit (.int .u8 0), .lit (.int .u8 0), .lit (.int .u8 0), .lit (.int .u8 0), .lit (.int .u8 0), .lit (.int .u8 0), .lit (.int .u8 0), .lit (.int .u8 0), .lit (.int .u8 0), .lit (.int .u8 0), .lit (.int .u8 0), .lit (.int .u8 0), .lit (.int .u8 0), .lit (.int .u8 0), .lit (.int .u8 0), .lit (.int .u8 0), .lit (.int .u8 0), .lit (.int .u8 0), .lit (.int .u8 0), .lit (.int .u8 0), .lit (.int .u8 0), .lit (.int .u8 0), .lit (.int .u8 0), .lit (.int .u8 0), .lit (.int .u8 0), .lit (.int .u8 0), .lit (.int .u8 0), .lit (.int .u8 0), .lit (.int .u8 0), .lit (.int .u8 0), .lit (.int .u8 0), .lit (.int .u8 0), .lit (.int .u8 0), .lit (.int .u8 0), .lit (.int .u8 0), .lit (.int .u8 0), .lit (.int .u8 0), .lit (.int .u8 0), .lit (.int .u8 0), .lit (.int .u8 0), .lit (.int .u8 0), .lit (.int .u8 0), .lit (.int .u8 0), .lit (.int .u8 0), .lit (.int .u8 0), .lit (.int .u8 0), .lit (.int .u8 0), .lit (.int .u8 0), .lit (.int .u8 0), .lit (.int .u8 0), .lit (.int .u8 0), .lit (.int .u8 0), .lit (.int .u8 0), .lit (.int .u8 0), .lit (.int .u8 0), .lit (.int .u8 0), .lit (.int .u8 0), .lit (.int .u8 0), .lit (.int .u8 0), .lit (.int .u8 0), .lit (.int .u8 0), .lit (.int .u8 0), .lit (.int .u8 0), .lit (.int .u8 0), .lit (.int .u8 0), .lit (.int .u8 0), .lit (.int .u8 0), .lit (.int .u8 0), .lit (.int .u8 0), .lit (.int .u8 0), .lit (.int .u8 0), .lit (.int .u8 0), .lit (.int .u8 0), .lit (.int .u8 0), .lit (.int .u8 0), .lit (.int .u8 0), .lit (.int .u8 0), .lit (.int .u8 0), .lit (.int .u8 0), .lit (.int .u8 0), .lit (.int .u8 0), .lit (.int .u8 0), .lit (.int .u8 0), .lit (.int .u8 0), .lit (.int .u8 0), .lit (.int .u8 0), .lit (.int .u8 0), .lit (.int .u8 0), .lit (.int .u8 0), .lit (.int .u8 0), .lit (.int .u8 0), .lit (.int .u8 0), .lit (.int .u8 0), .lit (.int .u8 0), .lit (.int .u8 0), .lit (.int .u8 0), .lit (.int .u8 0), .lit (.int .u8 0), .lit (.int .u8 0), .lit (.int .u8 0), .lit (.int .u8 0), .lit (.int .u8 0), .lit (.int .u8 0), .lit (.int .u8 0), .lit (.int .u8 0), .lit (.int .u8 0), .lit (.int .u8 0), .lit (.int .u8 0), .lit (.int .u8 0), .lit (.int .u8 0), .lit (.int .u8 0), .lit (.int .u8 0), .lit (.int .u8 0), .lit (.int .u8 0), .lit (.int .u8 0), .lit (.int .u8 0), .lit (.int .u8 0), .lit (.int .u8 0), .lit (.int .u8 0), .lit (.int .u8 0), .lit (.int .u8 0), .lit (.int .u8 0), .lit (.int .u8 0), .lit (.int .u8 0), .lit (.int .u8 0), .lit (.int .u8 0), .lit (.int .u8 0), .lit (.int .u8 0), .lit (.int .u8 0), .lit (.int .u8 0), .lit (.int .u8 0), .lit (.int .u8 0), .lit (.int .u8 0), .lit (.int .u8 0), .lit (.int .u8 0), .lit (.int .u8 0), .lit (.int .u8 0), .lit (.int .u8 0), .lit (.int .u8 0), .lit (.int .u8 0), .lit (.int .u8 0), .lit (.int .u8 0), .lit (.int .u8 0), .lit (.int .u8 0), .lit (.int .u8 0), .lit (.int .u8 0), .lit (.int .u8 0), .lit (.int .u8 0), .lit (.int .u8 0), .lit (.int .u8 0), .lit (.int .u8 0), .lit (.int .u8 0), .lit (.int .u8 0), .lit (.int .u8 0), .lit (.int .u8 0), .lit (.int .u8 0), .lit (.int .u8 0), .lit (.int .u8 0), .lit (.int .u8 0), .lit (.int .u8 0), .lit (.int .u8 0), .lit (.int .u8 0), .lit (.int .u8 0), .lit (.int .u8 0), .lit (.int .u8 0), .lit (.int .u8 0), .lit (.int .u8 0), .lit (.int .u8 0), .lit (.int .u8 0), .lit (.int .u8 0), .lit (.int .u8 0), .lit (.int .u8 0), .lit (.int .u8 0), .lit (.int .u8 0), .lit (.int .u8 0), .lit (.int .u8 0), .lit (.int .u8 0), .lit (.int .u8 0), .lit (.int .u8 0), .lit (.int .u8 0), .lit (.int .u8 0), .lit (.int .u8 0), .lit (.int .u8 0), .lit (.int .u8 0), .lit (.int .u8 0), .lit (.int .u8 0), .lit (.int .u8 0), .lit (.int .u8 0), .lit (.int .u8 0), .lit (.int .u8 0), .lit (.int .u8 0)]

/-- 'flagstonelaw43.GuardChecks': WHATEVER THE INPUT: true; the input reads as it did. -/
def guardChecksSpec : ChangeSpec := { name := "guardChecks", fn := fun _ => fun
  | [d1, d2, d3, d4, d5, d6] => { results := [.lit (.bool true)], args := [d1, d2, d3, d4, d5, d6] }
  | _ => none }
def guardChecksRow : OpenClaim := { program := "ytgfgndaoocfpdaagreatdoor", sum := "3378ef4a55cac4d95452f1243231cfef2ac9552fc12169061e6ad122e135da5a", func := "flagstone/flagstonelaw43.GuardChecks", spec := "guardChecks", unfollowed := true, recurses := true, named := ["strings.asciiSpace", "unicode.White_Space", "math/bits.divideError", "math/bits.overflowError"], apart := false, laid := [("unicode.White_Space", laid_unicode_White_Space), ("strings.asciiSpace", laid_strings_asciiSpace)] }
def GuardChecksSaid : Prop := guardChecksRow.holds Tryz.pinned (OpenSpec.ofChange guardChecksSpec)

/-- ITS FALSE NEIGHBOUR: 'it returns false'. Refute it at one input. -/
def guardChecksWrong : ChangeSpec := { name := "guardChecks", fn := fun _ => fun
  | [d1, d2, d3, d4, d5, d6] => { results := [.lit (.bool false)], args := [d1, d2, d3, d4, d5, d6] }
  | _ => none }
def GuardChecksWrongFalsely : Prop := guardChecksRow.holds Tryz.pinned (OpenSpec.ofChange guardChecksWrong)

/-- 'flagstonelaw43.GuardLooks': WHATEVER THE INPUT: true; the input reads as it did. -/
def guardLooksSpec : ChangeSpec := { name := "guardLooks", fn := fun _ => fun
  | [d1, d2, d3, d4, d5, d6, d7, d8, d9, d10, d11, d12] => { results := [.lit (.bool true)], args := [d1, d2, d3, d4, d5, d6, d7, d8, d9, d10, d11, d12] }
  | _ => none }
def guardLooksRow : OpenClaim := { program := "ytgfgndaoocfpdaagreatdoor", sum := "3378ef4a55cac4d95452f1243231cfef2ac9552fc12169061e6ad122e135da5a", func := "flagstone/flagstonelaw43.GuardLooks", spec := "guardLooks", unfollowed := true, recurses := true, named := ["strings.asciiSpace", "unicode.White_Space", "math/bits.divideError", "math/bits.overflowError"], apart := false, laid := [("unicode.White_Space", laid_unicode_White_Space), ("strings.asciiSpace", laid_strings_asciiSpace)] }
def GuardLooksSaid : Prop := guardLooksRow.holds Tryz.pinned (OpenSpec.ofChange guardLooksSpec)

/-- ITS FALSE NEIGHBOUR: 'it returns false'. Refute it at one input. -/
def guardLooksWrong : ChangeSpec := { name := "guardLooks", fn := fun _ => fun
  | [d1, d2, d3, d4, d5, d6, d7, d8, d9, d10, d11, d12] => { results := [.lit (.bool false)], args := [d1, d2, d3, d4, d5, d6, d7, d8, d9, d10, d11, d12] }
  | _ => none }
def GuardLooksWrongFalsely : Prop := guardLooksRow.holds Tryz.pinned (OpenSpec.ofChange guardLooksWrong)

/-- 'flagstonelaw43.GuardRuns': WHATEVER THE INPUT: true; the input reads as it did. -/
def guardRunsSpec : ChangeSpec := { name := "guardRuns", fn := fun _ => fun
  | [d1, d2, d3, d4, d5, d6, d7, d8] => { results := [.lit (.bool true)], args := [d1, d2, d3, d4, d5, d6, d7, d8] }
  | _ => none }
def guardRunsRow : OpenClaim := { program := "ytgfgndaoocfpdaagreatdoor", sum := "3378ef4a55cac4d95452f1243231cfef2ac9552fc12169061e6ad122e135da5a", func := "flagstone/flagstonelaw43.GuardRuns", spec := "guardRuns", unfollowed := true, recurses := true, named := ["strings.asciiSpace", "unicode.White_Space", "math/bits.divideError", "math/bits.overflowError"], apart := false, laid := [("unicode.White_Space", laid_unicode_White_Space), ("strings.asciiSpace", laid_strings_asciiSpace)] }
def GuardRunsSaid : Prop := guardRunsRow.holds Tryz.pinned (OpenSpec.ofChange guardRunsSpec)

/-- ITS FALSE NEIGHBOUR: 'it returns false'. Refute it at one input. -/
def guardRunsWrong : ChangeSpec := { name := "guardRuns", fn := fun _ => fun
  | [d1, d2, d3, d4, d5, d6, d7, d8] => { results := [.lit (.bool false)], args := [d1, d2, d3, d4, d5, d6, d7, d8] }
  | _ => none }
def GuardRunsWrongFalsely : Prop := guardRunsRow.holds Tryz.pinned (OpenSpec.ofChange guardRunsWrong)

/-- 'flagstonelaw43.GuardReplays': WHATEVER THE INPUT: true; the input reads as it did. -/
def guardReplaysSpec : ChangeSpec := { name := "guardReplays", fn := fun _ => fun
  | [d1, d2, d3, d4, d5, d6, d7] => { results := [.lit (.bool true)], args := [d1, d2, d3, d4, d5, d6, d7] }
  | _ => none }
def guardReplaysRow : OpenClaim := { program := "ytgfgndaoocfpdaagreatdoor", sum := "3378ef4a55cac4d95452f1243231cfef2ac9552fc12169061e6ad122e135da5a", func := "flagstone/flagstonelaw43.GuardReplays", spec := "guardReplays", unfollowed := true, recurses := true, named := ["strings.asciiSpace", "unicode.White_Space", "math/bits.divideError", "math/bits.overflowError"], apart := false, laid := [("unicode.White_Space", laid_unicode_White_Space), ("strings.asciiSpace", laid_strings_asciiSpace)] }
def GuardReplaysSaid : Prop := guardReplaysRow.holds Tryz.pinned (OpenSpec.ofChange guardReplaysSpec)

/-- ITS FALSE NEIGHBOUR: 'it returns false'. Refute it at one input. -/
def guardReplaysWrong : ChangeSpec := { name := "guardReplays", fn := fun _ => fun
  | [d1, d2, d3, d4, d5, d6, d7] => { results := [.lit (.bool false)], args := [d1, d2, d3, d4, d5, d6, d7] }
  | _ => none }
def GuardReplaysWrongFalsely : Prop := guardReplaysRow.holds Tryz.pinned (OpenSpec.ofChange guardReplaysWrong)

/-- 'flagstonelaw43.GuardCourse': WHATEVER THE INPUT: true; the input reads as it did. -/
def guardCourseSpec : ChangeSpec := { name := "guardCourse", fn := fun _ => fun
  | [d1, d2, d3, d4, d5, d6, d7] => { results := [.lit (.bool true)], args := [d1, d2, d3, d4, d5, d6, d7] }
  | _ => none }
def guardCourseRow : OpenClaim := { program := "ytgfgndaoocfpdaagreatdoor", sum := "3378ef4a55cac4d95452f1243231cfef2ac9552fc12169061e6ad122e135da5a", func := "flagstone/flagstonelaw43.GuardCourse", spec := "guardCourse", unfollowed := true, recurses := true, named := ["strings.asciiSpace", "unicode.White_Space", "math/bits.divideError", "math/bits.overflowError"], apart := false, laid := [("unicode.White_Space", laid_unicode_White_Space), ("strings.asciiSpace", laid_strings_asciiSpace)] }
def GuardCourseSaid : Prop := guardCourseRow.holds Tryz.pinned (OpenSpec.ofChange guardCourseSpec)

/-- ITS FALSE NEIGHBOUR: 'it returns false'. Refute it at one input. -/
def guardCourseWrong : ChangeSpec := { name := "guardCourse", fn := fun _ => fun
  | [d1, d2, d3, d4, d5, d6, d7] => { results := [.lit (.bool false)], args := [d1, d2, d3, d4, d5, d6, d7] }
  | _ => none }
def GuardCourseWrongFalsely : Prop := guardCourseRow.holds Tryz.pinned (OpenSpec.ofChange guardCourseWrong)

/-- 'flagstonelaw43.GuardReasons': WHATEVER THE INPUT: true; the input reads as it did. -/
def guardReasonsSpec : ChangeSpec := { name := "guardReasons", fn := fun _ => fun
  | [d1, d2, d3, d4, d5, d6, d7] => { results := [.lit (.bool true)], args := [d1, d2, d3, d4, d5, d6, d7] }
  | _ => none }
def guardReasonsRow : OpenClaim := { program := "ytgfgndaoocfpdaagreatdoor", sum := "3378ef4a55cac4d95452f1243231cfef2ac9552fc12169061e6ad122e135da5a", func := "flagstone/flagstonelaw43.GuardReasons", spec := "guardReasons", unfollowed := true, recurses := true, named := ["strings.asciiSpace", "unicode.White_Space", "math/bits.divideError", "math/bits.overflowError"], apart := false, laid := [("unicode.White_Space", laid_unicode_White_Space), ("strings.asciiSpace", laid_strings_asciiSpace)] }
def GuardReasonsSaid : Prop := guardReasonsRow.holds Tryz.pinned (OpenSpec.ofChange guardReasonsSpec)

/-- ITS FALSE NEIGHBOUR: 'it returns false'. Refute it at one input. -/
def guardReasonsWrong : ChangeSpec := { name := "guardReasons", fn := fun _ => fun
  | [d1, d2, d3, d4, d5, d6, d7] => { results := [.lit (.bool false)], args := [d1, d2, d3, d4, d5, d6, d7] }
  | _ => none }
def GuardReasonsWrongFalsely : Prop := guardReasonsRow.holds Tryz.pinned (OpenSpec.ofChange guardReasonsWrong)

/- THE SECOND FORM. 'bulk': how many values and letters a reading holds, each counted each time it is reached (what is shared counts as often as it is met; a slice's spare places count too). A statement '..UptoSaid' is the law's where the arguments, and the package variables that the reading takes, are together of bulk at most 1048576: NARROWER than '..Said'. Prove '..Said' where nothing that the law and all that it calls make is longer than what came in: it says more and counts as full. Else prove '..UptoSaid'. A law counts once. -/
mutual
def uptoBulk {H : Type} : DataW H → Nat
  | .lit (.string bytes) => bytes.length + 1
  | .lit _ => 1
  | .nil => 1
  | .ptr d => uptoBulk d + 1
  | .slice elems spare => uptoBulkAll elems + uptoBulkAll spare + 1
  | .agg parts => uptoBulkAll parts + 1
  | .iface _ d => uptoBulk d + 1
  | .map entries => uptoBulkEntries entries + 1
  | .held _ => 1
def uptoBulkAll {H : Type} : List (DataW H) → Nat
  | [] => 0
  | d :: r => uptoBulk d + uptoBulkAll r
def uptoBulkEntries {H : Type} : List (Lit × DataW H) → Nat
  | [] => 0
  | x :: r => uptoBulkEntry x + uptoBulkEntries r
def uptoBulkEntry {H : Type} : Lit × DataW H → Nat
  | (.string bytes, d) => bytes.length + uptoBulk d + 1
  | (_, d) => uptoBulk d + 1
 end
def uptoSmall : (H : Type) → List (DataW H) → Bool := fun _ ds => decide (uptoBulkAll ds ≤ 1048576)
def OpenSpec.upto (s : _root_.Go.ChangeSpec) : _root_.Go.OpenSpec := { _root_.Go.OpenSpec.ofChange s with cond := some uptoSmall }

/-- 'flagstonelaw43.GuardChecks', WHERE WHAT IT READS IS OF BULK AT MOST 1048576: true; the input reads as it did. -/
def guardChecksUptoRow : OpenClaim := { program := "ytgfgndaoocfpdaagreatdoor", sum := "3378ef4a55cac4d95452f1243231cfef2ac9552fc12169061e6ad122e135da5a", func := "flagstone/flagstonelaw43.GuardChecks", spec := "guardChecks", unfollowed := true, recurses := true, named := ["strings.asciiSpace", "unicode.White_Space", "math/bits.divideError", "math/bits.overflowError"], apart := false, laid := [("unicode.White_Space", laid_unicode_White_Space), ("strings.asciiSpace", laid_strings_asciiSpace)], narrowed := true }
def GuardChecksUptoSaid : Prop := guardChecksUptoRow.holds Tryz.pinned (OpenSpec.upto guardChecksSpec)

/-- 'flagstonelaw43.GuardLooks', WHERE WHAT IT READS IS OF BULK AT MOST 1048576: true; the input reads as it did. -/
def guardLooksUptoRow : OpenClaim := { program := "ytgfgndaoocfpdaagreatdoor", sum := "3378ef4a55cac4d95452f1243231cfef2ac9552fc12169061e6ad122e135da5a", func := "flagstone/flagstonelaw43.GuardLooks", spec := "guardLooks", unfollowed := true, recurses := true, named := ["strings.asciiSpace", "unicode.White_Space", "math/bits.divideError", "math/bits.overflowError"], apart := false, laid := [("unicode.White_Space", laid_unicode_White_Space), ("strings.asciiSpace", laid_strings_asciiSpace)], narrowed := true }
def GuardLooksUptoSaid : Prop := guardLooksUptoRow.holds Tryz.pinned (OpenSpec.upto guardLooksSpec)

/-- 'flagstonelaw43.GuardRuns', WHERE WHAT IT READS IS OF BULK AT MOST 1048576: true; the input reads as it did. -/
def guardRunsUptoRow : OpenClaim := { program := "ytgfgndaoocfpdaagreatdoor", sum := "3378ef4a55cac4d95452f1243231cfef2ac9552fc12169061e6ad122e135da5a", func := "flagstone/flagstonelaw43.GuardRuns", spec := "guardRuns", unfollowed := true, recurses := true, named := ["strings.asciiSpace", "unicode.White_Space", "math/bits.divideError", "math/bits.overflowError"], apart := false, laid := [("unicode.White_Space", laid_unicode_White_Space), ("strings.asciiSpace", laid_strings_asciiSpace)], narrowed := true }
def GuardRunsUptoSaid : Prop := guardRunsUptoRow.holds Tryz.pinned (OpenSpec.upto guardRunsSpec)

/-- 'flagstonelaw43.GuardReplays', WHERE WHAT IT READS IS OF BULK AT MOST 1048576: true; the input reads as it did. -/
def guardReplaysUptoRow : OpenClaim := { program := "ytgfgndaoocfpdaagreatdoor", sum := "3378ef4a55cac4d95452f1243231cfef2ac9552fc12169061e6ad122e135da5a", func := "flagstone/flagstonelaw43.GuardReplays", spec := "guardReplays", unfollowed := true, recurses := true, named := ["strings.asciiSpace", "unicode.White_Space", "math/bits.divideError", "math/bits.overflowError"], apart := false, laid := [("unicode.White_Space", laid_unicode_White_Space), ("strings.asciiSpace", laid_strings_asciiSpace)], narrowed := true }
def GuardReplaysUptoSaid : Prop := guardReplaysUptoRow.holds Tryz.pinned (OpenSpec.upto guardReplaysSpec)

/-- 'flagstonelaw43.GuardCourse', WHERE WHAT IT READS IS OF BULK AT MOST 1048576: true; the input reads as it did. -/
def guardCourseUptoRow : OpenClaim := { program := "ytgfgndaoocfpdaagreatdoor", sum := "3378ef4a55cac4d95452f1243231cfef2ac9552fc12169061e6ad122e135da5a", func := "flagstone/flagstonelaw43.GuardCourse", spec := "guardCourse", unfollowed := true, recurses := true, named := ["strings.asciiSpace", "unicode.White_Space", "math/bits.divideError", "math/bits.overflowError"], apart := false, laid := [("unicode.White_Space", laid_unicode_White_Space), ("strings.asciiSpace", laid_strings_asciiSpace)], narrowed := true }
def GuardCourseUptoSaid : Prop := guardCourseUptoRow.holds Tryz.pinned (OpenSpec.upto guardCourseSpec)

/-- 'flagstonelaw43.GuardReasons', WHERE WHAT IT READS IS OF BULK AT MOST 1048576: true; the input reads as it did. -/
def guardReasonsUptoRow : OpenClaim := { program := "ytgfgndaoocfpdaagreatdoor", sum := "3378ef4a55cac4d95452f1243231cfef2ac9552fc12169061e6ad122e135da5a", func := "flagstone/flagstonelaw43.GuardReasons", spec := "guardReasons", unfollowed := true, recurses := true, named := ["strings.asciiSpace", "unicode.White_Space", "math/bits.divideError", "math/bits.overflowError"], apart := false, laid := [("unicode.White_Space", laid_unicode_White_Space), ("strings.asciiSpace", laid_strings_asciiSpace)], narrowed := true }
def GuardReasonsUptoSaid : Prop := guardReasonsUptoRow.holds Tryz.pinned (OpenSpec.upto guardReasonsSpec)

end Rows
end Go.Proofs.YtgfgndaoocfpdaaGreatDoor

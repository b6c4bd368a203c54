/-
  NARROWER THAN 'FOR EVERY INPUT', by the rows' own cells (each row's printed sentence says how): JoinFinal: laid · JoinShares: laid · JoinPlain: laid · JoinTells: laid · JoinOnce: laid · JoinSamples: laid · JoinTallies: laid.
  DERIVED. THE GIVEN ROWS OF THIS SEAT. 7 by the template 'for every input the law returns true; each argument reads behind the call as it read before'; 0 by the template 'total and deterministic' (their statements: YtmnjmdajgilhiaaDoorTotals.lean).
  GIVEN WITH THE SEED: the statements are not yours to turn. If you find one false, say at which input.
  Laid BY PROGRAM, IN A SANDBOX (cutbox-rows.mjs): the forced cells as the released guide's own fill.sh prints them over the translation ac4ba0e7cbbd89bc… (all of the seat's roots in one cut). By AI agents, Wed Nov 11 2026. No macro, syntax, notation, axiom, sorry.
-/
import Derived.Test.YtmnjmdajgilhiaaDoorChecked
import GoSem.Claim
import GoSem.ClaimJoined
import GoSem.ClaimMapViews
import Derived.JoinedTies
import Derived.KernelRfl
namespace Go.Proofs.YtmnjmdajgilhiaaDoor
/- THE CELL 'sum', in the pinned program and in every row, IS THE sha256 OF THE DUMP (.gsa) THAT YtmnjmdajgilhiaaDoorProg.lean LOADS. Nothing in Lean hashes anything: it is a label: what it is worth is what the hold of that sum in a sandbox is worth. -/
noncomputable def Tryd.pinned : Pinned := { name := "ytmnjmdajgilhiaadoor", sum := "ac4ba0e7cbbd89bce678ca4e8218662e020b520c7f009810965d6a5705603606", checked := Tryd.checked }
namespace Rows
def none {H : Type} : Left H := { results := [], args := [] }

/- WHAT THE LISTED PACKAGE-LEVEL VARIABLES READ AS WHEN THE CALL BEGINS. Each datum BY PROGRAM (the guide's laid-datum.mjs) off the statement by which the dump's own 'gosem.cut.vars' lays the variable. In a bare row this is a premise. The card (YtmnjmdajgilhiaaDoorCards.lean) ties it to the program's text. -/
def laid_unicode_White_Space {H : Type} : DataW H := .ptr (.agg [.slice [.agg [.lit (.int .u16 9), .lit (.int .u16 13), .lit (.int .u16 1)], .agg [.lit (.int .u16 32), .lit (.int .u16 133), .lit (.int .u16 101)], .agg [.lit (.int .u16 160), .lit (.int .u16 5760), .lit (.int .u16 5600)], .agg [.lit (.int .u16 8192), .lit (.int .u16 8202), .lit (.int .u16 1)], .agg [.lit (.int .u16 8232), .lit (.int .u16 8233), .lit (.int .u16 1)], .agg [.lit (.int .u16 8239), .lit (.int .u16 8287), .lit (.int .u16 48)], .agg [.lit (.int .u16 12288), .lit (.int .u16 12288), .lit (.int .u16 1)]] [], .nil, .lit (.int .i64 2)])
def laid_strings_asciiSpace {H : Type} : DataW H := .agg [.lit (.int .u8 0), .lit (.int .u8 0), .lit (.int .u8 0), .lit (.int .u8 0), .lit (.int .u8 0), .lit (.int .u8 0), .lit (.int .u8 0), .lit (.int .u8 0), .lit (.int .u8 0), .lit (.int .u8 1), .lit (.int .u8 1), .lit (.int .u8 1), .lit (.int .u8 1), .lit (.int .u8 1), .lit (.int .u8 0), .lit (.int .u8 0), .lit (.int .u8 0), .lit (.int .u8 0), .lit (.int .u8 0), .lit (.int .u8 0), .lit (.int .u8 0), .lit (.int .u8 0), .lit (.int .u8 0), .lit (.int .u8 0), .lit (.int .u8 0), .lit (.int .u8 0), .lit (.int .u8 0), .lit (.int .u8 0), .lit (.int .u8 0), .lit (.int .u8 0), .lit (.int .u8 0), .lit (.int .u8 0), .lit (.int .u8 1), .lit (.int .u8 0), .lit (.int .u8 0), .lit (.int .u8 0), .lit (.int .u8 0), .lit (.int .u8 0), .lit (.int .u8 0), .lit (.int .u8 0), .lit (.int .u8 0), .lit (.int .u8 0), .lit (.int .u8 0), .lit (.int .u8 0), .lit (.int .u8 0), .lit (.int .u8 0), .lit (.int .u8 0), .lit (.int .u8 0), .lit (.int .u8 0), .lit (.int .u8 0), .lit (.int .u8 0), .lit (.int .u8 0), .lit (.int .u8 0), .lit (.int .u8 0), .lit (.int .u8 0), .lit (.int .u8 0), .lit (.int .u8 0), .lit (.int .u8 0), .lit (.int .u8 0), .lit (.int .u8 0), .lit (.int .u8 0), .lit (.int .u8 0), .lit (.int .u8 0), .lit (.int .u8 0), .lit (.int .u8 0), .lit (.int .u8 0), .lit (.int .u8 0), .lit (.int .u8 0), .lit (.int .u8 0), .lit (.int .u8 0), .lit (.int .u8 0), .lit (.int .u8 0), .lit (.int .u8 0), .lit (.int .u8 0), .lit (.int .u8 0), .lit (.int .u8 0), .lit (.int .u8 0), .lit (.int .u8 0), .lit (.int .u8 0), .lit (.int .u8 0), .lit (.int .u8 0), .lit (.int .u8 0), .lit (.int .u8 0), .lit (.int .u8 0), .lit (.int .u8 0), .lit (.int .u8 0), .lit (.int .u8 0), .lit (.int .u8 0), .lit (.int .u8 0), .lit (.int .u8 0), .lit (.int .u8 0), .lit (.int .u8 0), .lit (.int .u8 0), .lit (.int .u8 0), .lit (.int .u8 0), .lit (.int .u8 0), .lit (.int .u8 0), .lit (.int .u8 0), .lit (.int .u8 0), .lit (.int .u8 0), .lit (.int .u8 0), .lit (.int .u8 0), .lit (.int .u8 0), .lit (.int .u8 0), .lit (.int .u8 0), .lit (.int .u8 0), .lit (.int .u8 0), .lit (.int .u8 0), .lit (.int .u8 0), .lit (.int .u8 0), .lit (.int .u8 0), .lit (.int .u8 0), .lit (.int .u8 0), .lit (.int .u8 0), .lit (.int .u8 0), .lit (.int .u8 0), .lit (.int .u8 0), .lit (.int .u8 0), .lit (.int .u8 0), .lit (.int .u8 0), .lit (.int .u8 0), .lit (.int .u8 0), .lit (.int .u8 0), .lit (.int .u8 0), .lit (.int .u8 0), .lit (.int .u8 0), .lit (.int .u8 0), .lit (.int .u8 0), .lit (.int .u8 0), .lit (.int .u8 0), .lit (.int .u8 0), .lit (.int .u8 0), .lit (.int .u8 0), .lit (.int .u8 0), .lit (.int .u8 0), .lit (.int .u8 0), .lit (.int .u8 0), .lit (.int .u8 0), .lit (.int .u8 0), .lit (.int .u8 0), .lit (.int .u8 0), .lit (.int .u8 0), .lit (.int .u8 0), .lit (.int .u8 0), .lit (.int .u8 0), .lit (.int .u8 0), .lit (.int .u8 0), .lit (.int .u8 0), .lit (.int .u8 0), .lit (.int .u8 0), .lit (.int .u8 0), .lit (.int .u8 0), .lit (.int .u8 0), .lit (.int .u8 0), .lit (.int .u8 0), .lit (.int .u8 0), .lit (.int .u8 0), .lit (.int .u8 0), .lit (.int .u8 0), .lit (.int .u8 0), .lit (.int .u8 0), .lit (.int .u8 0), .lit (.int .u8 0), .lit (.int .u8 0), .lit (.int .u8 0), .lit (.int .u8 0), .lit (.int .u8 0), .lit (.int .u8 0), .lit (.int .u8 0), .lit (.int .u8 0), .lit (.int .u8 0), .lit (.int .u8 0), .lit (.int .u8 0), .lit (.int .u8 0), .lit (.int .u8 0), .lit (.int .u8 0), .lit (.int .u8 0), .lit (.int .u8 0), .lit (.int .u8 0), .lit (.int .u8 0), .lit (.int .u8 0), .lit (.int .u8 0), .lit (.int .u8 0), .lit (.int .u8 0), .lit (.int .u8 0), .lit (.int .u8 0), .lit (.int .u8 0), .lit (.int .u8 0), .lit (.int .u8 0), .lit (.int .u8 0), .lit (.int .u8 0), .lit (.int .u8 0), .lit (.int .u8 0), .lit (.int .u8 0), .lit (.int .u8 0), .lit (.int .u8 0), .lit (.int .u8 0), .lit (.int .u8 0), .lit (.int .u8 0), .lit (.int .u8 0), .lit (.int .u8 0), .lit (.int .u8 0), .lit (.int .u8 0), .lit (.int .u8 0), .lit (.int .u8 0), .lit (.int .u8 0), .lit (.int .u8 0), .lit (.int .u8 0), .lit (.int .u8 0), .lit (.int .u8 0), .lit (.int .u8 0), .lit (.int .u8 0), .lit (.int .u8 0), .lit (.int .u8 0), .lit (.int .u8 0), .lit (.int .u8 0), .lit (.int .u8 0), .lit (.int .u8 0), .lit (.int .u8 0), .lit (.int .u8 0), .lit (.int .u8 0), .lit (.int .u8 0), .lit (.int .u8 0), .lit (.int .u8 0), .lit (.int .u8 0), .lit (.int .u8 0), .lit (.int .u8 0), .lit (.int .u8 0), .lit (.int .u8 0), .lit (.int .u8 0), .lit (.int .u8 0), .lit (.int .u8 0), .lit (.int .u8 0), .lit (.int .u8 0), .lit (.int .u8 0), .lit (.int .u8 0), .lit (.int .u8 0), .lit (.int .u8 0), .lit (.int .u8 0), .lit (.int .u8 0), .lit (.int .u8 0), .lit (.int .u8 0), .lit (.int .u8 0), .lit (.int .u8 0), .lit (.int .u8 0), .lit (.int .u8 0), .lit (.int .u8 0), .lit (.int .u8 0), .lit (.int .u8 0), .lit (.int .u8 0), .lit (.int .u8 0), .lit (.int .u8 0), .lit (.int .u8 0), .lit (.int .u8 0), .lit (.int .u8 0), .lit (.int .u8 0)]

/-- 'flagstonelaw35.JoinFinal': WHATEVER THE INPUT: true; the input reads as it did. -/
def joinFinalSpec : ChangeSpec := { name := "joinFinal", fn := fun _ => fun
  | [d1, d2, d3, d4, d5] => { results := [.lit (.bool true)], args := [d1, d2, d3, d4, d5] }
  | _ => none }
def joinFinalRow : OpenClaim := { program := "ytmnjmdajgilhiaadoor", sum := "ac4ba0e7cbbd89bce678ca4e8218662e020b520c7f009810965d6a5705603606", func := "flagstone/flagstonelaw35.JoinFinal", spec := "joinFinal", unfollowed := true, recurses := true, named := ["strings.asciiSpace", "unicode.White_Space"], apart := false, laid := [("unicode.White_Space", laid_unicode_White_Space), ("strings.asciiSpace", laid_strings_asciiSpace)] }
def JoinFinalSaid : Prop := joinFinalRow.holds Tryd.pinned (OpenSpec.ofChange joinFinalSpec)

/-- ITS FALSE NEIGHBOUR: 'it returns false'. Refute it at one input. -/
def joinFinalWrong : ChangeSpec := { name := "joinFinal", fn := fun _ => fun
  | [d1, d2, d3, d4, d5] => { results := [.lit (.bool false)], args := [d1, d2, d3, d4, d5] }
  | _ => none }
def JoinFinalWrongFalsely : Prop := joinFinalRow.holds Tryd.pinned (OpenSpec.ofChange joinFinalWrong)

/-- 'flagstonelaw35.JoinShares': WHATEVER THE INPUT: true; the input reads as it did. -/
def joinSharesSpec : ChangeSpec := { name := "joinShares", fn := fun _ => fun
  | [d1, d2, d3, d4] => { results := [.lit (.bool true)], args := [d1, d2, d3, d4] }
  | _ => none }
def joinSharesRow : OpenClaim := { program := "ytmnjmdajgilhiaadoor", sum := "ac4ba0e7cbbd89bce678ca4e8218662e020b520c7f009810965d6a5705603606", func := "flagstone/flagstonelaw35.JoinShares", spec := "joinShares", unfollowed := true, recurses := true, named := ["strings.asciiSpace", "unicode.White_Space"], apart := false, laid := [("unicode.White_Space", laid_unicode_White_Space), ("strings.asciiSpace", laid_strings_asciiSpace)] }
def JoinSharesSaid : Prop := joinSharesRow.holds Tryd.pinned (OpenSpec.ofChange joinSharesSpec)

/-- ITS FALSE NEIGHBOUR: 'it returns false'. Refute it at one input. -/
def joinSharesWrong : ChangeSpec := { name := "joinShares", fn := fun _ => fun
  | [d1, d2, d3, d4] => { results := [.lit (.bool false)], args := [d1, d2, d3, d4] }
  | _ => none }
def JoinSharesWrongFalsely : Prop := joinSharesRow.holds Tryd.pinned (OpenSpec.ofChange joinSharesWrong)

/-- 'flagstonelaw35.JoinPlain': WHATEVER THE INPUT: true; the input reads as it did. -/
def joinPlainSpec : ChangeSpec := { name := "joinPlain", fn := fun _ => fun
  | [d1, d2, d3] => { results := [.lit (.bool true)], args := [d1, d2, d3] }
  | _ => none }
def joinPlainRow : OpenClaim := { program := "ytmnjmdajgilhiaadoor", sum := "ac4ba0e7cbbd89bce678ca4e8218662e020b520c7f009810965d6a5705603606", func := "flagstone/flagstonelaw35.JoinPlain", spec := "joinPlain", unfollowed := true, recurses := true, named := ["strings.asciiSpace", "unicode.White_Space"], apart := false, laid := [("unicode.White_Space", laid_unicode_White_Space), ("strings.asciiSpace", laid_strings_asciiSpace)] }
def JoinPlainSaid : Prop := joinPlainRow.holds Tryd.pinned (OpenSpec.ofChange joinPlainSpec)

/-- ITS FALSE NEIGHBOUR: 'it returns false'. Refute it at one input. -/
def joinPlainWrong : ChangeSpec := { name := "joinPlain", fn := fun _ => fun
  | [d1, d2, d3] => { results := [.lit (.bool false)], args := [d1, d2, d3] }
  | _ => none }
def JoinPlainWrongFalsely : Prop := joinPlainRow.holds Tryd.pinned (OpenSpec.ofChange joinPlainWrong)

/-- 'flagstonelaw35.JoinTells': WHATEVER THE INPUT: true; the input reads as it did. -/
def joinTellsSpec : ChangeSpec := { name := "joinTells", fn := fun _ => fun
  | [d1, d2, d3] => { results := [.lit (.bool true)], args := [d1, d2, d3] }
  | _ => none }
def joinTellsRow : OpenClaim := { program := "ytmnjmdajgilhiaadoor", sum := "ac4ba0e7cbbd89bce678ca4e8218662e020b520c7f009810965d6a5705603606", func := "flagstone/flagstonelaw35.JoinTells", spec := "joinTells", unfollowed := true, recurses := true, named := ["strings.asciiSpace", "unicode.White_Space"], apart := false, laid := [("unicode.White_Space", laid_unicode_White_Space), ("strings.asciiSpace", laid_strings_asciiSpace)] }
def JoinTellsSaid : Prop := joinTellsRow.holds Tryd.pinned (OpenSpec.ofChange joinTellsSpec)

/-- ITS FALSE NEIGHBOUR: 'it returns false'. Refute it at one input. -/
def joinTellsWrong : ChangeSpec := { name := "joinTells", fn := fun _ => fun
  | [d1, d2, d3] => { results := [.lit (.bool false)], args := [d1, d2, d3] }
  | _ => none }
def JoinTellsWrongFalsely : Prop := joinTellsRow.holds Tryd.pinned (OpenSpec.ofChange joinTellsWrong)

/-- 'flagstonelaw35.JoinOnce': WHATEVER THE INPUT: true; the input reads as it did. -/
def joinOnceSpec : ChangeSpec := { name := "joinOnce", fn := fun _ => fun
  | [d1, d2] => { results := [.lit (.bool true)], args := [d1, d2] }
  | _ => none }
def joinOnceRow : OpenClaim := { program := "ytmnjmdajgilhiaadoor", sum := "ac4ba0e7cbbd89bce678ca4e8218662e020b520c7f009810965d6a5705603606", func := "flagstone/flagstonelaw35.JoinOnce", spec := "joinOnce", unfollowed := true, recurses := true, named := ["strings.asciiSpace", "unicode.White_Space"], apart := false, laid := [("unicode.White_Space", laid_unicode_White_Space), ("strings.asciiSpace", laid_strings_asciiSpace)] }
def JoinOnceSaid : Prop := joinOnceRow.holds Tryd.pinned (OpenSpec.ofChange joinOnceSpec)

/-- ITS FALSE NEIGHBOUR: 'it returns false'. Refute it at one input. -/
def joinOnceWrong : ChangeSpec := { name := "joinOnce", fn := fun _ => fun
  | [d1, d2] => { results := [.lit (.bool false)], args := [d1, d2] }
  | _ => none }
def JoinOnceWrongFalsely : Prop := joinOnceRow.holds Tryd.pinned (OpenSpec.ofChange joinOnceWrong)

/-- 'flagstonelaw35.JoinSamples': WHATEVER THE INPUT: true; the input reads as it did. -/
def joinSamplesSpec : ChangeSpec := { name := "joinSamples", fn := fun _ => fun
  | [d1, d2, d3, d4, d5] => { results := [.lit (.bool true)], args := [d1, d2, d3, d4, d5] }
  | _ => none }
def joinSamplesRow : OpenClaim := { program := "ytmnjmdajgilhiaadoor", sum := "ac4ba0e7cbbd89bce678ca4e8218662e020b520c7f009810965d6a5705603606", func := "flagstone/flagstonelaw35.JoinSamples", spec := "joinSamples", unfollowed := true, recurses := true, named := ["strings.asciiSpace", "unicode.White_Space"], apart := false, laid := [("unicode.White_Space", laid_unicode_White_Space), ("strings.asciiSpace", laid_strings_asciiSpace)] }
def JoinSamplesSaid : Prop := joinSamplesRow.holds Tryd.pinned (OpenSpec.ofChange joinSamplesSpec)

/-- ITS FALSE NEIGHBOUR: 'it returns false'. Refute it at one input. -/
def joinSamplesWrong : ChangeSpec := { name := "joinSamples", fn := fun _ => fun
  | [d1, d2, d3, d4, d5] => { results := [.lit (.bool false)], args := [d1, d2, d3, d4, d5] }
  | _ => none }
def JoinSamplesWrongFalsely : Prop := joinSamplesRow.holds Tryd.pinned (OpenSpec.ofChange joinSamplesWrong)

/-- 'flagstonelaw35.JoinTallies': WHATEVER THE INPUT: true; the input reads as it did. -/
def joinTalliesSpec : ChangeSpec := { name := "joinTallies", fn := fun _ => fun
  | [d1, d2] => { results := [.lit (.bool true)], args := [d1, d2] }
  | _ => none }
def joinTalliesRow : OpenClaim := { program := "ytmnjmdajgilhiaadoor", sum := "ac4ba0e7cbbd89bce678ca4e8218662e020b520c7f009810965d6a5705603606", func := "flagstone/flagstonelaw35.JoinTallies", spec := "joinTallies", unfollowed := true, recurses := true, named := ["strings.asciiSpace", "unicode.White_Space"], apart := false, laid := [("unicode.White_Space", laid_unicode_White_Space), ("strings.asciiSpace", laid_strings_asciiSpace)] }
def JoinTalliesSaid : Prop := joinTalliesRow.holds Tryd.pinned (OpenSpec.ofChange joinTalliesSpec)

/-- ITS FALSE NEIGHBOUR: 'it returns false'. Refute it at one input. -/
def joinTalliesWrong : ChangeSpec := { name := "joinTallies", fn := fun _ => fun
  | [d1, d2] => { results := [.lit (.bool false)], args := [d1, d2] }
  | _ => none }
def JoinTalliesWrongFalsely : Prop := joinTalliesRow.holds Tryd.pinned (OpenSpec.ofChange joinTalliesWrong)

/- THE SECOND FORM. 'bulk': how many values and letters a reading holds, each counted each time it is reached (what is shared counts as often as it is met; a slice's spare places count too). A statement '..UptoSaid' is the law's where the arguments, and the package variables that the reading takes, are together of bulk at most 1048576: NARROWER than '..Said'. Prove '..Said' where nothing that the law and all that it calls make is longer than what came in: it says more and counts as full. Else prove '..UptoSaid'. A law counts once. -/
mutual
def uptoBulk {H : Type} : DataW H → Nat
  | .lit (.string bytes) => bytes.length + 1
  | .lit _ => 1
  | .nil => 1
  | .ptr d => uptoBulk d + 1
  | .slice elems spare => uptoBulkAll elems + uptoBulkAll spare + 1
  | .agg parts => uptoBulkAll parts + 1
  | .iface _ d => uptoBulk d + 1
  | .map entries => uptoBulkEntries entries + 1
  | .held _ => 1
def uptoBulkAll {H : Type} : List (DataW H) → Nat
  | [] => 0
  | d :: r => uptoBulk d + uptoBulkAll r
def uptoBulkEntries {H : Type} : List (Lit × DataW H) → Nat
  | [] => 0
  | x :: r => uptoBulkEntry x + uptoBulkEntries r
def uptoBulkEntry {H : Type} : Lit × DataW H → Nat
  | (.string bytes, d) => bytes.length + uptoBulk d + 1
  | (_, d) => uptoBulk d + 1
 end
def uptoSmall : (H : Type) → List (DataW H) → Bool := fun _ ds => decide (uptoBulkAll ds ≤ 1048576)
def OpenSpec.upto (s : _root_.Go.ChangeSpec) : _root_.Go.OpenSpec := { _root_.Go.OpenSpec.ofChange s with cond := some uptoSmall }

/-- 'flagstonelaw35.JoinFinal', WHERE WHAT IT READS IS OF BULK AT MOST 1048576: true; the input reads as it did. -/
def joinFinalUptoRow : OpenClaim := { program := "ytmnjmdajgilhiaadoor", sum := "ac4ba0e7cbbd89bce678ca4e8218662e020b520c7f009810965d6a5705603606", func := "flagstone/flagstonelaw35.JoinFinal", spec := "joinFinal", unfollowed := true, recurses := true, named := ["strings.asciiSpace", "unicode.White_Space"], apart := false, laid := [("unicode.White_Space", laid_unicode_White_Space), ("strings.asciiSpace", laid_strings_asciiSpace)], narrowed := true }
def JoinFinalUptoSaid : Prop := joinFinalUptoRow.holds Tryd.pinned (OpenSpec.upto joinFinalSpec)

/-- 'flagstonelaw35.JoinShares', WHERE WHAT IT READS IS OF BULK AT MOST 1048576: true; the input reads as it did. -/
def joinSharesUptoRow : OpenClaim := { program := "ytmnjmdajgilhiaadoor", sum := "ac4ba0e7cbbd89bce678ca4e8218662e020b520c7f009810965d6a5705603606", func := "flagstone/flagstonelaw35.JoinShares", spec := "joinShares", unfollowed := true, recurses := true, named := ["strings.asciiSpace", "unicode.White_Space"], apart := false, laid := [("unicode.White_Space", laid_unicode_White_Space), ("strings.asciiSpace", laid_strings_asciiSpace)], narrowed := true }
def JoinSharesUptoSaid : Prop := joinSharesUptoRow.holds Tryd.pinned (OpenSpec.upto joinSharesSpec)

/-- 'flagstonelaw35.JoinPlain', WHERE WHAT IT READS IS OF BULK AT MOST 1048576: true; the input reads as it did. -/
def joinPlainUptoRow : OpenClaim := { program := "ytmnjmdajgilhiaadoor", sum := "ac4ba0e7cbbd89bce678ca4e8218662e020b520c7f009810965d6a5705603606", func := "flagstone/flagstonelaw35.JoinPlain", spec := "joinPlain", unfollowed := true, recurses := true, named := ["strings.asciiSpace", "unicode.White_Space"], apart := false, laid := [("unicode.White_Space", laid_unicode_White_Space), ("strings.asciiSpace", laid_strings_asciiSpace)], narrowed := true }
def JoinPlainUptoSaid : Prop := joinPlainUptoRow.holds Tryd.pinned (OpenSpec.upto joinPlainSpec)

/-- 'flagstonelaw35.JoinTells', WHERE WHAT IT READS IS OF BULK AT MOST 1048576: true; the input reads as it did. -/
def joinTellsUptoRow : OpenClaim := { program := "ytmnjmdajgilhiaadoor", sum := "ac4ba0e7cbbd89bce678ca4e8218662e020b520c7f009810965d6a5705603606", func := "flagstone/flagstonelaw35.JoinTells", spec := "joinTells", unfollowed := true, recurses := true, named := ["strings.asciiSpace", "unicode.White_Space"], apart := false, laid := [("unicode.White_Space", laid_unicode_White_Space), ("strings.asciiSpace", laid_strings_asciiSpace)], narrowed := true }
def JoinTellsUptoSaid : Prop := joinTellsUptoRow.holds Tryd.pinned (OpenSpec.upto joinTellsSpec)

/-- 'flagstonelaw35.JoinOnce', WHERE WHAT IT READS IS OF BULK AT MOST 1048576: true; the input reads as it did. -/
def joinOnceUptoRow : OpenClaim := { program := "ytmnjmdajgilhiaadoor", sum := "ac4ba0e7cbbd89bce678ca4e8218662e020b520c7f009810965d6a5705603606", func := "flagstone/flagstonelaw35.JoinOnce", spec := "joinOnce", unfollowed := true, recurses := true, named := ["strings.asciiSpace", "unicode.White_Space"], apart := false, laid := [("unicode.White_Space", laid_unicode_White_Space), ("strings.asciiSpace", laid_strings_asciiSpace)], narrowed := true }
def JoinOnceUptoSaid : Prop := joinOnceUptoRow.holds Tryd.pinned (OpenSpec.upto joinOnceSpec)

/-- 'flagstonelaw35.JoinSamples', WHERE WHAT IT READS IS OF BULK AT MOST 1048576: true; the input reads as it did. -/
def joinSamplesUptoRow : OpenClaim := { program := "ytmnjmdajgilhiaadoor", sum := "ac4ba0e7cbbd89bce678ca4e8218662e020b520c7f009810965d6a5705603606", func := "flagstone/flagstonelaw35.JoinSamples", spec := "joinSamples", unfollowed := true, recurses := true, named := ["strings.asciiSpace", "unicode.White_Space"], apart := false, laid := [("unicode.White_Space", laid_unicode_White_Space), ("strings.asciiSpace", laid_strings_asciiSpace)], narrowed := true }
def JoinSamplesUptoSaid : Prop := joinSamplesUptoRow.holds Tryd.pinned (OpenSpec.upto joinSamplesSpec)

/-- 'flagstonelaw35.JoinTallies', WHERE WHAT IT READS IS OF BULK AT MOST 1048576: true; the input reads as it did. -/
def joinTalliesUptoRow : OpenClaim := { program := "ytmnjmdajgilhiaadoor", sum := "ac4ba0e7cbbd89bce678ca4e8218662e020b520c7f009810965d6a5705603606", func := "flagstone/flagstonelaw35.JoinTallies", spec := "joinTallies", unfollowed := true, recurses := true, named := ["strings.asciiSpace", "unicode.White_Space"], apart := false, laid := [("unicode.White_Space", laid_unicode_White_Space), ("strings.asciiSpace", laid_strings_asciiSpace)], narrowed := true }
def JoinTalliesUptoSaid : Prop := joinTalliesUptoRow.holds Tryd.pinned (OpenSpec.upto joinTalliesSpec)

end Rows
end Go.Proofs.YtmnjmdajgilhiaaDoor

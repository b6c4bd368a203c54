/-
  NARROWER THAN 'FOR EVERY INPUT', by the rows' own cells (each row's printed sentence says how): BucketReweighs: laid · BucketPicks: laid · BucketDistance: laid · BucketWeights: laid · BucketLeast: laid · BucketHashes: laid · BucketSubjects: laid.
  DERIVED. THE GIVEN ROWS OF THIS SEAT. 7 by the template 'for every input the law returns true; each argument reads behind the call as it read before'; 0 by the template 'total and deterministic' (their statements: YthnncehddnfjmaaDoorTotals.lean).
  GIVEN WITH THE SEED: the statements are not yours to turn. If you find one false, say at which input.
  Laid BY PROGRAM, IN A SANDBOX (cutbox-rows.mjs): the forced cells as the released guide's own fill.sh prints them over the translation 3b2ef2e9e993a5ff… (all of the seat's roots in one cut). By AI agents, Wed Nov 11 2026. No macro, syntax, notation, axiom, sorry.
-/
import Derived.Test.YthnncehddnfjmaaDoorChecked
import GoSem.Claim
import GoSem.ClaimJoined
import GoSem.ClaimMapViews
import Derived.JoinedTies
import Derived.KernelRfl
namespace Go.Proofs.YthnncehddnfjmaaDoor
/- THE CELL 'sum', in the pinned program and in every row, IS THE sha256 OF THE DUMP (.gsa) THAT YthnncehddnfjmaaDoorProg.lean LOADS. Nothing in Lean hashes anything: it is a label: what it is worth is what the hold of that sum in a sandbox is worth. -/
noncomputable def Tryd.pinned : Pinned := { name := "ythnncehddnfjmaadoor", sum := "3b2ef2e9e993a5ff8ba0ed75825e65275841615618d347e4cf3fca6f9fa36fbc", checked := Tryd.checked }
namespace Rows
def none {H : Type} : Left H := { results := [], args := [] }

/- WHAT THE LISTED PACKAGE-LEVEL VARIABLES READ AS WHEN THE CALL BEGINS. Each datum BY PROGRAM (the guide's laid-datum.mjs) off the statement by which the dump's own 'gosem.cut.vars' lays the variable. In a bare row this is a premise. The card (YthnncehddnfjmaaDoorCards.lean) ties it to the program's text. -/
def laid_flagstone_flagstonelaw13_halves {H : Type} : DataW H := .slice [.agg [.lit (.int .i64 0), .lit (.int .i64 5000), .lit (.int .i64 1)], .agg [.lit (.int .i64 5000), .lit (.int .i64 10000), .lit (.int .i64 2)]] []
def laid_math_bits_deBruijn32tab {H : Type} : DataW H := .agg [.lit (.int .u8 0), .lit (.int .u8 1), .lit (.int .u8 28), .lit (.int .u8 2), .lit (.int .u8 29), .lit (.int .u8 14), .lit (.int .u8 24), .lit (.int .u8 3), .lit (.int .u8 30), .lit (.int .u8 22), .lit (.int .u8 20), .lit (.int .u8 15), .lit (.int .u8 25), .lit (.int .u8 17), .lit (.int .u8 4), .lit (.int .u8 8), .lit (.int .u8 31), .lit (.int .u8 27), .lit (.int .u8 13), .lit (.int .u8 23), .lit (.int .u8 21), .lit (.int .u8 19), .lit (.int .u8 16), .lit (.int .u8 7), .lit (.int .u8 26), .lit (.int .u8 12), .lit (.int .u8 18), .lit (.int .u8 6), .lit (.int .u8 11), .lit (.int .u8 5), .lit (.int .u8 10), .lit (.int .u8 9)]
def laid_math_bits_deBruijn64tab {H : Type} : DataW H := .agg [.lit (.int .u8 0), .lit (.int .u8 1), .lit (.int .u8 56), .lit (.int .u8 2), .lit (.int .u8 57), .lit (.int .u8 49), .lit (.int .u8 28), .lit (.int .u8 3), .lit (.int .u8 61), .lit (.int .u8 58), .lit (.int .u8 42), .lit (.int .u8 50), .lit (.int .u8 38), .lit (.int .u8 29), .lit (.int .u8 17), .lit (.int .u8 4), .lit (.int .u8 62), .lit (.int .u8 47), .lit (.int .u8 59), .lit (.int .u8 36), .lit (.int .u8 45), .lit (.int .u8 43), .lit (.int .u8 51), .lit (.int .u8 22), .lit (.int .u8 53), .lit (.int .u8 39), .lit (.int .u8 33), .lit (.int .u8 30), .lit (.int .u8 24), .lit (.int .u8 18), .lit (.int .u8 12), .lit (.int .u8 5), .lit (.int .u8 63), .lit (.int .u8 55), .lit (.int .u8 48), .lit (.int .u8 27), .lit (.int .u8 60), .lit (.int .u8 41), .lit (.int .u8 37), .lit (.int .u8 16), .lit (.int .u8 46), .lit (.int .u8 35), .lit (.int .u8 44), .lit (.int .u8 21), .lit (.int .u8 52), .lit (.int .u8 32), .lit (.int .u8 23), .lit (.int .u8 11), .lit (.int .u8 54), .lit (.int .u8 26), .lit (.int .u8 40), .lit (.int .u8 15), .lit (.int .u8 34), .lit (.int .u8 20), .lit (.int .u8 31), .lit (.int .u8 10), .lit (.int .u8 25), .lit (.int .u8 14), .lit (.int .u8 19), .lit (.int .u8 9), .lit (.int .u8 13), .lit (.int .u8 8), .lit (.int .u8 7), .lit (.int .u8 6)]
def laid_internal_strconv_uint64pow10 {H : Type} : DataW H := .agg [.lit (.int .u64 1), .lit (.int .u64 10), .lit (.int .u64 100), .lit (.int .u64 1000), .lit (.int .u64 10000), .lit (.int .u64 100000), .lit (.int .u64 1000000), .lit (.int .u64 10000000), .lit (.int .u64 100000000), .lit (.int .u64 1000000000), .lit (.int .u64 10000000000), .lit (.int .u64 100000000000), .lit (.int .u64 1000000000000), .lit (.int .u64 10000000000000), .lit (.int .u64 100000000000000), .lit (.int .u64 1000000000000000), .lit (.int .u64 10000000000000000), .lit (.int .u64 100000000000000000), .lit (.int .u64 1000000000000000000), .lit (.int .u64 10000000000000000000)]
def laid_flagstone_flagstonedraw_texts {H : Type} : DataW H := .agg [.lit (.string [115, 101]), .lit (.string [100, 101]), .lit (.string [117, 115]), .lit (.string [112, 114, 111]), .lit (.string [102, 114, 101, 101]), .lit (.string []), .lit (.string [97, 34, 98]), .lit (.string [99, 92]), .lit (.string [195, 169]), .lit (.string [112, 114, 111, 115, 101]), .lit (.string [120, 32, 121])]
def laid_flagstone_flagstonedraw_versions {H : Type} : DataW H := .agg [.lit (.string [49, 46, 48, 46, 48]), .lit (.string [49, 46, 50, 46, 51]), .lit (.string [49, 46, 49, 48, 46, 48]), .lit (.string [50, 46, 48, 46, 49]), .lit (.string [48, 46, 48, 46, 48]), .lit (.string [57, 57, 57, 57, 57, 57, 46, 48, 46, 57, 57, 57, 57, 57, 57])]
def laid_flagstone_flagstonedraw_lists {H : Type} : DataW H := .agg [.slice [] [], .slice [.lit (.string [112, 114, 111])] [], .slice [.lit (.string [100, 101]), .lit (.string [115, 101])] [], .slice [.lit (.string []), .lit (.string [102, 114, 101, 101]), .lit (.string [117, 115])] [], .slice [.lit (.string [120, 32, 121])] []]

/-- 'flagstonelaw13.BucketReweighs': WHATEVER THE INPUT: true; the input reads as it did. -/
def bucketReweighsSpec : ChangeSpec := { name := "bucketReweighs", fn := fun _ => fun
  | [d1, d2, d3] => { results := [.lit (.bool true)], args := [d1, d2, d3] }
  | _ => none }
def bucketReweighsRow : OpenClaim := { program := "ythnncehddnfjmaadoor", sum := "3b2ef2e9e993a5ff8ba0ed75825e65275841615618d347e4cf3fca6f9fa36fbc", func := "flagstone/flagstonelaw13.BucketReweighs", spec := "bucketReweighs", unfollowed := true, recurses := true, named := ["flagstone/flagstonelaw13.halves"], apart := false, laid := [("flagstone/flagstonelaw13.halves", laid_flagstone_flagstonelaw13_halves)] }
def BucketReweighsSaid : Prop := bucketReweighsRow.holds Tryd.pinned (OpenSpec.ofChange bucketReweighsSpec)

/-- ITS FALSE NEIGHBOUR: 'it returns false'. Refute it at one input. -/
def bucketReweighsWrong : ChangeSpec := { name := "bucketReweighs", fn := fun _ => fun
  | [d1, d2, d3] => { results := [.lit (.bool false)], args := [d1, d2, d3] }
  | _ => none }
def BucketReweighsWrongFalsely : Prop := bucketReweighsRow.holds Tryd.pinned (OpenSpec.ofChange bucketReweighsWrong)

/-- 'flagstonelaw13.BucketPicks': WHATEVER THE INPUT: true; the input reads as it did. -/
def bucketPicksSpec : ChangeSpec := { name := "bucketPicks", fn := fun _ => fun
  | [d1, d2, d3, d4] => { results := [.lit (.bool true)], args := [d1, d2, d3, d4] }
  | _ => none }
def bucketPicksRow : OpenClaim := { program := "ythnncehddnfjmaadoor", sum := "3b2ef2e9e993a5ff8ba0ed75825e65275841615618d347e4cf3fca6f9fa36fbc", func := "flagstone/flagstonelaw13.BucketPicks", spec := "bucketPicks", unfollowed := true, recurses := true, named := ["flagstone/flagstonelaw13.halves"], apart := false, laid := [("flagstone/flagstonelaw13.halves", laid_flagstone_flagstonelaw13_halves)] }
def BucketPicksSaid : Prop := bucketPicksRow.holds Tryd.pinned (OpenSpec.ofChange bucketPicksSpec)

/-- ITS FALSE NEIGHBOUR: 'it returns false'. Refute it at one input. -/
def bucketPicksWrong : ChangeSpec := { name := "bucketPicks", fn := fun _ => fun
  | [d1, d2, d3, d4] => { results := [.lit (.bool false)], args := [d1, d2, d3, d4] }
  | _ => none }
def BucketPicksWrongFalsely : Prop := bucketPicksRow.holds Tryd.pinned (OpenSpec.ofChange bucketPicksWrong)

/-- 'flagstonelaw13.BucketDistance': WHATEVER THE INPUT: true; the input reads as it did. -/
def bucketDistanceSpec : ChangeSpec := { name := "bucketDistance", fn := fun _ => fun
  | [d1, d2, d3, d4] => { results := [.lit (.bool true)], args := [d1, d2, d3, d4] }
  | _ => none }
def bucketDistanceRow : OpenClaim := { program := "ythnncehddnfjmaadoor", sum := "3b2ef2e9e993a5ff8ba0ed75825e65275841615618d347e4cf3fca6f9fa36fbc", func := "flagstone/flagstonelaw13.BucketDistance", spec := "bucketDistance", unfollowed := true, recurses := true, named := ["flagstone/flagstonelaw13.halves"], apart := false, laid := [("flagstone/flagstonelaw13.halves", laid_flagstone_flagstonelaw13_halves)] }
def BucketDistanceSaid : Prop := bucketDistanceRow.holds Tryd.pinned (OpenSpec.ofChange bucketDistanceSpec)

/-- ITS FALSE NEIGHBOUR: 'it returns false'. Refute it at one input. -/
def bucketDistanceWrong : ChangeSpec := { name := "bucketDistance", fn := fun _ => fun
  | [d1, d2, d3, d4] => { results := [.lit (.bool false)], args := [d1, d2, d3, d4] }
  | _ => none }
def BucketDistanceWrongFalsely : Prop := bucketDistanceRow.holds Tryd.pinned (OpenSpec.ofChange bucketDistanceWrong)

/-- 'flagstonelaw13.BucketWeights': WHATEVER THE INPUT: true; the input reads as it did. -/
def bucketWeightsSpec : ChangeSpec := { name := "bucketWeights", fn := fun _ => fun
  | [d1, d2] => { results := [.lit (.bool true)], args := [d1, d2] }
  | _ => none }
def bucketWeightsRow : OpenClaim := { program := "ythnncehddnfjmaadoor", sum := "3b2ef2e9e993a5ff8ba0ed75825e65275841615618d347e4cf3fca6f9fa36fbc", func := "flagstone/flagstonelaw13.BucketWeights", spec := "bucketWeights", unfollowed := true, recurses := true, named := ["flagstone/flagstonelaw13.halves"], apart := false, laid := [("flagstone/flagstonelaw13.halves", laid_flagstone_flagstonelaw13_halves)] }
def BucketWeightsSaid : Prop := bucketWeightsRow.holds Tryd.pinned (OpenSpec.ofChange bucketWeightsSpec)

/-- ITS FALSE NEIGHBOUR: 'it returns false'. Refute it at one input. -/
def bucketWeightsWrong : ChangeSpec := { name := "bucketWeights", fn := fun _ => fun
  | [d1, d2] => { results := [.lit (.bool false)], args := [d1, d2] }
  | _ => none }
def BucketWeightsWrongFalsely : Prop := bucketWeightsRow.holds Tryd.pinned (OpenSpec.ofChange bucketWeightsWrong)

/-- 'flagstonelaw13.BucketLeast': WHATEVER THE INPUT: true; the input reads as it did. -/
def bucketLeastSpec : ChangeSpec := { name := "bucketLeast", fn := fun _ => fun
  | [d1, d2] => { results := [.lit (.bool true)], args := [d1, d2] }
  | _ => none }
def bucketLeastRow : OpenClaim := { program := "ythnncehddnfjmaadoor", sum := "3b2ef2e9e993a5ff8ba0ed75825e65275841615618d347e4cf3fca6f9fa36fbc", func := "flagstone/flagstonelaw13.BucketLeast", spec := "bucketLeast", unfollowed := true, recurses := true, named := ["flagstone/flagstonelaw13.halves"], apart := false, laid := [("flagstone/flagstonelaw13.halves", laid_flagstone_flagstonelaw13_halves)] }
def BucketLeastSaid : Prop := bucketLeastRow.holds Tryd.pinned (OpenSpec.ofChange bucketLeastSpec)

/-- ITS FALSE NEIGHBOUR: 'it returns false'. Refute it at one input. -/
def bucketLeastWrong : ChangeSpec := { name := "bucketLeast", fn := fun _ => fun
  | [d1, d2] => { results := [.lit (.bool false)], args := [d1, d2] }
  | _ => none }
def BucketLeastWrongFalsely : Prop := bucketLeastRow.holds Tryd.pinned (OpenSpec.ofChange bucketLeastWrong)

/-- 'flagstonelaw13.BucketHashes': WHATEVER THE INPUT: true; the input reads as it did. -/
def bucketHashesSpec : ChangeSpec := { name := "bucketHashes", fn := fun _ => fun
  | [d1, d2, d3, d4] => { results := [.lit (.bool true)], args := [d1, d2, d3, d4] }
  | _ => none }
def bucketHashesRow : OpenClaim := { program := "ythnncehddnfjmaadoor", sum := "3b2ef2e9e993a5ff8ba0ed75825e65275841615618d347e4cf3fca6f9fa36fbc", func := "flagstone/flagstonelaw13.BucketHashes", spec := "bucketHashes", unfollowed := true, recurses := true, named := ["flagstone/flagstonelaw13.halves", "flagstone/flagstonedraw.versions", "flagstone/flagstonedraw.lists", "flagstone/flagstonedraw.texts", "internal/strconv.uint64pow10", "math/bits.deBruijn32tab", "math/bits.deBruijn64tab"], apart := false, laid := [("math/bits.deBruijn32tab", laid_math_bits_deBruijn32tab), ("math/bits.deBruijn64tab", laid_math_bits_deBruijn64tab), ("internal/strconv.uint64pow10", laid_internal_strconv_uint64pow10), ("flagstone/flagstonedraw.texts", laid_flagstone_flagstonedraw_texts), ("flagstone/flagstonedraw.versions", laid_flagstone_flagstonedraw_versions), ("flagstone/flagstonedraw.lists", laid_flagstone_flagstonedraw_lists), ("flagstone/flagstonelaw13.halves", laid_flagstone_flagstonelaw13_halves)] }
def BucketHashesSaid : Prop := bucketHashesRow.holds Tryd.pinned (OpenSpec.ofChange bucketHashesSpec)

/-- ITS FALSE NEIGHBOUR: 'it returns false'. Refute it at one input. -/
def bucketHashesWrong : ChangeSpec := { name := "bucketHashes", fn := fun _ => fun
  | [d1, d2, d3, d4] => { results := [.lit (.bool false)], args := [d1, d2, d3, d4] }
  | _ => none }
def BucketHashesWrongFalsely : Prop := bucketHashesRow.holds Tryd.pinned (OpenSpec.ofChange bucketHashesWrong)

/-- 'flagstonelaw13.BucketSubjects': WHATEVER THE INPUT: true; the input reads as it did. -/
def bucketSubjectsSpec : ChangeSpec := { name := "bucketSubjects", fn := fun _ => fun
  | [d1, d2, d3, d4, d5] => { results := [.lit (.bool true)], args := [d1, d2, d3, d4, d5] }
  | _ => none }
def bucketSubjectsRow : OpenClaim := { program := "ythnncehddnfjmaadoor", sum := "3b2ef2e9e993a5ff8ba0ed75825e65275841615618d347e4cf3fca6f9fa36fbc", func := "flagstone/flagstonelaw13.BucketSubjects", spec := "bucketSubjects", unfollowed := true, recurses := true, named := ["flagstone/flagstonelaw13.halves", "flagstone/flagstonedraw.versions", "flagstone/flagstonedraw.lists", "flagstone/flagstonedraw.texts", "internal/strconv.uint64pow10", "math/bits.deBruijn32tab", "math/bits.deBruijn64tab"], apart := false, laid := [("math/bits.deBruijn32tab", laid_math_bits_deBruijn32tab), ("math/bits.deBruijn64tab", laid_math_bits_deBruijn64tab), ("internal/strconv.uint64pow10", laid_internal_strconv_uint64pow10), ("flagstone/flagstonedraw.texts", laid_flagstone_flagstonedraw_texts), ("flagstone/flagstonedraw.versions", laid_flagstone_flagstonedraw_versions), ("flagstone/flagstonedraw.lists", laid_flagstone_flagstonedraw_lists), ("flagstone/flagstonelaw13.halves", laid_flagstone_flagstonelaw13_halves)] }
def BucketSubjectsSaid : Prop := bucketSubjectsRow.holds Tryd.pinned (OpenSpec.ofChange bucketSubjectsSpec)

/-- ITS FALSE NEIGHBOUR: 'it returns false'. Refute it at one input. -/
def bucketSubjectsWrong : ChangeSpec := { name := "bucketSubjects", fn := fun _ => fun
  | [d1, d2, d3, d4, d5] => { results := [.lit (.bool false)], args := [d1, d2, d3, d4, d5] }
  | _ => none }
def BucketSubjectsWrongFalsely : Prop := bucketSubjectsRow.holds Tryd.pinned (OpenSpec.ofChange bucketSubjectsWrong)

/- THE SECOND FORM. 'bulk': how many values and letters a reading holds, each counted each time it is reached (what is shared counts as often as it is met; a slice's spare places count too). A statement '..UptoSaid' is the law's where the arguments, and the package variables that the reading takes, are together of bulk at most 1048576: NARROWER than '..Said'. Prove '..Said' where nothing that the law and all that it calls make is longer than what came in: it says more and counts as full. Else prove '..UptoSaid'. A law counts once. -/
mutual
def uptoBulk {H : Type} : DataW H → Nat
  | .lit (.string bytes) => bytes.length + 1
  | .lit _ => 1
  | .nil => 1
  | .ptr d => uptoBulk d + 1
  | .slice elems spare => uptoBulkAll elems + uptoBulkAll spare + 1
  | .agg parts => uptoBulkAll parts + 1
  | .iface _ d => uptoBulk d + 1
  | .map entries => uptoBulkEntries entries + 1
  | .held _ => 1
def uptoBulkAll {H : Type} : List (DataW H) → Nat
  | [] => 0
  | d :: r => uptoBulk d + uptoBulkAll r
def uptoBulkEntries {H : Type} : List (Lit × DataW H) → Nat
  | [] => 0
  | x :: r => uptoBulkEntry x + uptoBulkEntries r
def uptoBulkEntry {H : Type} : Lit × DataW H → Nat
  | (.string bytes, d) => bytes.length + uptoBulk d + 1
  | (_, d) => uptoBulk d + 1
 end
def uptoSmall : (H : Type) → List (DataW H) → Bool := fun _ ds => decide (uptoBulkAll ds ≤ 1048576)
def OpenSpec.upto (s : _root_.Go.ChangeSpec) : _root_.Go.OpenSpec := { _root_.Go.OpenSpec.ofChange s with cond := some uptoSmall }

/-- 'flagstonelaw13.BucketReweighs', WHERE WHAT IT READS IS OF BULK AT MOST 1048576: true; the input reads as it did. -/
def bucketReweighsUptoRow : OpenClaim := { program := "ythnncehddnfjmaadoor", sum := "3b2ef2e9e993a5ff8ba0ed75825e65275841615618d347e4cf3fca6f9fa36fbc", func := "flagstone/flagstonelaw13.BucketReweighs", spec := "bucketReweighs", unfollowed := true, recurses := true, named := ["flagstone/flagstonelaw13.halves"], apart := false, laid := [("flagstone/flagstonelaw13.halves", laid_flagstone_flagstonelaw13_halves)], narrowed := true }
def BucketReweighsUptoSaid : Prop := bucketReweighsUptoRow.holds Tryd.pinned (OpenSpec.upto bucketReweighsSpec)

/-- 'flagstonelaw13.BucketPicks', WHERE WHAT IT READS IS OF BULK AT MOST 1048576: true; the input reads as it did. -/
def bucketPicksUptoRow : OpenClaim := { program := "ythnncehddnfjmaadoor", sum := "3b2ef2e9e993a5ff8ba0ed75825e65275841615618d347e4cf3fca6f9fa36fbc", func := "flagstone/flagstonelaw13.BucketPicks", spec := "bucketPicks", unfollowed := true, recurses := true, named := ["flagstone/flagstonelaw13.halves"], apart := false, laid := [("flagstone/flagstonelaw13.halves", laid_flagstone_flagstonelaw13_halves)], narrowed := true }
def BucketPicksUptoSaid : Prop := bucketPicksUptoRow.holds Tryd.pinned (OpenSpec.upto bucketPicksSpec)

/-- 'flagstonelaw13.BucketDistance', WHERE WHAT IT READS IS OF BULK AT MOST 1048576: true; the input reads as it did. -/
def bucketDistanceUptoRow : OpenClaim := { program := "ythnncehddnfjmaadoor", sum := "3b2ef2e9e993a5ff8ba0ed75825e65275841615618d347e4cf3fca6f9fa36fbc", func := "flagstone/flagstonelaw13.BucketDistance", spec := "bucketDistance", unfollowed := true, recurses := true, named := ["flagstone/flagstonelaw13.halves"], apart := false, laid := [("flagstone/flagstonelaw13.halves", laid_flagstone_flagstonelaw13_halves)], narrowed := true }
def BucketDistanceUptoSaid : Prop := bucketDistanceUptoRow.holds Tryd.pinned (OpenSpec.upto bucketDistanceSpec)

/-- 'flagstonelaw13.BucketWeights', WHERE WHAT IT READS IS OF BULK AT MOST 1048576: true; the input reads as it did. -/
def bucketWeightsUptoRow : OpenClaim := { program := "ythnncehddnfjmaadoor", sum := "3b2ef2e9e993a5ff8ba0ed75825e65275841615618d347e4cf3fca6f9fa36fbc", func := "flagstone/flagstonelaw13.BucketWeights", spec := "bucketWeights", unfollowed := true, recurses := true, named := ["flagstone/flagstonelaw13.halves"], apart := false, laid := [("flagstone/flagstonelaw13.halves", laid_flagstone_flagstonelaw13_halves)], narrowed := true }
def BucketWeightsUptoSaid : Prop := bucketWeightsUptoRow.holds Tryd.pinned (OpenSpec.upto bucketWeightsSpec)

/-- 'flagstonelaw13.BucketLeast', WHERE WHAT IT READS IS OF BULK AT MOST 1048576: true; the input reads as it did. -/
def bucketLeastUptoRow : OpenClaim := { program := "ythnncehddnfjmaadoor", sum := "3b2ef2e9e993a5ff8ba0ed75825e65275841615618d347e4cf3fca6f9fa36fbc", func := "flagstone/flagstonelaw13.BucketLeast", spec := "bucketLeast", unfollowed := true, recurses := true, named := ["flagstone/flagstonelaw13.halves"], apart := false, laid := [("flagstone/flagstonelaw13.halves", laid_flagstone_flagstonelaw13_halves)], narrowed := true }
def BucketLeastUptoSaid : Prop := bucketLeastUptoRow.holds Tryd.pinned (OpenSpec.upto bucketLeastSpec)

/-- 'flagstonelaw13.BucketHashes', WHERE WHAT IT READS IS OF BULK AT MOST 1048576: true; the input reads as it did. -/
def bucketHashesUptoRow : OpenClaim := { program := "ythnncehddnfjmaadoor", sum := "3b2ef2e9e993a5ff8ba0ed75825e65275841615618d347e4cf3fca6f9fa36fbc", func := "flagstone/flagstonelaw13.BucketHashes", spec := "bucketHashes", unfollowed := true, recurses := true, named := ["flagstone/flagstonelaw13.halves", "flagstone/flagstonedraw.versions", "flagstone/flagstonedraw.lists", "flagstone/flagstonedraw.texts", "internal/strconv.uint64pow10", "math/bits.deBruijn32tab", "math/bits.deBruijn64tab"], apart := false, laid := [("math/bits.deBruijn32tab", laid_math_bits_deBruijn32tab), ("math/bits.deBruijn64tab", laid_math_bits_deBruijn64tab), ("internal/strconv.uint64pow10", laid_internal_strconv_uint64pow10), ("flagstone/flagstonedraw.texts", laid_flagstone_flagstonedraw_texts), ("flagstone/flagstonedraw.versions", laid_flagstone_flagstonedraw_versions), ("flagstone/flagstonedraw.lists", laid_flagstone_flagstonedraw_lists), ("flagstone/flagstonelaw13.halves", laid_flagstone_flagstonelaw13_halves)], narrowed := true }
def BucketHashesUptoSaid : Prop := bucketHashesUptoRow.holds Tryd.pinned (OpenSpec.upto bucketHashesSpec)

/-- 'flagstonelaw13.BucketSubjects', WHERE WHAT IT READS IS OF BULK AT MOST 1048576: true; the input reads as it did. -/
def bucketSubjectsUptoRow : OpenClaim := { program := "ythnncehddnfjmaadoor", sum := "3b2ef2e9e993a5ff8ba0ed75825e65275841615618d347e4cf3fca6f9fa36fbc", func := "flagstone/flagstonelaw13.BucketSubjects", spec := "bucketSubjects", unfollowed := true, recurses := true, named := ["flagstone/flagstonelaw13.halves", "flagstone/flagstonedraw.versions", "flagstone/flagstonedraw.lists", "flagstone/flagstonedraw.texts", "internal/strconv.uint64pow10", "math/bits.deBruijn32tab", "math/bits.deBruijn64tab"], apart := false, laid := [("math/bits.deBruijn32tab", laid_math_bits_deBruijn32tab), ("math/bits.deBruijn64tab", laid_math_bits_deBruijn64tab), ("internal/strconv.uint64pow10", laid_internal_strconv_uint64pow10), ("flagstone/flagstonedraw.texts", laid_flagstone_flagstonedraw_texts), ("flagstone/flagstonedraw.versions", laid_flagstone_flagstonedraw_versions), ("flagstone/flagstonedraw.lists", laid_flagstone_flagstonedraw_lists), ("flagstone/flagstonelaw13.halves", laid_flagstone_flagstonelaw13_halves)], narrowed := true }
def BucketSubjectsUptoSaid : Prop := bucketSubjectsUptoRow.holds Tryd.pinned (OpenSpec.upto bucketSubjectsSpec)

end Rows
end Go.Proofs.YthnncehddnfjmaaDoor

/-
  No cell of these rows narrows 'for every input' (looked for: loops, veiled, ifaces, maps, wideKeys, modest, calm, conditions, laid).
  DERIVED. THE GIVEN ROWS OF THIS SEAT. 5 by the template 'for every input the law returns true; each argument reads behind the call as it read before'; 0 by the template 'total and deterministic' (their statements: YtaiadjkeeifpgaaTotals.lean).
  GIVEN WITH THE SEED: the statements are not yours to turn. If you find one false, say at which input.
  Laid BY PROGRAM, IN A SANDBOX (cutbox-rows.mjs): the forced cells as the released guide's own fill.sh prints them over the translation 614a8f0caeb639b4… (all of the seat's roots in one cut). By AI agents, Wed Nov 11 2026. No macro, syntax, notation, axiom, sorry.
-/
import Derived.Test.YtaiadjkeeifpgaaChecked
import GoSem.Claim
import GoSem.ClaimJoined
import GoSem.ClaimMapViews
import Derived.JoinedTies
import Derived.KernelRfl
namespace Go.Proofs.Ytaiadjkeeifpgaa
/- THE CELL 'sum', in the pinned program and in every row, IS THE sha256 OF THE DUMP (.gsa) THAT YtaiadjkeeifpgaaProg.lean LOADS. Nothing in Lean hashes anything: it is a label: what it is worth is what the hold of that sum in a sandbox is worth. -/
noncomputable def Try.pinned : Pinned := { name := "ytaiadjkeeifpgaa", sum := "614a8f0caeb639b4db91f93a276422eb955159b9cc2c5211eecebf08d66a1ef0", checked := Try.checked }
namespace Rows
def none {H : Type} : Left H := { results := [], args := [] }

/-- 'flagstonelaw2.DigestSum': WHATEVER THE INPUT: true; the input reads as it did. -/
def digestSumSpec : ChangeSpec := { name := "digestSum", fn := fun _ => fun
  | [d1, d2, d3] => { results := [.lit (.bool true)], args := [d1, d2, d3] }
  | _ => none }
def digestSumRow : OpenClaim := { program := "ytaiadjkeeifpgaa", sum := "614a8f0caeb639b4db91f93a276422eb955159b9cc2c5211eecebf08d66a1ef0", func := "flagstone/flagstonelaw2.DigestSum", spec := "digestSum", apart := false }
def DigestSumSaid : Prop := digestSumRow.holds Try.pinned (OpenSpec.ofChange digestSumSpec)

/-- ITS FALSE NEIGHBOUR: 'it returns false'. Refute it at one input. -/
def digestSumWrong : ChangeSpec := { name := "digestSum", fn := fun _ => fun
  | [d1, d2, d3] => { results := [.lit (.bool false)], args := [d1, d2, d3] }
  | _ => none }
def DigestSumWrongFalsely : Prop := digestSumRow.holds Try.pinned (OpenSpec.ofChange digestSumWrong)

/-- 'flagstonelaw2.DigestFrame': WHATEVER THE INPUT: true; the input reads as it did. -/
def digestFrameSpec : ChangeSpec := { name := "digestFrame", fn := fun _ => fun
  | [d1, d2] => { results := [.lit (.bool true)], args := [d1, d2] }
  | _ => none }
def digestFrameRow : OpenClaim := { program := "ytaiadjkeeifpgaa", sum := "614a8f0caeb639b4db91f93a276422eb955159b9cc2c5211eecebf08d66a1ef0", func := "flagstone/flagstonelaw2.DigestFrame", spec := "digestFrame", apart := false }
def DigestFrameSaid : Prop := digestFrameRow.holds Try.pinned (OpenSpec.ofChange digestFrameSpec)

/-- ITS FALSE NEIGHBOUR: 'it returns false'. Refute it at one input. -/
def digestFrameWrong : ChangeSpec := { name := "digestFrame", fn := fun _ => fun
  | [d1, d2] => { results := [.lit (.bool false)], args := [d1, d2] }
  | _ => none }
def DigestFrameWrongFalsely : Prop := digestFrameRow.holds Try.pinned (OpenSpec.ofChange digestFrameWrong)

/-- 'flagstonelaw2.DigestInjective': WHATEVER THE INPUT: true; the input reads as it did. -/
def digestInjectiveSpec : ChangeSpec := { name := "digestInjective", fn := fun _ => fun
  | [d1, d2, d3, d4] => { results := [.lit (.bool true)], args := [d1, d2, d3, d4] }
  | _ => none }
def digestInjectiveRow : OpenClaim := { program := "ytaiadjkeeifpgaa", sum := "614a8f0caeb639b4db91f93a276422eb955159b9cc2c5211eecebf08d66a1ef0", func := "flagstone/flagstonelaw2.DigestInjective", spec := "digestInjective", apart := false }
def DigestInjectiveSaid : Prop := digestInjectiveRow.holds Try.pinned (OpenSpec.ofChange digestInjectiveSpec)

/-- ITS FALSE NEIGHBOUR: 'it returns false'. Refute it at one input. -/
def digestInjectiveWrong : ChangeSpec := { name := "digestInjective", fn := fun _ => fun
  | [d1, d2, d3, d4] => { results := [.lit (.bool false)], args := [d1, d2, d3, d4] }
  | _ => none }
def DigestInjectiveWrongFalsely : Prop := digestInjectiveRow.holds Try.pinned (OpenSpec.ofChange digestInjectiveWrong)

/-- 'flagstonelaw2.DigestLengths': WHATEVER THE INPUT: true; the input reads as it did. -/
def digestLengthsSpec : ChangeSpec := { name := "digestLengths", fn := fun _ => fun
  | [d1, d2] => { results := [.lit (.bool true)], args := [d1, d2] }
  | _ => none }
def digestLengthsRow : OpenClaim := { program := "ytaiadjkeeifpgaa", sum := "614a8f0caeb639b4db91f93a276422eb955159b9cc2c5211eecebf08d66a1ef0", func := "flagstone/flagstonelaw2.DigestLengths", spec := "digestLengths", apart := false }
def DigestLengthsSaid : Prop := digestLengthsRow.holds Try.pinned (OpenSpec.ofChange digestLengthsSpec)

/-- ITS FALSE NEIGHBOUR: 'it returns false'. Refute it at one input. -/
def digestLengthsWrong : ChangeSpec := { name := "digestLengths", fn := fun _ => fun
  | [d1, d2] => { results := [.lit (.bool false)], args := [d1, d2] }
  | _ => none }
def DigestLengthsWrongFalsely : Prop := digestLengthsRow.holds Try.pinned (OpenSpec.ofChange digestLengthsWrong)

/-- 'flagstonelaw2.DigestHash': WHATEVER THE INPUT: true; the input reads as it did. -/
def digestHashSpec : ChangeSpec := { name := "digestHash", fn := fun _ => fun
  | [d1, d2, d3] => { results := [.lit (.bool true)], args := [d1, d2, d3] }
  | _ => none }
def digestHashRow : OpenClaim := { program := "ytaiadjkeeifpgaa", sum := "614a8f0caeb639b4db91f93a276422eb955159b9cc2c5211eecebf08d66a1ef0", func := "flagstone/flagstonelaw2.DigestHash", spec := "digestHash", apart := false }
def DigestHashSaid : Prop := digestHashRow.holds Try.pinned (OpenSpec.ofChange digestHashSpec)

/-- ITS FALSE NEIGHBOUR: 'it returns false'. Refute it at one input. -/
def digestHashWrong : ChangeSpec := { name := "digestHash", fn := fun _ => fun
  | [d1, d2, d3] => { results := [.lit (.bool false)], args := [d1, d2, d3] }
  | _ => none }
def DigestHashWrongFalsely : Prop := digestHashRow.holds Try.pinned (OpenSpec.ofChange digestHashWrong)

/- THE SECOND FORM. 'bulk': how many values and letters a reading holds, each counted each time it is reached (what is shared counts as often as it is met; a slice's spare places count too). A statement '..UptoSaid' is the law's where the arguments, and the package variables that the reading takes, are together of bulk at most 1048576: NARROWER than '..Said'. Prove '..Said' where nothing that the law and all that it calls make is longer than what came in: it says more and counts as full. Else prove '..UptoSaid'. A law counts once. -/
mutual
def uptoBulk {H : Type} : DataW H → Nat
  | .lit (.string bytes) => bytes.length + 1
  | .lit _ => 1
  | .nil => 1
  | .ptr d => uptoBulk d + 1
  | .slice elems spare => uptoBulkAll elems + uptoBulkAll spare + 1
  | .agg parts => uptoBulkAll parts + 1
  | .iface _ d => uptoBulk d + 1
  | .map entries => uptoBulkEntries entries + 1
  | .held _ => 1
def uptoBulkAll {H : Type} : List (DataW H) → Nat
  | [] => 0
  | d :: r => uptoBulk d + uptoBulkAll r
def uptoBulkEntries {H : Type} : List (Lit × DataW H) → Nat
  | [] => 0
  | x :: r => uptoBulkEntry x + uptoBulkEntries r
def uptoBulkEntry {H : Type} : Lit × DataW H → Nat
  | (.string bytes, d) => bytes.length + uptoBulk d + 1
  | (_, d) => uptoBulk d + 1
 end
def uptoSmall : (H : Type) → List (DataW H) → Bool := fun _ ds => decide (uptoBulkAll ds ≤ 1048576)
def OpenSpec.upto (s : _root_.Go.ChangeSpec) : _root_.Go.OpenSpec := { _root_.Go.OpenSpec.ofChange s with cond := some uptoSmall }

/-- 'flagstonelaw2.DigestSum', WHERE WHAT IT READS IS OF BULK AT MOST 1048576: true; the input reads as it did. -/
def digestSumUptoRow : OpenClaim := { program := "ytaiadjkeeifpgaa", sum := "614a8f0caeb639b4db91f93a276422eb955159b9cc2c5211eecebf08d66a1ef0", func := "flagstone/flagstonelaw2.DigestSum", spec := "digestSum", apart := false, narrowed := true }
def DigestSumUptoSaid : Prop := digestSumUptoRow.holds Try.pinned (OpenSpec.upto digestSumSpec)

/-- 'flagstonelaw2.DigestFrame', WHERE WHAT IT READS IS OF BULK AT MOST 1048576: true; the input reads as it did. -/
def digestFrameUptoRow : OpenClaim := { program := "ytaiadjkeeifpgaa", sum := "614a8f0caeb639b4db91f93a276422eb955159b9cc2c5211eecebf08d66a1ef0", func := "flagstone/flagstonelaw2.DigestFrame", spec := "digestFrame", apart := false, narrowed := true }
def DigestFrameUptoSaid : Prop := digestFrameUptoRow.holds Try.pinned (OpenSpec.upto digestFrameSpec)

/-- 'flagstonelaw2.DigestInjective', WHERE WHAT IT READS IS OF BULK AT MOST 1048576: true; the input reads as it did. -/
def digestInjectiveUptoRow : OpenClaim := { program := "ytaiadjkeeifpgaa", sum := "614a8f0caeb639b4db91f93a276422eb955159b9cc2c5211eecebf08d66a1ef0", func := "flagstone/flagstonelaw2.DigestInjective", spec := "digestInjective", apart := false, narrowed := true }
def DigestInjectiveUptoSaid : Prop := digestInjectiveUptoRow.holds Try.pinned (OpenSpec.upto digestInjectiveSpec)

/-- 'flagstonelaw2.DigestLengths', WHERE WHAT IT READS IS OF BULK AT MOST 1048576: true; the input reads as it did. -/
def digestLengthsUptoRow : OpenClaim := { program := "ytaiadjkeeifpgaa", sum := "614a8f0caeb639b4db91f93a276422eb955159b9cc2c5211eecebf08d66a1ef0", func := "flagstone/flagstonelaw2.DigestLengths", spec := "digestLengths", apart := false, narrowed := true }
def DigestLengthsUptoSaid : Prop := digestLengthsUptoRow.holds Try.pinned (OpenSpec.upto digestLengthsSpec)

/-- 'flagstonelaw2.DigestHash', WHERE WHAT IT READS IS OF BULK AT MOST 1048576: true; the input reads as it did. -/
def digestHashUptoRow : OpenClaim := { program := "ytaiadjkeeifpgaa", sum := "614a8f0caeb639b4db91f93a276422eb955159b9cc2c5211eecebf08d66a1ef0", func := "flagstone/flagstonelaw2.DigestHash", spec := "digestHash", apart := false, narrowed := true }
def DigestHashUptoSaid : Prop := digestHashUptoRow.holds Try.pinned (OpenSpec.upto digestHashSpec)

end Rows
end Go.Proofs.Ytaiadjkeeifpgaa

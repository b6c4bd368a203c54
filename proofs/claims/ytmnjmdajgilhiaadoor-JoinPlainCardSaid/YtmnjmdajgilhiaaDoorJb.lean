/- Plain encodings that the walks of several chapters share. No condition. -/
import Derived.Test.YtmnjmdajgilhiaaDoorAx10
import Derived.Test.YtmnjmdajgilhiaaDoorRg6
import Derived.Test.YtmnjmdajgilhiaaDoorPlans
import Derived.Test.YtmnjmdajgilhiaaDoorProg
set_option linter.unusedVariables false
set_option linter.unusedSimpArgs false
namespace Go.Proofs.YtmnjmdajgilhiaaDoor.Cl
open Go Go.RowKit Go.Proofs Go.Proofs.YtmnjmdajgilhiaaDoor.Vc Go.Proofs.YtmnjmdajgilhiaaDoor.Ax
abbrev By := List UInt8
abbrev Tx := List By
def I64 (n : Int) : Prop := -9223372036854775808 ≤ n ∧ n ≤ 9223372036854775807
theorem i64_nat {n : Nat} (h : n ≤ 9223372036854775807) : I64 (n : Int) := by unfold I64; omega
theorem toNat_ofNat {u : Nat} (h : u < 256) : (UInt8.ofNat u).toNat = u := by
  simp [UInt8.toNat_ofNat', Nat.mod_eq_of_lt h]
abbrev Li := List Int
def AllI (l : Li) : Prop := ∀ x ∈ l, I64 x
theorem mixed : Tryd.prog.follows .mixedOrders = true := by kernel_rfl
def GC : Glob := ⟨0, fun _ => none⟩
abbrev iv (n : Int) : AV := .v (.int .i64 n)
abbrev bv (b : Bool) : AV := .v (.bool b)
abbrev uv (n : Nat) : AV := .v (.int .u64 (n : Int))
def enI (x : Int) : List FV := [.v (.int .i64 x)]
abbrev bs (b : By) : AV := .lst 1 (b.map enB)
abbrev li (l : Li) : AV := .lst 1 (l.map enI)
theorem AAr.to {k : IntKind} {x y : Int} {K : Int → Prop} (h : k.wrap x = y) (c : K y) : AAr k x K := ⟨by rw [h]; exact c⟩
theorem ABy.of {s : By} {K : ByteArray → Prop} (c : K ⟨s.toArray⟩) : ABy (s.map enB) K := ⟨⟨s, rfl, c⟩⟩
abbrev u8v (n : Nat) : AV := .v (.int .u8 (n : Int))
theorem sEq_tx (a b : By) : sEq ⟨a.toArray⟩ ⟨b.toArray⟩ = decide (a = b) := by
  rw [sEqD]
  by_cases h : a = b
  · subst h; simp
  · rw [decide_eq_false h]
    refine decide_eq_false fun e => h ?_
    injection e with e
    simpa using congrArg Array.toList e
def enBo (b : Bool) : List FV := [.v (.bool b)]
end Go.Proofs.YtmnjmdajgilhiaaDoor.Cl

/- Events as the walks have them. No condition. -/
import Derived.Test.YtmnjmdajgilhiaaDoorJb
set_option linter.unusedVariables false
set_option linter.unusedSimpArgs false
namespace Go.Proofs.YtmnjmdajgilhiaaDoor.Cl
open Go Go.RowKit Go.Proofs Go.Proofs.YtmnjmdajgilhiaaDoor.Vc Go.Proofs.YtmnjmdajgilhiaaDoor.Ax
structure Ev where
  client : By
  seq : Int
  kind : Int
  time : Int
  id : By
  name : By
  other : By
  ver : Int
  arm : Int
  val : Int
abbrev sF (s : By) : FV := .v (.string ⟨s.toArray⟩)
abbrev iF (n : Int) : FV := .v (.int .i64 n)
def enE (e : Ev) : List FV := [sF e.client, iF e.seq, iF e.kind, iF e.time, sF e.id, sF e.name, sF e.other, iF e.ver, iF e.arm, iF e.val]
def evA (e : Ev) : AV := .agg ((enE e).map FV.up)
abbrev el (l : List Ev) : AV := .lst 10 (l.map enE)
/-- any event: numbers are numbers of 64 bits, texts are no longer than a memory -/
structure Ev.ok (e : Ev) : Prop where
  seq : I64 e.seq
  kind : I64 e.kind
  time : I64 e.time
  ver : I64 e.ver
  arm : I64 e.arm
  val : I64 e.val
  client : e.client.length ≤ 140737488355328
  id : e.id.length ≤ 140737488355328
  name : e.name.length ≤ 140737488355328
  other : e.other.length ≤ 140737488355328
/-- the cells of an event -/
def evc (e : Ev) : List Value := [.string ⟨e.client.toArray⟩, .int .i64 e.seq, .int .i64 e.kind, .int .i64 e.time, .string ⟨e.id.toArray⟩, .string ⟨e.name.toArray⟩, .string ⟨e.other.toArray⟩, .int .i64 e.ver, .int .i64 e.arm, .int .i64 e.val]
theorem evc_len (e : Ev) : (evc e).length = 10 := rfl
theorem enE_evc (e : Ev) : enE e = (evc e).map .v := rfl
theorem evc_one (e : Ev) : ∀ v ∈ evc e, v.oneCell' = true := fun v hv => by
  simp only [evc, List.mem_cons, List.not_mem_nil, or_false] at hv
  rcases hv with rfl | rfl | rfl | rfl | rfl | rfl | rfl | rfl | rfl | rfl <;> rfl
end Go.Proofs.YtmnjmdajgilhiaaDoor.Cl

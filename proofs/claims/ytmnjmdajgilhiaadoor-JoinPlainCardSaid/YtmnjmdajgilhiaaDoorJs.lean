/- What the join computes, in plain Lean: links, owners, first exposures, values of metrics, samples. No program in sight. -/
import Derived.Test.YtmnjmdajgilhiaaDoorJp
import Derived.Test.YtmnjmdajgilhiaaDoorEv
import Derived.Test.YtmnjmdajgilhiaaDoorId6
set_option linter.unusedVariables false
set_option linter.unusedSimpArgs false
namespace Go.Proofs.YtmnjmdajgilhiaaDoor.Cl
open Go Go.Proofs.YtmnjmdajgilhiaaDoor.Vc Go.Proofs.YtmnjmdajgilhiaaDoor.Ax Go.Proofs.YtmnjmdajgilhiaaDoor.Id

def lkE (e : Ev) : Lk := ⟨ba e.id, ba e.other, e.time⟩
/-- the events of a kind -/
def ofK (k : Int) (l : List Ev) : List Ev := l.filter fun e => decide (e.kind = k)
def lksE (l : List Ev) : List Lk := (ofK 3 l).map lkE
/-- exposures -/
structure Ex where
  id : By
  client : By
  seq : Int
  time : Int
  arm : Int
  ver : Int
def exF (x : Ex) : List FV := [sF x.id, sF x.client, iF x.seq, iF x.time, iF x.arm, iF x.ver]
def exA (x : Ex) : AV := .agg ((exF x).map FV.up)
abbrev exL (l : List Ex) : AV := .lst 6 (l.map exF)
def exE (e : Ev) : Ex := ⟨e.id, e.client, e.seq, e.time, e.arm, e.ver⟩
/-- the root of an id by the links up to a time -/
def rtA (ls : List Lk) (t : Int) (id : By) : ByteArray := rt (unt t ls) (ba id)
def owP (ls : List Lk) (t : Int) (id : By) (x : Ex) : Bool := decide (x.time ≤ t) && decide (rtA ls t x.id = rtA ls t id)
/-- whose an id is at a time -/
def owO (ls : List Lk) (xs : List Ex) (id : By) (t : Int) : Option Nat := xs.findIdx? (owP ls t id)
def owI (ls : List Lk) (xs : List Ex) (id : By) (t : Int) : Int := match owO ls xs id t with | some i => (i : Int) | none => -1
theorem owO_some {ls : List Lk} {xs : List Ex} {id : By} {t : Int} {i : Nat} (hi : i < xs.length) (h : owP ls t id xs[i] = true) (hno : ∀ j (h1 : j < i), owP ls t id (xs[j]'(by omega)) = false) : owO ls xs id t = some i := by
  unfold owO
  rw [List.findIdx?_eq_some_iff_getElem]
  exact ⟨hi, h, fun j hj => by simp [hno j hj]⟩
theorem owO_none {ls : List Lk} {xs : List Ex} {id : By} {t : Int} (hno : ∀ j (h1 : j < xs.length), owP ls t id xs[j] = false) : owO ls xs id t = none := by
  unfold owO
  rw [List.findIdx?_eq_none_iff]
  intro x hx
  obtain ⟨j, hj, rfl⟩ := List.getElem_of_mem hx
  exact hno j hj
theorem owO_lt {ls : List Lk} {xs : List Ex} {id : By} {t : Int} {i : Nat} (h : owO ls xs id t = some i) : ∃ hi : i < xs.length, owP ls t id xs[i] = true := by
  unfold owO at h
  rw [List.findIdx?_eq_some_iff_getElem] at h
  exact ⟨h.1, h.2.1⟩
theorem owI_rng (ls : List Lk) (xs : List Ex) (id : By) (t : Int) : -1 ≤ owI ls xs id t ∧ owI ls xs id t < (xs.length : Int) := by
  unfold owI
  cases h : owO ls xs id t with
  | none => exact ⟨Int.le_refl _, by show (-1 : Int) < _; omega⟩
  | some i => obtain ⟨hi, _⟩ := owO_lt h; exact ⟨by show (-1 : Int) ≤ (i : Int); omega, by show (i : Int) < _; omega⟩
/-- first exposures, event by event (the exposures alone) -/
def fstN (ls : List Lk) (name : By) (o : List Ex) (e : Ev) : List Ex := if e.name = name ∧ owI ls o e.id e.time < 0 then o ++ [exE e] else o
def fstX (ls : List Lk) (name : By) (l : List Ev) : List Ex := l.foldl (fstN ls name) []
theorem fstX_snoc (ls : List Lk) (name : By) (l : List Ev) (e : Ev) : fstX ls name (l ++ [e]) = fstN ls name (fstX ls name l) e := by unfold fstX; rw [List.foldl_append]; rfl
def fstS (l : List Ev) (name : By) : List Ex := fstX (lksE l) name (ofK 1 l)
theorem fstX_len (ls : List Lk) (name : By) (l : List Ev) : (fstX ls name l).length ≤ l.length := by
  have : ∀ (l : List Ev) (o : List Ex), (l.foldl (fstN ls name) o).length ≤ o.length + l.length := by
    intro l
    induction l with
    | nil => intro o; simp
    | cons e r ih =>
      intro o
      rw [List.foldl_cons]
      have h1 := ih (fstN ls name o e)
      have h2 : (fstN ls name o e).length ≤ o.length + 1 := by unfold fstN; split <;> simp
      simp only [List.length_cons]
      omega
  have := this l []
  simpa [fstX] using this
/-- metrics -/
structure Mt where
  kind : Int
  name : By
  below : By
  window : Int
  cap : Int
  least : Int
  before : Int
def mtF (m : Mt) : List FV := [iF m.kind, sF m.name, sF m.below, iF m.window, iF m.cap, iF m.least, iF m.before]
def mtA (m : Mt) : AV := .agg ((mtF m).map FV.up)
/-- what an event of the metric's name gives -/
def mtW (m : Mt) (e : Ev) : Int := if m.kind = 1 ∨ m.kind = 4 then e.val else 1
def mtV (m : Mt) (l : List Ev) : Int := l.foldl (fun a e => if e.name = m.name ∧ m.least ≤ e.val then a + mtW m e else a) 0
def mtB (m : Mt) (l : List Ev) : Int := l.foldl (fun a e => if m.kind = 4 ∧ e.name = m.below then a + e.val else a) 0
def lim (m : Mt) (n : Int) : Int := max 0 (min n m.cap)
/-- samples -/
structure Sm where
  x : Ex
  value : Int
  below : Int
  before : Int
  mixed : Bool
def smF (s : Sm) : List FV := exF s.x ++ [iF s.value, iF s.below, iF s.before, .v (.bool s.mixed)]
abbrev smL (l : List Sm) : AV := .lst 10 (l.map smF)
/-- what is measured within the window of the k-th first exposure -/
def insE (ls : List Lk) (xs : List Ex) (w : Int) (k : Nat) (x : Ex) (l : List Ev) : List Ev := l.filter fun e => decide (owO ls xs e.id e.time = some k) && decide (e.time < x.time + w)
def mixE (ls : List Lk) (xs : List Ex) (name : By) (w : Int) (k : Nat) (x : Ex) (l : List Ev) : Bool := (insE ls xs w k x l).any fun e => decide (e.name = name) && !decide (e.arm = x.arm)
def befE (ls : List Lk) (b : Int) (x : Ex) (l : List Ev) : List Ev := l.filter fun e => decide (x.time - b ≤ e.time) && (decide (e.time < x.time) && decide (rtA ls x.time e.id = rtA ls x.time x.id))
def smpE (l : List Ev) (name : By) (m : Mt) (k : Nat) (x : Ex) : Sm :=
  let ls := lksE l
  let xs := fstS l name
  let ins := insE ls xs m.window k x (ofK 2 l)
  ⟨x, lim m (mtV m ins), lim m (mtB m ins), if m.before = 0 then 0 else lim m (mtV m (befE ls m.before x (ofK 2 l))), mixE ls xs name m.window k x (ofK 1 l)⟩
def smpS (l : List Ev) (name : By) (m : Mt) (mark : Int) : List Sm := ((fstS l name).zipIdx.filter fun p => decide (p.1.time + m.window ≤ mark)).map fun p => smpE l name m p.2 p.1
end Go.Proofs.YtmnjmdajgilhiaaDoor.Cl

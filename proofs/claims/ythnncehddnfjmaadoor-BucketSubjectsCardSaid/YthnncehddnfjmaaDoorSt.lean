/- The reckoner's rules for strings: an index, a part, and a walk over the runes of which only the plain ones are told. No condition. -/
import Derived.Test.YthnncehddnfjmaaDoorMp
import Derived.MapKept
set_option linter.unusedVariables false
set_option linter.unusedSimpArgs false
namespace Go.Proofs.YthnncehddnfjmaaDoor.Vc
open Go Go.RowKit

/-- the bytes of a string -/
abbrev bys (s : ByteArray) : List UInt8 := s.data.toList
theorem bys_len (s : ByteArray) : (bys s).length = s.size := by simp
section
variable {P : Program} {w : World} {K : Value → World → Prop}
theorem vs_ixS {t : TypeId} {s : ByteArray} {k : IntKind} {ix : Int} (m : Nat) (hm : ix = m) (hu : P.underlying t = some .string) (h : m < s.size)
    (c : K (.int .u8 (s[m].toNat : Int)) w) : VSem P (Instr.index t (.string s) (.int k ix)) w K := by
  refine vsem ?_ c
  subst hm
  rw [run_index_string w t s k m hu, dif_pos ⟨by omega, by omega⟩]
  simp
/-- s[lo:hi] -/
theorem vs_sliceS {t : TypeId} {s : ByteArray} {kl kh : IntKind} {lo hi : Int} (a b : Nat) (ha : lo = a) (hb : hi = b) (hu : P.underlying t = some .string) (hab : a ≤ b) (h : b ≤ s.size)
    (c : K (.string (s.extract a b)) w) : VSem P (Instr.sliceAt t (.string s) (some (.int kl lo)) (some (.int kh hi)) none) w K := by
  refine vsem ?_ c
  subst ha; subst hb
  unfold Instr.sliceAt
  rw [Sem.run_bind, run_under hu]
  simp only [Result.andThen_ok]
  unfold Instr.slice
  rw [Sem.run_bind, run_under hu]
  have h1 : (0 : Int) ≤ b ∧ (b : Int) ≤ s.size := ⟨by omega, by omega⟩
  have h2 : (0 : Int) ≤ a ∧ (a : Int) ≤ b := ⟨by omega, by omega⟩
  simp [Instr.sliceBounds, Instr.sliceBound, asIntOf, h1, h2, h, hab]
/-- a walk over a string stands at this place -/
def Itr (w : World) (b : Nat) (s : ByteArray) (p : Nat) : Prop := w.heap[b]? = some (.stringIter s p)
theorem vs_rangeS {t : TypeId} {s : ByteArray} (hu : P.underlying t = some .string) (k : ∀ w', Below w.heap.size w w' → Itr w' w.heap.size s 0 → K (.pointer (some ⟨w.heap.size, 0, none⟩)) w') :
    VSem P (Instr.range t (.string s)) w K := by
  refine vsem ?_ (k (w.alloc (.stringIter s 0)) (balloc (Below.refl _ _) (Nat.le_refl _) _) (heap_alloc_new w _))
  unfold Instr.range
  simp [run_under hu]
theorem run_getIter {b : Nat} {s : ByteArray} {p : Nat} (h : Itr w b s p) : (getObj b).run P w = .ok (.stringIter s p) w := by
  have h' : w.heap[b]? = some (.stringIter s p) := h
  simp [getObj, Sem.run, h']
theorem run_setIter {b : Nat} {s : ByteArray} {p : Nat} (o : Obj) (h : Itr w b s p) : (setObj b o).run P w = .ok () { w with heap := w.heap.setIfInBounds b o } := by
  have h' : w.heap[b]? = some (.stringIter s p) := h
  simp [setObj, Sem.run, h']
/-- the end of a walk -/
theorem vs_nextEnd {ty : TypeId} {b : Nat} {s : ByteArray} {p : Nat} (h : Itr w b s p) (hp : s.size ≤ p) (k : K (.tuple #[.bool false]) w) : VSem P (Instr.next (.pointer (some ⟨b, 0, none⟩)) true ty) w K := by
  refine vsem ?_ k
  unfold Instr.next
  simp [run_getIter h, Nat.not_lt.2 hp]
/-- a step of a walk: a plain byte is its own rune; of another rune it is told that it is not plain -/
theorem vs_next {ty : TypeId} {b : Nat} {s : ByteArray} {p : Nat} (h : Itr w b s p) (hp : p < s.size)
    (k1 : s[p].toNat < 128 → ∀ w', Only b w w' → Itr w' b s (p + 1) → K (.tuple #[.bool true, .int .i64 (p : Nat), .int .i32 (s[p].toNat : Nat)]) w')
    (k2 : 128 ≤ s[p].toNat → ∀ w' (c q : Nat), Only b w w' → Itr w' b s q → 128 ≤ c → K (.tuple #[.bool true, .int .i64 (p : Nat), .int .i32 (c : Nat)]) w') :
    VSem P (Instr.next (.pointer (some ⟨b, 0, none⟩)) true ty) w K := by
  have hbl : b < w.heap.size := (Array.getElem?_eq_some_iff.1 h).1
  have only : ∀ o, Only b w { w with heap := w.heap.setIfInBounds b o } := fun o => ⟨rfl, rfl, rfl, by simp, fun j hj => by simp [Array.getElem?_setIfInBounds_ne (Ne.symm hj)]⟩
  have self : ∀ q, Itr ({ w with heap := w.heap.setIfInBounds b (.stringIter s q) } : World) b s q := fun q => by unfold Itr; simp [hbl]
  have hrun : ∀ c q, Utf8.decode s p = (c, q) → (Instr.next (.pointer (some ⟨b, 0, none⟩)) true ty).run P w = .ok (.tuple #[.bool true, goInt p, .int .i32 c]) { w with heap := w.heap.setIfInBounds b (.stringIter s (p + q)) } := fun c q hd => by
    unfold Instr.next
    simp [run_getIter h, hp, hd, run_setIter _ h]
  have hb0 : (s.get! (p + 0)).toNat = s[p].toNat := by
    rw [Nat.add_zero]
    congr 1
    show s.data[p]! = s.data[p]
    exact getElem!_pos s.data p hp
  by_cases hc : s[p].toNat < 128
  · have hd : Utf8.decode s p = (s[p].toNat, 1) := by
      unfold Utf8.decode
      simp only [hb0]
      rw [if_pos (by simpa using hc)]
    exact vsem (hrun _ _ hd) (k1 hc _ (only _) (self _))
  · have hd : ∃ c q, Utf8.decode s p = (c, q) ∧ 128 ≤ c := by
      unfold Utf8.decode
      simp only [hb0]
      rw [if_neg (by simpa using hc)]
      split
      · split
        · exact ⟨_, _, rfl, by omega⟩
        · exact ⟨_, _, rfl, by decide⟩
      · split
        · split
          · rename_i h1; exact ⟨_, _, rfl, by simp only [Bool.and_eq_true, decide_eq_true_eq] at h1; omega⟩
          · exact ⟨_, _, rfl, by decide⟩
        · split
          · split
            · rename_i h1; exact ⟨_, _, rfl, by simp only [Bool.and_eq_true, decide_eq_true_eq] at h1; omega⟩
            · exact ⟨_, _, rfl, by decide⟩
          · exact ⟨_, _, rfl, by decide⟩
    obtain ⟨c, q, hd, hc2⟩ := hd
    exact vsem (hrun _ _ hd) (k2 (by omega) _ c _ (only _) (self _) hc2)
end
end Go.Proofs.YthnncehddnfjmaaDoor.Vc

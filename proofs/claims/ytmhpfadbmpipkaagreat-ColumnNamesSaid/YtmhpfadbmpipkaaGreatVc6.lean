/- The reckoner's rules for append, make, slices of slices and conversions between strings and bytes. No condition. -/
import Derived.Test.YtmhpfadbmpipkaaGreatVc5
import Derived.Laws.IdiomStrings
import Derived.Laws.BytesArg
import Derived.Laws.Strings
set_option linter.unusedVariables false
set_option linter.unusedSimpArgs false
namespace Go.Proofs.YtmhpfadbmpipkaaGreat.Vc
open Go Go.RowKit

/-! a slice of the call's own -/
def Own (w : World) (B : Nat) (E : TypeId) (sz : Nat) (oa : Option Addr) (n c : Nat) (xs : List Value) : Prop := w.ownsRow B E sz (.slice oa n c) n xs
theorem Own.len {w : World} {B : Nat} {E : TypeId} {sz : Nat} {oa : Option Addr} {n c : Nat} {xs : List Value} (h : Own w B E sz oa n c xs) : xs.length = n * sz := h.1
theorem Own.nil (w : World) (B : Nat) (E : TypeId) (sz : Nat) : Own w B E sz none 0 0 [] := World.ownsRow_nil w B E sz
theorem Own.row {w : World} {B : Nat} {E : TypeId} {sz : Nat} {oa : Option Addr} {n c : Nat} {xs : List Value} (h : Own w B E sz oa n c xs) : Row w oa xs := by
  rcases h.2 with ⟨hv, hn⟩ | ⟨g, cap, cur, hv, hg, hh, _⟩
  · subst hn
    exact .inl (List.eq_nil_of_length_eq_zero (by simpa using h.1))
  · injection hv with h1 h2 h3
    subst h1
    refine .inr ⟨g, 0, rfl, (Array.getElem?_eq_some_iff.1 hh).1, fun j v hj => ?_⟩
    have := World.ownsRow.cells (h : w.ownsRow B E sz (.slice (some ⟨g, 0, none⟩) n c) n xs) (g := g) rfl j v hj
    rw [add0] at this
    exact this
def ownB (oa : Option Addr) : Option Nat := oa.map (·.block)
theorem ownB_eq (oa : Option Addr) (n c : Nat) : (Value.slice oa n c).ownBlock = ownB oa := by cases oa <;> rfl
theorem Own.kept {w w' : World} {B : Nat} {E : TypeId} {sz : Nat} {oa : Option Addr} {n c : Nat} {xs : List Value} {row : Option Nat} (h : Own w B E sz oa n c xs) (hg : w.grownBy w' row)
    (hne : ownB oa = none ∨ ownB oa ≠ row) : Own w' B E sz oa n c xs := World.ownsRow.kept h hg (by rw [ownB_eq]; exact hne)
theorem Own.ge {w : World} {B : Nat} {E : TypeId} {sz : Nat} {oa : Option Addr} {n c : Nat} {xs : List Value} (h : Own w B E sz oa n c xs) : ∀ k, ownB oa = some k → B ≤ k ∧ k < w.heap.size := by
  intro k hk
  exact World.ownsRow.lt h k (by rw [ownB_eq]; exact hk)
/-- what is the call's own stays so while only younger memory is made -/
theorem Own.below {w w' : World} {B : Nat} {E : TypeId} {sz : Nat} {oa : Option Addr} {n c : Nat} {xs : List Value} (h : Own w B E sz oa n c xs) (hb : Below w.heap.size w w') : Own w' B E sz oa n c xs :=
  Own.kept h (row := none) ⟨hb.os, hb.tape, hb.output, hb.size, fun k hk _ => hb.block k hk⟩ (by cases h : ownB oa <;> simp)
theorem grown_below {w w' : World} {B : Nat} {row : Option Nat} (hg : w.grownBy w' row) (hB : B ≤ w.heap.size) (hr : ∀ k, row = some k → B ≤ k) : Below B w w' :=
  (Below.refl B w).grown hg hB hr

theorem Row.alloc1 (w : World) (l : List Value) (t : TypeId) : Row (w.alloc (.cells l.toArray t)) (some ⟨w.heap.size, 0, none⟩) l :=
  .inr ⟨w.heap.size, 0, rfl, by simp, fun j v hj => by have := (Blk.new w l.toArray t).cell j; rw [Nat.zero_add, this]; exact hj⟩
theorem Blk.row {w : World} {b : Nat} {l : List Value} {t : TypeId} (h : Blk w b l t) : Row w (some ⟨b, 0, none⟩) l :=
  .inr ⟨b, 0, rfl, h.lt, fun j v hj => by rw [Nat.zero_add, h.cell]; exact hj⟩
theorem vs_storeP {P : Program} {w : World} {t T : TypeId} {b o : Nat} {l : List Value} {v : Value} {K : World → Prop} (hb : Blk w b l T) (hs : szB P t = some 1) (hv : v.oneCell' = true) (hlt : o < l.length)
    (k : ∀ w', Only b w w' → Blk w' b (l.set o v) T → K w') : VUnit P (storeVar t ⟨b, o, none⟩ v) w K :=
  vs_storeB hb hs hv (Nat.ble_eq_true_of_le hlt) k
theorem Own.alloc {w : World} {B : Nat} {E : TypeId} {sz : Nat} {oa : Option Addr} {n c : Nat} {xs : List Value} (h : Own w B E sz oa n c xs) (o : Obj) : Own (w.alloc o) B E sz oa n c xs :=
  h.below ((Below.refl _ _).alloc (Nat.le_refl _) o)
theorem Row.drew {w : World} {oa : Option Addr} {vs : List Value} (h : Row w oa vs) : Row w.drew oa vs := h
theorem Row.alloc {w : World} {oa : Option Addr} {vs : List Value} (h : Row w oa vs) (o : Obj) : Row (w.alloc o) oa vs := h.below ((Below.refl _ _).alloc (Nat.le_refl _) o)
theorem balloc {B : Nat} {w w' : World} (h : Below B w w') (hB : B ≤ w.heap.size) (o : Obj) : Below B w (w'.alloc o) := h.alloc (Nat.le_trans hB h.size) o
theorem sliceEq {oa : Option Addr} {n m c : Nat} (h : n = m) : Value.slice oa n c = Value.slice oa m c := by rw [h]

def bytesB (P : Program) (t : TypeId) : Option Nat := (P.info? t).map (·.bytes)
def zeroB (P : Program) (t : TypeId) : Option (List Value) := (P.info? t).bind fun i => i.zero.map fun z => z.cells.toList
section
variable {P : Program} {w : World} {K : Value → World → Prop}
theorem vs_append {t ty E : TypeId} {sz by_ B n c m c2 : Nat} {oa oa2 : Option Addr} {xs news zs : List Value}
    (ht : P.underlying t = some (.slice E)) (hs : szB P E = some sz) (hby : bytesB P E = some by_) (hz : zeroB P E = some zs) (hzl : zs.length = sz) (hsz : Nat.ble 1 sz = true)
    (hown : Own w B E sz oa n c xs) (hr : Row w oa2 news) (hl : news.length = m * sz) (h1 : ∀ u ∈ news, u.oneCell' = true)
    (hnil : oa2 = none → c2 = 0)
    (hbytes : (n + m) * by_ ≤ 140737488355328) (hB : B ≤ w.heap.size) (hlen : n + m ≤ maxLen)
    (k : ∀ oa' c' w', Own w' B E sz oa' (n + m) c' (xs ++ news) → Below B w w' → w.grownBy w' (ownB oa) → K (.slice oa' (n + m) c') w') :
    VSem P (Builtin.append_ #[t, t] ty #[.slice oa n c, .slice oa2 m c2]) w K := by
  obtain ⟨i, hi, rfl⟩ := szB_info hs
  have hb' : i.bytes = by_ := by simpa [bytesB, hi] using hby
  obtain ⟨z, hz1, hz2⟩ : ∃ z, i.zero = some z ∧ z.cells.toList = zs := by
    unfold zeroB at hz
    simp only [hi, Option.bind_some] at hz
    cases hzz : i.zero with
    | none => simp [hzz] at hz
    | some z => simp only [hzz, Option.map_some, Option.some.injEq] at hz; exact ⟨z, rfl, hz⟩
  have hsz' : 0 < i.size := Nat.le_of_ble_eq_true hsz
  have hzc : z.cells.size = i.size := by rw [← hz2] at hzl; simpa using hzl
  by_cases hm : oa2 = none
  · subst hm
    have hm0 : news = [] := hr.resolve_right (by rintro ⟨b, o, he, _⟩; cases he)
    subst hm0
    have : m = 0 := by
      rcases Nat.eq_zero_or_pos m with h | h
      · exact h
      · have := Nat.mul_pos h hsz'; simp at hl; omega
    subst this
    have hc2 := hnil rfl
    subst hc2
    have hrun := run_append_owned_none (P := P) (w := w) B t ty E i i.size ht hi (.slice oa n c) n xs hown
    refine vsem hrun ?_
    have hk := k oa c w (by simpa using hown) (Below.refl _ _) ⟨rfl, rfl, rfl, Nat.le_refl _, fun _ _ _ => rfl⟩
    simpa using hk
  · obtain ⟨ad, rfl, hcells⟩ : ∃ ad, oa2 = some ad ∧ ∀ j u, news[j]? = some u → w.cell? (ad.add j) = some u := by
      rcases hr with rfl | ⟨b, o, rfl, _, hc⟩
      · cases oa2 with
        | none => exact absurd rfl hm
        | some ad => exact ⟨ad, rfl, by simp⟩
      · exact ⟨_, rfl, fun j u hj => by rw [add0]; exact hc j u hj⟩
    obtain ⟨v', w', hrun, ho, hg, _⟩ := run_append_own (P := P) w B t ty E i z i.size by_ ht hi hz1 rfl hb' hzc hsz' (.slice oa n c) n xs hown ad m c2 news hl hcells h1 hlen hbytes hB
    rw [ownB_eq] at hg
    have hv : ∃ oa' c', v' = .slice oa' (n + m) c' := by
      rcases ho.2 with ⟨h, h0⟩ | ⟨g, cap, cur, h, _⟩
      · exact ⟨none, 0, by rw [h, h0]⟩
      · exact ⟨_, cap, h⟩
    obtain ⟨oa', c', rfl⟩ := hv
    exact vsem hrun (k oa' c' w' ho (grown_below hg hB fun k hk => (hown.ge k hk).1) hg)
theorem vs_make {t E : TypeId} {sz by_ n : Nat} {kl kc : IntKind} {l c : Int} {zs : List Value}
    (ht : P.underlying t = some (.slice E)) (hs : szB P E = some sz) (hby : bytesB P E = some by_) (hz : zeroB P E = some zs) (hzl : zs.length = sz) (hsz : Nat.ble 1 sz = true)
    (hl : l = n) (hc : c = n) (hbytes : by_ * n ≤ 140737488355328) (hn : n ≤ maxLen)
    (k : ∀ w', w' = w.alloc (.cells (List.replicate n zs).flatten.toArray E) → Blk w' w.heap.size (List.replicate n zs).flatten E → K (.slice (some ⟨w.heap.size, 0, none⟩) n n) w') :
    VSem P (Instr.makeSlice t (.int kl l) (.int kc c)) w K := by
  subst hl; subst hc
  obtain ⟨i, hi, rfl⟩ := szB_info hs
  have hb' : i.bytes = by_ := by simpa [bytesB, hi] using hby
  subst hb'
  obtain ⟨z, hz1, hz2⟩ : ∃ z, i.zero = some z ∧ z.cells.toList = zs := by
    unfold zeroB at hz
    simp only [hi, Option.bind_some] at hz
    cases hzz : i.zero with
    | none => simp [hzz] at hz
    | some z => simp only [hzz, Option.map_some, Option.some.injEq] at hz; exact ⟨z, rfl, hz⟩
  have hsz' : 1 ≤ i.size := Nat.le_of_ble_eq_true hsz
  have hzc : z.cells.size = i.size := by rw [← hz2] at hzl; simpa using hzl
  have h63 : (n : Int) ≤ 9223372036854775807 := by unfold maxLen at hn; omega
  have hbi : (i.bytes : Int) * (n : Int) ≤ 281474976710656 := by
    rw [← Int.natCast_mul]
    omega
  have hrun := run_make (P := P) w t E i z ht hi hz1 kl kc n n (by omega) (by omega) hbi h63
  have hmc : madeCells z.cells (n * i.size) = (List.replicate n zs).flatten.toArray := by
    rw [← hz2, ← rep_cells z.cells n i.size hzc hsz']
    unfold madeCells
    rfl
  simp only [Int.toNat_natCast] at hrun
  rw [hmc] at hrun
  exact vsem hrun (k _ rfl (by have := Blk.new w (List.replicate n zs).flatten.toArray E; simpa using this))
/-- x[:h] of a slice -/
theorem vs_sliceHi {t E : TypeId} {sz n c h : Nat} {oa : Option Addr} {kh : IntKind} {hi : Int} (ht : P.underlying t = some (.slice E)) (hs : szB P E = some sz)
    (he : hi = h) (hh : h ≤ n) (hc : n ≤ c) (k : K (.slice oa h c) w) : VSem P (Instr.sliceAt t (.slice oa n c) none (some (.int kh hi)) none) w K := by
  refine vsem ?_ k
  subst he
  have h1 : (0 : Int) ≤ h ∧ (h : Int) ≤ c := ⟨by omega, by omega⟩
  unfold Instr.sliceAt
  rw [Sem.run_bind, run_under ht]
  simp only [Result.andThen_ok]
  unfold Instr.slice
  rw [Sem.run_bind, run_under ht]
  simp only [Result.andThen_ok, Instr.sliceBounds, Instr.sliceBound, asIntOf, Sem.run_bind, Sem.run_pure, if_pos h1, run_size hs]
  congr 1
  cases oa with
  | none => by_cases hc0 : c = 0 <;> simp [hc0]
  | some a => by_cases hc0 : c = 0 <;> simp [hc0, Addr.add]
theorem Row.take {oa : Option Addr} {vs : List Value} (h : Row w oa vs) (n : Nat) : Row w oa (vs.take n) := by
  rcases h with h | ⟨b, o, he, hlt, hc⟩
  · exact .inl (by simp [h])
  · exact .inr ⟨b, o, he, hlt, fun j v hj => hc j v (by rw [List.getElem?_take] at hj; split at hj; exact hj; cases hj)⟩
theorem vs_b2s {src dst e : TypeId} {oa : Option Addr} {l : List UInt8} {n c : Nat} (hs : P.underlying src = some (.slice e)) (he : P.underlying e = some (.int .u8)) (hd : P.underlying dst = some .string)
    (hn : n = l.length) (hr : Row w oa (bvals l)) (k : K (.string ⟨l.toArray⟩) w) : VSem P (convert src dst (.slice oa n c)) w K := by
  subst hn
  rcases hr with h | ⟨b, o, rfl, _, hc⟩
  · have hl : l = [] := by simpa [bvals] using h
    subst hl
    refine vsem ?_ k
    cases oa with
    | none => have := run_convert_bytes_nil (P := P) w src e hs he 0 c dst hd; exact this
    | some a => exact run_convert_bytes_back (P := P) w src dst e a c [] hs he hd (by simp)
  · exact vsem (run_convert_bytes_back (P := P) w src dst e _ c l hs he hd fun j hj => by rw [add0]; exact hc j _ (bvals_get hj)) k
end
theorem sEq_mk (a b : List UInt8) : sEq ⟨a.toArray⟩ ⟨b.toArray⟩ = (a == b) := by
  unfold sEq
  rw [Go.ByteArray.toList_eq, Go.ByteArray.toList_eq]
theorem append_mk (a b : List UInt8) : (⟨a.toArray⟩ : ByteArray) ++ ⟨b.toArray⟩ = ⟨(a ++ b).toArray⟩ := by
  apply ByteArray.ext
  simp
theorem bvals_one (l : List UInt8) : ∀ u ∈ bvals l, u.oneCell' = true := by
  intro u hu
  simp only [bvals, List.mem_map] at hu
  obtain ⟨x, _, rfl⟩ := hu
  rfl
theorem bvals_append (a b : List UInt8) : bvals (a ++ b) = bvals a ++ bvals b := by simp [bvals]

end Go.Proofs.YtmhpfadbmpipkaaGreat.Vc

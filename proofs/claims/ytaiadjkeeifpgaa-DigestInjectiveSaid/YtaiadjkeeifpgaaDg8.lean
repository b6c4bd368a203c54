/- The walk of the shortening of lists of fields, and of the law DigestHash. Conditions: the arguments read as the lists that are named. -/
import Derived.Test.YtaiadjkeeifpgaaDg7
namespace Go.Proofs.Ytaiadjkeeifpgaa.Dg
open Go Go.RowKit Go.Proofs.Ytaiadjkeeifpgaa.Vc
attribute [local irreducible] loadVar storeVar Instr.indexAt Instr.index Instr.sliceAt Instr.makeSlice Instr.lookup Instr.mapUpdate Instr.range Instr.next Instr.entry Instr.makeMap Builtin.append_ Builtin.copy_ Builtin.len_ Builtin.min_ Builtin.max_ Builtin.cap_ Builtin.delete_ Builtin.clear_ convert binOp eqGuard Op.unary Calls

def cutL (ls : List (List UInt8)) : List (List UInt8) := (ls.take 20).map (·.take 300)
theorem cutL_len (ls : List (List UInt8)) : (cutL ls).length ≤ 20 := by unfold cutL; simp; omega
theorem frame_len (ls : List (List UInt8)) (h : ∀ l ∈ ls, l.length ≤ 300) : (frame ls).length ≤ ls.length * 308 := by
  induction ls with
  | nil => simp [frame]
  | cons l r ih =>
    have h1 := h l (by simp)
    have h2 := ih (fun l hl => h l (by simp [hl]))
    simp only [frame, List.length_append, lenTo_len, List.length_cons, Nat.add_mul]
    omega
theorem cutL_each (ls : List (List UInt8)) : ∀ l ∈ cutL ls, l.length ≤ 300 := by
  intro l hl
  unfold cutL at hl
  rw [List.mem_map] at hl
  obtain ⟨x, _, rfl⟩ := hl
  simp; omega
theorem cutL_frame (ls : List (List UInt8)) : (frame (cutL ls)).length ≤ 6160 := by
  have h1 := frame_len (cutL ls) (cutL_each ls)
  have h2 := cutL_len ls
  omega
/-- a field's value -/
def FldV (w : World) (v : Value) (l : List UInt8) : Prop := ∃ oa c, v = .slice oa l.length c ∧ l.length ≤ c ∧ (oa = none → c = 0) ∧ Row w oa (bvals l)
theorem Fld.snoc {w : World} {vs : List Value} {ls : List (List UInt8)} {v : Value} {l : List UInt8} (h : Fld w vs ls) (hv : FldV w v l) : Fld w (vs ++ [v]) (ls ++ [l]) := by
  refine ⟨by simp [h.1], fun i hi => ?_⟩
  by_cases hl : i < ls.length
  · obtain ⟨oa, c, h1, h2, h3, h4⟩ := h.2 i hl
    refine ⟨oa, c, ?_, ?_, h3, ?_⟩
    · rw [List.getElem?_append_left (by rw [h.1]; exact hl), h1, List.getElem_append_left hl]
    · rw [List.getElem_append_left hl]; exact h2
    · rw [List.getElem_append_left hl]; exact h4
  · have hi' : i = ls.length := by simp at hi; omega
    subst hi'
    obtain ⟨oa, c, h1, h2, h3, h4⟩ := hv
    refine ⟨oa, c, ?_, ?_, h3, ?_⟩
    · rw [List.getElem?_append_right (by rw [h.1]; exact Nat.le_refl _), h.1, h1]; simp
    · simpa using h2
    · simpa using h4
theorem Fld.nil (w : World) : Fld w [] [] := ⟨rfl, fun i hi => by simp at hi⟩
theorem set_snoc {α : Type} (l : List α) (z v : α) (k i : Nat) (hi : l.length = i) : (l ++ List.replicate (k + 1) z).set i v = (l ++ [v]) ++ List.replicate k z := by
  subst hi
  rw [List.set_append_right _ _ (Nat.le_refl _)]
  simp [List.replicate_succ]
theorem set_snoc2 {α : Type} (l : List α) (u v : α) (r : List α) (i : Nat) (hi : l.length = i) : ((l ++ [u]) ++ r).set i v = (l ++ [v]) ++ r := by
  subst hi
  rw [List.append_assoc, List.set_append_right _ _ (Nat.le_refl _)]
  simp


set_option maxRecDepth 100000 in
theorem cut_ok (oa : Option Addr) (c : Nat) (vs : List Value) (ls : List (List UInt8)) (w : World) (hc0 : ls.length ≤ c) (hr : Row w oa vs) (hf : Fld w vs ls) :
    Ret Try.prog 11 #[.slice oa ls.length c] w fun v w' => ∃ oa' c' vs', v = .slice oa' (cutL ls).length c' ∧ (cutL ls).length ≤ c' ∧ (oa' = none → c' = 0) ∧ Row w' oa' vs' ∧ Fld w' vs' (cutL ls) ∧ Below w.heap.size w w' := by
  refine ret_of_vc Try.func11 rfl mixed (by kernel_rfl) ?_
  obtain ⟨m, hm⟩ : ∃ m, m = min 20 ls.length := ⟨_, rfl⟩
  have hcm : (cutL ls).length = m := by unfold cutL; simp; omega
  have hm20 : m ≤ 20 := by omega
  have hml : m ≤ ls.length := by omega
  conv => whnf
  by_cases hlt : 20 < ls.length
  · have em : m = 20 := by omega
    refine vif_true (by simp; omega) ?_
    conv => whnf
    refine vs_sliceHi (h := m) rfl rfl (by rw [em]; rfl) (by omega) hc0 ?_
    clear hlt hm em
    conv => whnf
    refine vs_make (sz := 1) (by_ := 24) (n := m) rfl rfl rfl rfl rfl rfl rfl rfl (by omega) (by unfold maxLen; omega) ?_
    intro w1 hw1 hb1
    have hB1 : Below w.heap.size w w1 := by rw [hw1]; exact balloc (Below.refl _ _) (Nat.le_refl _) _
    have hfl : (List.replicate m [Value.slice none 0 0]).flatten = [] ++ List.replicate (m - 0) (.slice none 0 0) := by simp
    have hb1' : Blk w1 w.heap.size ([] ++ List.replicate (m - 0) (.slice none 0 0)) 23 := by rw [← hfl]; exact hb1
    conv => whnf
    refine vloop (X := Nat) ws11_1 (fun i => [(4, .int .i64 i)]) (fun i w' => i ≤ m ∧ Below w.heap.size w w' ∧ ∃ dn, dn.length = i ∧ Blk w' w.heap.size (dn ++ List.replicate (m - i) (.slice none 0 0)) 23 ∧ Fld w dn ((cutL ls).take i)) (fun i => m - i) 0 (by kernel_rfl) ?_ ⟨Nat.zero_le _, hB1, [], rfl, hb1', by simpa using Fld.nil w⟩ ?_
    · exact ⟨rfl, trivial⟩
    rintro i w2 j ⟨hi, hB2, dn, hdn, hb2, hfd⟩
    conv => whnf
    refine vif_split (fun hlt => ?_) (fun hge => ?_)
    · have hlt : i < m := by have := of_decide_eq_true hlt; omega
      obtain ⟨b, o, rfl, hbl, hc⟩ := hr.get (by rw [hf.1]; omega)
      obtain ⟨oa1, c1, hv, hc1, hn1, hr1⟩ := hf.2 i (by omega)
      have hget : w2.cell? ⟨b, o + i, none⟩ = some (.slice oa1 ls[i].length c1) := by rw [hB2.cell (p := ⟨b, o + i, none⟩) hbl]; exact hc _ _ hv
      have hrep : List.replicate (m - i) (Value.slice none 0 0) = List.replicate ((m - (i + 1)) + 1) (.slice none 0 0) := by congr 1; omega
      have hcl : (cutL ls).take (i + 1) = (cutL ls).take i ++ [ls[i].take 300] := by
        rw [List.take_succ_eq_append_getElem (by rw [hcm]; exact hlt)]
        simp [cutL]
      rw [hrep] at hb2
      conv => whnf
      refine vs_sl1 i rfl rfl rfl hlt ?_
      conv => whnf
      refine vs_load1 rfl hget ?_
      conv => whnf
      refine vs_sl1 i rfl rfl rfl hlt ?_
      conv => whnf
      refine vs_storeP hb2 rfl rfl (by simp; omega) ?_
      intro w3 o3 hb3
      rw [Nat.zero_add, set_snoc _ _ _ _ i hdn] at hb3
      have hB3 := hB2.trans (o3.below (Nat.le_refl _))
      have hget3 : w3.cell? ⟨b, o + i, none⟩ = some (.slice oa1 ls[i].length c1) := by rw [hB3.cell (p := ⟨b, o + i, none⟩) hbl]; exact hc _ _ hv
      conv => whnf
      refine vs_sl1 i rfl rfl rfl hlt ?_
      conv => whnf
      refine vs_load1 rfl hget3 ?_
      conv => whnf
      by_cases h300 : 300 < ls[i].length
      · refine vif_true (by simp; omega) ?_
        conv => whnf
        refine vs_sl1 i rfl rfl rfl hlt ?_
        conv => whnf
        refine vs_load1 rfl hget3 ?_
        conv => whnf
        refine vs_sliceHi (h := 300) rfl rfl rfl (by omega) hc1 ?_
        conv => whnf
        refine vs_sl1 i rfl rfl rfl hlt ?_
        conv => whnf
        refine vs_storeP hb3 rfl rfl (by simp; omega) ?_
        intro w4 o4 hb4
        rw [Nat.zero_add, set_snoc2 _ _ _ _ i hdn] at hb4
        conv => whnf
        refine VBack.mk ⟨_, ?_, i + 1, rfl, ?_, ?_⟩
        · show m - (i + 1) < m - i; omega
        · exact ⟨intEq (incr (by omega)), trivial⟩
        · refine ⟨hlt, hB3.trans (o4.below (Nat.le_refl _)), dn ++ [.slice oa1 300 c1], by simp [hdn], hb4, ?_⟩
          rw [hcl]
          refine hfd.snoc ⟨oa1, c1, sliceEq (by simp; omega), by simp; omega, hn1, ?_⟩
          have := hr1.take 300
          simpa [bvals] using this
      · refine vif_false (by simp; omega) ?_
        conv => whnf
        refine VBack.mk ⟨_, ?_, i + 1, rfl, ?_, ?_⟩
        · show m - (i + 1) < m - i; omega
        · exact ⟨intEq (incr (by omega)), trivial⟩
        · refine ⟨hlt, hB3, dn ++ [.slice oa1 ls[i].length c1], by simp [hdn], hb3, ?_⟩
          rw [hcl]
          have e : ls[i].take 300 = ls[i] := List.take_of_length_le (by omega)
          rw [e]
          exact hfd.snoc ⟨oa1, c1, rfl, hc1, hn1, hr1⟩
    · have hge : ¬ i < m := by have := of_decide_eq_false hge; omega
      obtain rfl : i = m := by omega
      conv => whnf
      rw [List.take_of_length_le (by omega)] at hfd
      rw [Nat.sub_self, List.replicate_zero, List.append_nil] at hb2
      exact VEnd.mk ⟨some ⟨w.heap.size, 0, none⟩, i, dn, sliceEq hcm.symm, by omega, (by intro e; cases e), hb2.row, hfd.below hB2, hB2⟩
  · have em : ls.length = m := by omega
    refine vif_false (by simp; omega) ?_
    rw [em]
    clear hlt hm
    conv => whnf
    refine vs_make (sz := 1) (by_ := 24) (n := m) rfl rfl rfl rfl rfl rfl rfl rfl (by omega) (by unfold maxLen; omega) ?_
    intro w1 hw1 hb1
    have hB1 : Below w.heap.size w w1 := by rw [hw1]; exact balloc (Below.refl _ _) (Nat.le_refl _) _
    have hfl : (List.replicate m [Value.slice none 0 0]).flatten = [] ++ List.replicate (m - 0) (.slice none 0 0) := by simp
    have hb1' : Blk w1 w.heap.size ([] ++ List.replicate (m - 0) (.slice none 0 0)) 23 := by rw [← hfl]; exact hb1
    conv => whnf
    refine vloop (X := Nat) ws11_1 (fun i => [(4, .int .i64 i)]) (fun i w' => i ≤ m ∧ Below w.heap.size w w' ∧ ∃ dn, dn.length = i ∧ Blk w' w.heap.size (dn ++ List.replicate (m - i) (.slice none 0 0)) 23 ∧ Fld w dn ((cutL ls).take i)) (fun i => m - i) 0 (by kernel_rfl) ?_ ⟨Nat.zero_le _, hB1, [], rfl, hb1', by simpa using Fld.nil w⟩ ?_
    · exact ⟨rfl, trivial⟩
    rintro i w2 j ⟨hi, hB2, dn, hdn, hb2, hfd⟩
    conv => whnf
    refine vif_split (fun hlt => ?_) (fun hge => ?_)
    · have hlt : i < m := by have := of_decide_eq_true hlt; omega
      obtain ⟨b, o, rfl, hbl, hc⟩ := hr.get (by rw [hf.1]; omega)
      obtain ⟨oa1, c1, hv, hc1, hn1, hr1⟩ := hf.2 i (by omega)
      have hget : w2.cell? ⟨b, o + i, none⟩ = some (.slice oa1 ls[i].length c1) := by rw [hB2.cell (p := ⟨b, o + i, none⟩) hbl]; exact hc _ _ hv
      have hrep : List.replicate (m - i) (Value.slice none 0 0) = List.replicate ((m - (i + 1)) + 1) (.slice none 0 0) := by congr 1; omega
      have hcl : (cutL ls).take (i + 1) = (cutL ls).take i ++ [ls[i].take 300] := by
        rw [List.take_succ_eq_append_getElem (by rw [hcm]; exact hlt)]
        simp [cutL]
      rw [hrep] at hb2
      conv => whnf
      refine vs_sl1 i rfl rfl rfl hlt ?_
      conv => whnf
      refine vs_load1 rfl hget ?_
      conv => whnf
      refine vs_sl1 i rfl rfl rfl hlt ?_
      conv => whnf
      refine vs_storeP hb2 rfl rfl (by simp; omega) ?_
      intro w3 o3 hb3
      rw [Nat.zero_add, set_snoc _ _ _ _ i hdn] at hb3
      have hB3 := hB2.trans (o3.below (Nat.le_refl _))
      have hget3 : w3.cell? ⟨b, o + i, none⟩ = some (.slice oa1 ls[i].length c1) := by rw [hB3.cell (p := ⟨b, o + i, none⟩) hbl]; exact hc _ _ hv
      conv => whnf
      refine vs_sl1 i rfl rfl rfl hlt ?_
      conv => whnf
      refine vs_load1 rfl hget3 ?_
      conv => whnf
      by_cases h300 : 300 < ls[i].length
      · refine vif_true (by simp; omega) ?_
        conv => whnf
        refine vs_sl1 i rfl rfl rfl hlt ?_
        conv => whnf
        refine vs_load1 rfl hget3 ?_
        conv => whnf
        refine vs_sliceHi (h := 300) rfl rfl rfl (by omega) hc1 ?_
        conv => whnf
        refine vs_sl1 i rfl rfl rfl hlt ?_
        conv => whnf
        refine vs_storeP hb3 rfl rfl (by simp; omega) ?_
        intro w4 o4 hb4
        rw [Nat.zero_add, set_snoc2 _ _ _ _ i hdn] at hb4
        conv => whnf
        refine VBack.mk ⟨_, ?_, i + 1, rfl, ?_, ?_⟩
        · show m - (i + 1) < m - i; omega
        · exact ⟨intEq (incr (by omega)), trivial⟩
        · refine ⟨hlt, hB3.trans (o4.below (Nat.le_refl _)), dn ++ [.slice oa1 300 c1], by simp [hdn], hb4, ?_⟩
          rw [hcl]
          refine hfd.snoc ⟨oa1, c1, sliceEq (by simp; omega), by simp; omega, hn1, ?_⟩
          have := hr1.take 300
          simpa [bvals] using this
      · refine vif_false (by simp; omega) ?_
        conv => whnf
        refine VBack.mk ⟨_, ?_, i + 1, rfl, ?_, ?_⟩
        · show m - (i + 1) < m - i; omega
        · exact ⟨intEq (incr (by omega)), trivial⟩
        · refine ⟨hlt, hB3, dn ++ [.slice oa1 ls[i].length c1], by simp [hdn], hb3, ?_⟩
          rw [hcl]
          have e : ls[i].take 300 = ls[i] := List.take_of_length_le (by omega)
          rw [e]
          exact hfd.snoc ⟨oa1, c1, rfl, hc1, hn1, hr1⟩
    · have hge : ¬ i < m := by have := of_decide_eq_false hge; omega
      obtain rfl : i = m := by omega
      conv => whnf
      rw [List.take_of_length_le (by omega)] at hfd
      rw [Nat.sub_self, List.replicate_zero, List.append_nil] at hb2
      exact VEnd.mk ⟨some ⟨w.heap.size, 0, none⟩, i, dn, sliceEq hcm.symm, by omega, (by intro e; cases e), hb2.row, hfd.below hB2, hB2⟩

end Go.Proofs.Ytaiadjkeeifpgaa.Dg

/- The walks of both Tally. Condition: sizes. -/
import Derived.Test.YtmnjmdajgilhiaaDoorJ3
set_option linter.unusedVariables false
set_option linter.unusedSimpArgs false
namespace Go.Proofs.YtmnjmdajgilhiaaDoor.Cl
open Go Go.RowKit Go.Proofs Go.Proofs.YtmnjmdajgilhiaaDoor.Vc Go.Proofs.YtmnjmdajgilhiaaDoor.Ax Go.Proofs.YtmnjmdajgilhiaaDoor.Ky Go.Proofs.YtmnjmdajgilhiaaDoor.Id
attribute [local irreducible] loadVar storeVar Instr.indexAt Instr.index Instr.sliceAt Instr.makeSlice Instr.lookup Instr.mapUpdate Instr.range Instr.next Instr.entry Instr.makeMap Builtin.append_ Builtin.copy_ Builtin.len_ Builtin.min_ Builtin.max_ Builtin.cap_ Builtin.delete_ Builtin.clear_ convert binOp eqGuard Op.unary Calls
/-- how many samples each arm has -/
def tal (n : Nat) (l : List Sm) : List Nat := (List.range n).map fun (k : Nat) => l.countP fun s => decide (s.x.arm = (k : Int) + 1)
def mixN (l : List Sm) : Nat := l.countP fun s => s.mixed
def enN2 (n : Nat) : List FV := [iF (n : Int)]
def nar (k : Int) : Nat := (max 0 (min k 8)).toNat
theorem tal_len (n : Nat) (l : List Sm) : (tal n l).length = n := by unfold tal; simp
theorem tal_get (n : Nat) (l : List Sm) (k : Nat) : (tal n l)[k]? = if k < n then some (l.countP fun s => decide (s.x.arm = (k : Int) + 1)) else none := by
  unfold tal
  rw [List.getElem?_map]
  by_cases h : k < n
  · rw [if_pos h, List.getElem?_eq_getElem (by simpa using h), List.getElem_range]; rfl
  · rw [if_neg h, List.getElem?_eq_none (by simpa using h)]; rfl
theorem tal_nil (n : Nat) : tal n [] = List.replicate n 0 := by
  apply List.ext_getElem?
  intro k
  rw [tal_get, List.getElem?_replicate]
  rfl
theorem tal_in {n : Nat} {l : List Sm} {s : Sm} {k c : Nat} (hk : s.x.arm = (k : Int) + 1) (hn : k < n) (hc : (tal n l)[k]? = some c) : tal n (l ++ [s]) = (tal n l).set k (c + 1) := by
  rw [tal_get, if_pos hn] at hc
  injection hc with hc
  apply List.ext_getElem?
  intro j
  by_cases hj : k = j
  · subst hj
    rw [tal_get, if_pos hn, List.getElem?_set_self (by rw [tal_len]; exact hn), List.countP_append, List.countP_singleton, hc]
    rw [if_pos (by simpa using hk)]
  · rw [List.getElem?_set_ne hj, tal_get, tal_get, List.countP_append, List.countP_singleton]
    have h0 : ¬ (decide (s.x.arm = (j : Int) + 1)) = true := by simp; omega
    simp only [if_neg h0, Nat.add_zero]
theorem tal_out {n : Nat} {l : List Sm} {s : Sm} (h : ∀ k : Nat, k < n → ¬ s.x.arm = (k : Int) + 1) : tal n (l ++ [s]) = tal n l := by
  apply List.ext_getElem?
  intro j
  rw [tal_get, tal_get]
  by_cases hj : j < n
  · rw [if_pos hj, if_pos hj, List.countP_append, List.countP_singleton, if_neg (by simpa using h j hj)]
    rfl
  · rw [if_neg hj, if_neg hj]
theorem tal_le (n : Nat) (l : List Sm) (k c : Nat) (h : (tal n l)[k]? = some c) : c ≤ l.length := by
  rw [tal_get] at h
  split at h
  · injection h with h; rw [← h]; exact List.countP_le_length
  · cases h
theorem mixN_snoc (l : List Sm) (s : Sm) : mixN (l ++ [s]) = mixN l + if s.mixed = true then 1 else 0 := by unfold mixN; rw [List.countP_append, List.countP_singleton]
theorem mixN_le (l : List Sm) : mixN l ≤ l.length := List.countP_le_length
def TalO (s : List Sm) (k : Int) (a : AV) (n : Nat) (H : AHeap) : Prop := a = .tup [.own 0, iv ((mixN s : Nat) : Int)] ∧ n = 1 ∧ H = [(0, .rows 3 1 ((tal (nar k) s).map enN2))]
section
variable {G : Glob}
set_option maxHeartbeats 8000000 in
set_option maxRecDepth 100000 in
theorem tallyA (s : List Sm) (k : Int) (hs : s.length ≤ 1000000) : AFn Tryd.prog G 30 [smL s, iv k] 0 [] (TalO s k) := by
  have hn8 : nar k ≤ 8 := by unfold nar; omega
  have hnk : max (0 : Int) (min k 8) = (nar k : Int) := by unfold nar; omega
  refine afn_of Tryd.func30 rfl mixed (by kernel_rfl) ?_
  unfold TalO
  conv => whnf
  refine AMk.mk' (by_ := 8) (nar k) hnk hnk ⟨by omega, by unfold maxLen; omega⟩ ?_
  generalize nar k = n at *
  conv => whnf
  refine aloop ws30_1 1 [7, 17] (fun i : Nat => [(7, iv ((mixN (s.take i) : Nat) : Int)), (17, iv i)]) (fun i => [(0, .rows 3 1 ((tal n (s.take i)).map enN2))]) (fun i => i ≤ s.length) (fun i => s.length - i) [] [] 0 (by kernel_rfl) (fun _ => rfl) rfl (Nat.zero_le _) ⟨⟨rfl, rfl, ?_⟩, trivial⟩ (by repeat' (first | rfl | trivial | apply And.intro)) ?_
  · rw [List.take_zero, tal_nil, List.map_replicate]
    rfl
  intro i hi
  conv => whnf
  refine vif_split (fun h => ?_) (fun h => ?_)
  rotate_left 1
  · have hie : i = s.length := by simp at h; omega
    subst hie
    rw [List.take_length]
    conv => whnf
    exact aend _ 1 _ [(0, .lab 0)] [] ⟨rfl, rfl, rfl⟩ rfl (by repeat' (first | rfl | trivial | apply And.intro)) (by repeat' (first | rfl | trivial | apply And.intro))
  have hlt : i < s.length := by simp at h; omega
  have hg := List.getElem?_eq_getElem hlt
  have hsn := List.take_succ_eq_append_getElem hlt
  have hml := mixN_le (s.take i)
  have htl := tal_le n (s.take i)
  have hlen : (s.take i).length ≤ 1000000 := by rw [List.length_take]; omega
  generalize s[i] = x at *
  have hm1 := mixN_snoc (s.take i) x
  have ht1 := fun k c => tal_in (n := n) (l := s.take i) (s := x) (k := k) (c := c)
  have ht2 := tal_out (n := n) (l := s.take i) (s := x)
  rw [← hsn] at hm1 ht2
  simp only [← hsn] at ht1
  have htn := tal_len n (s.take i)
  generalize tal n (s.take i) = tl0 at *
  generalize mixN (s.take i) = mx0 at *
  conv => whnf
  refine AIn.mk' i rfl (by rw [List.length_map]; exact hlt) ?_
  conv => whnf
  refine ARd.mapAt hg ?_
  conv => whnf
  refine vif_split (fun h1 => ?_) (fun h1 => ?_)
  rotate_left 1
  · have hT := ht2 fun k hk e => by simp at h1; omega
    conv => whnf
    skip
    refine vif_split (fun hmx => ?_) (fun hmx => ?_)
    · rw [if_pos hmx] at hm1
      conv => whnf
      refine AAr.i64 (by omega) ?_
      conv => whnf
      refine AAr.i64 (by omega) ?_
      conv => whnf
      refine aback (i + 1) [] [] rfl (by show s.length - (i + 1) < s.length - i; omega) hlt ⟨⟨rfl, rfl, ?_⟩, trivial⟩ ⟨congrArg (fun x : Nat => Value.int .i64 (x : Int)) hm1.symm, rfl, trivial⟩
      (rw [hT])
    · rw [if_neg (by rw [hmx]; decide)] at hm1
      conv => whnf
      refine AAr.i64 (by omega) ?_
      conv => whnf
      refine aback (i + 1) [] [] rfl (by show s.length - (i + 1) < s.length - i; omega) hlt ⟨⟨rfl, rfl, ?_⟩, trivial⟩ ⟨congrArg (fun x : Nat => Value.int .i64 (x : Int)) hm1.symm, rfl, trivial⟩
      (rw [hT])
  have h1 : 1 ≤ x.x.arm := by simpa using h1
  conv => whnf
  refine vif_split (fun h2 => ?_) (fun h2 => ?_)
  rotate_left 1
  · have hT := ht2 fun k hk e => by simp [htn] at h2; omega
    conv => whnf
    skip
    refine vif_split (fun hmx => ?_) (fun hmx => ?_)
    · rw [if_pos hmx] at hm1
      conv => whnf
      refine AAr.i64 (by omega) ?_
      conv => whnf
      refine AAr.i64 (by omega) ?_
      conv => whnf
      refine aback (i + 1) [] [] rfl (by show s.length - (i + 1) < s.length - i; omega) hlt ⟨⟨rfl, rfl, ?_⟩, trivial⟩ ⟨congrArg (fun x : Nat => Value.int .i64 (x : Int)) hm1.symm, rfl, trivial⟩
      (rw [hT])
    · rw [if_neg (by rw [hmx]; decide)] at hm1
      conv => whnf
      refine AAr.i64 (by omega) ?_
      conv => whnf
      refine aback (i + 1) [] [] rfl (by show s.length - (i + 1) < s.length - i; omega) hlt ⟨⟨rfl, rfl, ?_⟩, trivial⟩ ⟨congrArg (fun x : Nat => Value.int .i64 (x : Int)) hm1.symm, rfl, trivial⟩
      (rw [hT])
  have h2 : x.x.arm ≤ (n : Int) := by simpa [htn] using h2
  obtain ⟨a, ha⟩ : ∃ a : Nat, x.x.arm = (a : Int) + 1 := ⟨(x.x.arm - 1).toNat, by omega⟩
  have han : a < n := by omega
  have hga := List.getElem?_eq_getElem (show a < tl0.length by omega)
  have hca := htl a _ hga
  have hT := ht1 a _ ha han hga
  generalize tl0[a]'(by omega) = c at *
  conv => whnf
  repeat' (first
    | (refine AIn.mk' a (by omega) (by rw [List.length_map]; omega) ?_; conv => whnf)
    | (refine ARd.mapAt hga ?_; conv => whnf)
    | (refine AAr.i64 (by omega) ?_; conv => whnf))
  skip
  refine vif_split (fun hmx => ?_) (fun hmx => ?_)
  · rw [if_pos hmx] at hm1
    conv => whnf
    refine AAr.i64 (by omega) ?_
    conv => whnf
    refine AAr.i64 (by omega) ?_
    conv => whnf
    refine aback (i + 1) [] [] rfl (by show s.length - (i + 1) < s.length - i; omega) hlt ⟨⟨rfl, rfl, ?_⟩, trivial⟩ ⟨congrArg (fun x : Nat => Value.int .i64 (x : Int)) hm1.symm, rfl, trivial⟩
    (rw [hT, List.map_set]; rfl)
  · rw [if_neg (by rw [hmx]; decide)] at hm1
    conv => whnf
    refine AAr.i64 (by omega) ?_
    conv => whnf
    refine aback (i + 1) [] [] rfl (by show s.length - (i + 1) < s.length - i; omega) hlt ⟨⟨rfl, rfl, ?_⟩, trivial⟩ ⟨congrArg (fun x : Nat => Value.int .i64 (x : Int)) hm1.symm, rfl, trivial⟩
    (rw [hT, List.map_set]; rfl)
set_option maxHeartbeats 8000000 in
set_option maxRecDepth 100000 in
theorem tally2A (s : List Sm) (k : Int) (hs : s.length ≤ 1000000) : AFn Tryd.prog G 31 [smL s, iv k] 0 [] (TalO s k) := by
  have hn8 : nar k ≤ 8 := by unfold nar; omega
  have hnk : max (0 : Int) (min k 8) = (nar k : Int) := by unfold nar; omega
  refine afn_of Tryd.func31 rfl mixed (by kernel_rfl) ?_
  unfold TalO
  conv => whnf
  refine AMk.mk' (by_ := 8) (nar k) hnk hnk ⟨by omega, by unfold maxLen; omega⟩ ?_
  generalize nar k = n at *
  conv => whnf
  refine aloop ws31_1 1 [7, 8] (fun i : Nat => [(7, iv ((mixN (s.take i) : Nat) : Int)), (8, iv i)]) (fun i => [(0, .rows 3 1 ((tal n (s.take i)).map enN2))]) (fun i => i ≤ s.length) (fun i => s.length - i) [] [] 0 (by kernel_rfl) (fun _ => rfl) rfl (Nat.zero_le _) ⟨⟨rfl, rfl, ?_⟩, trivial⟩ (by repeat' (first | rfl | trivial | apply And.intro)) ?_
  · rw [List.take_zero, tal_nil, List.map_replicate]
    rfl
  intro i hi
  conv => whnf
  refine vif_split (fun h => ?_) (fun h => ?_)
  rotate_left 1
  · have hie : i = s.length := by simp at h; omega
    subst hie
    rw [List.take_length]
    conv => whnf
    exact aend _ 1 _ [(0, .lab 0)] [] ⟨rfl, rfl, rfl⟩ rfl (by repeat' (first | rfl | trivial | apply And.intro)) (by repeat' (first | rfl | trivial | apply And.intro))
  have hlt : i < s.length := by simp at h; omega
  have hg := List.getElem?_eq_getElem hlt
  have hsn := List.take_succ_eq_append_getElem hlt
  have hml := mixN_le (s.take i)
  have htl := tal_le n (s.take i)
  have hlen : (s.take i).length ≤ 1000000 := by rw [List.length_take]; omega
  generalize s[i] = x at *
  have hm1 := mixN_snoc (s.take i) x
  have ht1 := fun k c => tal_in (n := n) (l := s.take i) (s := x) (k := k) (c := c)
  have ht2 := tal_out (n := n) (l := s.take i) (s := x)
  rw [← hsn] at hm1 ht2
  simp only [← hsn] at ht1
  have htn := tal_len n (s.take i)
  generalize tal n (s.take i) = tl0 at *
  generalize mixN (s.take i) = mx0 at *
  conv => whnf
  refine AIn.mk' i rfl (by rw [List.length_map]; exact hlt) ?_
  conv => whnf
  refine ARd.mapAt hg ?_
  conv => whnf
  refine vif_split (fun h1 => ?_) (fun h1 => ?_)
  rotate_left 1
  · have hT := ht2 fun k hk e => by simp at h1; omega
    conv => whnf
    (refine AIn.mk' i rfl (by rw [List.length_map]; exact hlt) ?_); (conv => whnf); (refine ARd.mapAt hg ?_); (conv => whnf)
    refine vif_split (fun hmx => ?_) (fun hmx => ?_)
    · rw [if_pos hmx] at hm1
      conv => whnf
      refine AAr.i64 (by omega) ?_
      conv => whnf
      refine AAr.i64 (by omega) ?_
      conv => whnf
      refine aback (i + 1) [] [] rfl (by show s.length - (i + 1) < s.length - i; omega) hlt ⟨⟨rfl, rfl, ?_⟩, trivial⟩ ⟨congrArg (fun x : Nat => Value.int .i64 (x : Int)) hm1.symm, rfl, trivial⟩
      (rw [hT])
    · rw [if_neg (by rw [hmx]; decide)] at hm1
      conv => whnf
      refine AAr.i64 (by omega) ?_
      conv => whnf
      refine aback (i + 1) [] [] rfl (by show s.length - (i + 1) < s.length - i; omega) hlt ⟨⟨rfl, rfl, ?_⟩, trivial⟩ ⟨congrArg (fun x : Nat => Value.int .i64 (x : Int)) hm1.symm, rfl, trivial⟩
      (rw [hT])
  have h1 : 1 ≤ x.x.arm := by simpa using h1
  conv => whnf
  refine vif_split (fun h2 => ?_) (fun h2 => ?_)
  rotate_left 1
  · have hT := ht2 fun k hk e => by simp [htn] at h2; omega
    conv => whnf
    (refine AIn.mk' i rfl (by rw [List.length_map]; exact hlt) ?_); (conv => whnf); (refine ARd.mapAt hg ?_); (conv => whnf)
    refine vif_split (fun hmx => ?_) (fun hmx => ?_)
    · rw [if_pos hmx] at hm1
      conv => whnf
      refine AAr.i64 (by omega) ?_
      conv => whnf
      refine AAr.i64 (by omega) ?_
      conv => whnf
      refine aback (i + 1) [] [] rfl (by show s.length - (i + 1) < s.length - i; omega) hlt ⟨⟨rfl, rfl, ?_⟩, trivial⟩ ⟨congrArg (fun x : Nat => Value.int .i64 (x : Int)) hm1.symm, rfl, trivial⟩
      (rw [hT])
    · rw [if_neg (by rw [hmx]; decide)] at hm1
      conv => whnf
      refine AAr.i64 (by omega) ?_
      conv => whnf
      refine aback (i + 1) [] [] rfl (by show s.length - (i + 1) < s.length - i; omega) hlt ⟨⟨rfl, rfl, ?_⟩, trivial⟩ ⟨congrArg (fun x : Nat => Value.int .i64 (x : Int)) hm1.symm, rfl, trivial⟩
      (rw [hT])
  have h2 : x.x.arm ≤ (n : Int) := by simpa [htn] using h2
  obtain ⟨a, ha⟩ : ∃ a : Nat, x.x.arm = (a : Int) + 1 := ⟨(x.x.arm - 1).toNat, by omega⟩
  have han : a < n := by omega
  have hga := List.getElem?_eq_getElem (show a < tl0.length by omega)
  have hca := htl a _ hga
  have hT := ht1 a _ ha han hga
  generalize tl0[a]'(by omega) = c at *
  conv => whnf
  repeat' (first
    | (refine AIn.mk' a (by omega) (by rw [List.length_map]; omega) ?_; conv => whnf)
    | (refine ARd.mapAt hga ?_; conv => whnf)
    | (refine AAr.i64 (by omega) ?_; conv => whnf))
  (refine AIn.mk' i rfl (by rw [List.length_map]; exact hlt) ?_); (conv => whnf); (refine ARd.mapAt hg ?_); (conv => whnf)
  refine vif_split (fun hmx => ?_) (fun hmx => ?_)
  · rw [if_pos hmx] at hm1
    conv => whnf
    refine AAr.i64 (by omega) ?_
    conv => whnf
    refine AAr.i64 (by omega) ?_
    conv => whnf
    refine aback (i + 1) [] [] rfl (by show s.length - (i + 1) < s.length - i; omega) hlt ⟨⟨rfl, rfl, ?_⟩, trivial⟩ ⟨congrArg (fun x : Nat => Value.int .i64 (x : Int)) hm1.symm, rfl, trivial⟩
    (rw [hT, List.map_set]; rfl)
  · rw [if_neg (by rw [hmx]; decide)] at hm1
    conv => whnf
    refine AAr.i64 (by omega) ?_
    conv => whnf
    refine aback (i + 1) [] [] rfl (by show s.length - (i + 1) < s.length - i; omega) hlt ⟨⟨rfl, rfl, ?_⟩, trivial⟩ ⟨congrArg (fun x : Nat => Value.int .i64 (x : Int)) hm1.symm, rfl, trivial⟩
    (rw [hT, List.map_set]; rfl)
end
end Go.Proofs.YtmnjmdajgilhiaaDoor.Cl

/- The walks of the reference's distinct, index and width. Condition: sizes. -/
import Derived.Test.YtmhpfadbmpipkaaCl14
set_option linter.unusedVariables false
set_option linter.unusedSimpArgs false
namespace Go.Proofs.Ytmhpfadbmpipkaa.Cl
open Go Go.RowKit Go.Proofs Go.Proofs.Ytmhpfadbmpipkaa.Vc Go.Proofs.Ytmhpfadbmpipkaa.Ax
attribute [local irreducible] loadVar storeVar Instr.indexAt Instr.index Instr.sliceAt Instr.makeSlice Instr.lookup Instr.mapUpdate Instr.range Instr.next Instr.entry Instr.makeMap Builtin.append_ Builtin.copy_ Builtin.len_ Builtin.min_ Builtin.max_ Builtin.cap_ Builtin.delete_ Builtin.clear_ convert binOp eqGuard Op.unary Calls
theorem ins_split : ∀ (d : Li) (x : Int) (k : Nat), k ≤ d.length → (∀ j (h1 : j < k) (h2 : j < d.length), d[j] < x) → (∀ h : k < d.length, x ≤ d[k]) → ins d x = if ∃ h : k < d.length, d[k] = x then d else d.take k ++ [x] ++ d.drop k := by
  intro d
  induction d with
  | nil => intro x k hk _ _; have : k = 0 := by simpa using hk
           subst this; simp [ins]
  | cons y r ih =>
    intro x k hk h1 h2
    unfold ins
    cases k with
    | zero =>
      have h3 : x ≤ y := h2 (by simp)
      rw [if_neg (by omega)]
      by_cases e : y = x
      · rw [if_pos e, if_pos ⟨by simp, e⟩]
      · rw [if_neg e, if_neg (by rintro ⟨_, h⟩; exact e h)]; simp
    | succ k =>
      have h3 : y < x := h1 0 (by omega) (by simp)
      rw [if_pos h3]
      have := ih x k (by simpa using hk) (fun j hj hjl => h1 (j + 1) (by omega) (by simp; omega)) (fun h => h2 (by simp; omega))
      rw [this]
      by_cases e : ∃ h : k < r.length, r[k] = x
      · rw [if_pos e, if_pos (by obtain ⟨h, e⟩ := e; exact ⟨by simp; omega, e⟩)]
      · rw [if_neg e, if_neg (by rintro ⟨h, e2⟩; exact e ⟨by simpa using h, e2⟩)]; simp
theorem idx_first {d : Li} {k : Nat} {x : Int} {h : k < d.length} (e : d[k] = x) : idx d x ≤ k := by
  induction d generalizing k with
  | nil => simp at h
  | cons y r ih =>
    unfold idx
    split
    · omega
    · rename_i hy
      cases k with
      | zero => exact absurd e hy
      | succ k => have := ih (k := k) (h := by simpa using h) (by simpa using e); omega
theorem wid_succ (f v : Nat) : wid (f + 1) v = if v = 0 then 0 else wid f (v / 2) + 1 := rfl
theorem ins_rows (d : Li) (x : Int) (k : Nat) : [] ++ ((d.map enI).drop 0).take (k - 0) ++ [[FV.v (Value.int .i64 x)]] ++ ((d.map enI).drop k).take (d.length - k) = (d.take k ++ [x] ++ d.drop k).map enI := by
  rw [List.nil_append, List.drop_zero, Nat.sub_zero, List.take_of_length_le (by simp : ((d.map enI).drop k).length ≤ d.length - k), List.map_append, List.map_append, List.map_take, List.map_drop]
  rfl
set_option maxHeartbeats 8000000 in
set_option maxRecDepth 100000 in
theorem distinctA (l : Li) (hs : l.length ≤ 1000000) : AFn Try.prog GC 39 [li l] 0 [] (Own1 3 1 ((ds l).map enI)) := by
  refine afn_of Try.func39 rfl mixed (by kernel_rfl) ?_
  conv => whnf
  refine aloop ws39_1 1 [3, 4] (fun i : Nat => [(3, .own 0), (4, iv i)]) (fun i => [(0, .rows 3 1 ((ds (l.take i)).map enI))]) (fun i => i ≤ l.length) (fun i => l.length - i) [(0, .nil)] [] 0 (by kernel_rfl) (fun _ => rfl) rfl (Nat.zero_le _) ⟨rfl, trivial⟩ ⟨trivial, rfl, trivial⟩ ?_
  rintro i hi
  have hdl := ds_len (l.take i)
  rw [List.length_take] at hdl
  conv => whnf
  refine vif_split (fun h => ?_) (fun h => ?_)
  rotate_left 1
  · have : i = l.length := by simp at h; omega
    subst this
    conv => whnf
    rw [List.take_length]
    exact aend (.own 0) 1 _ [(0, .lab 0)] [] ⟨rfl, rfl, rfl⟩ rfl (by repeat' (first | rfl | trivial | apply And.intro)) (by repeat' (first | rfl | trivial | apply And.intro))
  have hlt : i < l.length := by simp at h; omega
  have hnext : ds (l.take (i + 1)) = ins (ds (l.take i)) l[i] := by rw [List.take_succ_eq_append_getElem hlt, ds_snoc]
  generalize hd : ds (l.take i) = d at *
  conv => whnf
  refine aloopH ws39_2 [5] (fun k : Nat => [(5, iv k)]) (fun k => k ≤ d.length ∧ ∀ j (h1 : j < k) (h2 : j < d.length), d[j] < l[i]) (fun k => d.length - k) 0 (by kernel_rfl) (fun _ => rfl) (by kernel_rfl) ⟨Nat.zero_le _, fun j h1 => absurd h1 (Nat.not_lt_zero j)⟩ (by repeat' (first | rfl | trivial | apply And.intro)) (by repeat' (first | rfl | trivial | apply And.intro)) ?_
  rintro k ⟨hk, hno⟩
  conv => whnf
  (refine adraw pln39 [] (by kernel_rfl) ?_; conv => whnf)
  (repeat' (first | (refine And.intro ?_ ?_ <;> (conv => whnf)) | (refine vif_split (fun h => ?_) (fun h => ?_) <;> (try simp only [sEqD, cond_true, cond_false, Bool.not_eq_true', Bool.not_eq_false', decide_eq_true_eq, decide_eq_false_iff_not, beq_iff_eq, bne_iff_ne, beq_eq_false_iff_ne, bne_eq_false_iff_eq, ne_eq, Bool.not_eq_eq_eq_not, Bool.not_true, Bool.not_false, Bool.false_eq_true, Bool.true_eq_false, Decidable.not_not, gt_iff_lt, ge_iff_le, Int.not_lt, Int.not_le] at h) <;> (conv => whnf)) | (refine AAr.i64 (by first | omega | ((try simp only [List.length_map] at *); omega)) ?_; conv => whnf) | (refine AIn.mk' _ rfl (by first | omega | (simp only [List.length_map, List.length_append, List.length_cons, List.length_nil, List.length_take, List.length_drop, List.length_set, List.length_replicate]; omega) | (simp only [List.length_map, List.length_append, List.length_cons, List.length_nil, List.length_take, List.length_drop, List.length_set, List.length_replicate] at *; omega)) ?_; conv => whnf) | (refine ARd.mapAt (by assumption) ?_; conv => whnf) | (refine ARd.set (by (try simp only [List.length_map, List.length_append, List.length_cons, List.length_nil, List.length_take, List.length_drop, List.length_set, List.length_replicate] at *); omega) ?_; conv => whnf) | (refine ARd.map (by first | omega | (simp only [List.length_map] at *; omega)) ?_; conv => whnf) | (refine VReq.mk (by first | decide | omega) ?_; conv => whnf) | (refine AEq.mk (by kernel_rfl) rfl rfl ?_; conv => whnf) | (refine VReq.mk (app_ok (by (try simp only [List.length_map, List.length_append, List.length_cons, List.length_nil, List.length_take, List.length_drop, List.length_set, List.length_replicate] at *); omega) (by kernel_rfl)) ?_; conv => whnf)))
  · rename_i h1
    have hkl : k < d.length := by simp at h1; omega
    exact aback (k + 1) [] [] rfl (by show d.length - (k + 1) < d.length - k; omega) ⟨hkl, fun j h2 h3 => by
      rcases Nat.lt_or_ge j k with h4 | h4
      · exact hno j h4 h3
      · have : j = k := by omega
        subst this; exact h⟩ (by repeat' (first | rfl | trivial | apply And.intro)) ⟨rfl, trivial⟩
  · rename_i h1
    have hkl : k < d.length := by simp at h1; omega
    have hins := ins_split d l[i] k hk hno fun _ => h
    (refine adraw pln39 [] (by kernel_rfl) ?_; conv => whnf)
    (repeat' (first | (refine And.intro ?_ ?_ <;> (conv => whnf)) | (refine vif_split (fun h => ?_) (fun h => ?_) <;> (try simp only [sEqD, cond_true, cond_false, Bool.not_eq_true', Bool.not_eq_false', decide_eq_true_eq, decide_eq_false_iff_not, beq_iff_eq, bne_iff_ne, beq_eq_false_iff_ne, bne_eq_false_iff_eq, ne_eq, Bool.not_eq_eq_eq_not, Bool.not_true, Bool.not_false, Bool.false_eq_true, Bool.true_eq_false, Decidable.not_not, gt_iff_lt, ge_iff_le, Int.not_lt, Int.not_le] at h) <;> (conv => whnf)) | (refine AAr.i64 (by first | omega | ((try simp only [List.length_map] at *); omega)) ?_; conv => whnf) | (refine AIn.mk' _ rfl (by first | omega | (simp only [List.length_map, List.length_append, List.length_cons, List.length_nil, List.length_take, List.length_drop, List.length_set, List.length_replicate]; omega) | (simp only [List.length_map, List.length_append, List.length_cons, List.length_nil, List.length_take, List.length_drop, List.length_set, List.length_replicate] at *; omega)) ?_; conv => whnf) | (refine ARd.mapAt (by assumption) ?_; conv => whnf) | (refine ARd.set (by (try simp only [List.length_map, List.length_append, List.length_cons, List.length_nil, List.length_take, List.length_drop, List.length_set, List.length_replicate] at *); omega) ?_; conv => whnf) | (refine ARd.map (by first | omega | (simp only [List.length_map] at *; omega)) ?_; conv => whnf) | (refine VReq.mk (by first | decide | omega) ?_; conv => whnf) | (refine AEq.mk (by kernel_rfl) rfl rfl ?_; conv => whnf) | (refine VReq.mk (app_ok (by (try simp only [List.length_map, List.length_append, List.length_cons, List.length_nil, List.length_take, List.length_drop, List.length_set, List.length_replicate] at *); omega) (by kernel_rfl)) ?_; conv => whnf)))
    · exfalso; rename_i h3; simp only [List.length_map] at *; omega
    · rename_i h3
      rw [if_neg (by rintro ⟨_, h4⟩; exact h h4)] at hins
      · skip
        (refine adraw pln39 [0, 1, 2, 3, 4, 5] (by kernel_rfl) ?_; conv => whnf)
        repeat' (first
          | (refine And.intro ?_ ?_ <;> (conv => whnf))
          | (refine ABd.mk' 0 k rfl rfl (Nat.zero_le _) (by rw [List.length_map]; omega) ?_; conv => whnf)
          | (refine ABd.mk' k d.length rfl (by rw [List.length_map]) hk (by rw [List.length_map]; exact Nat.le_refl _) ?_; conv => whnf)
          | (refine AIn.mk' i rfl (by rw [List.length_map]; exact hlt) ?_; conv => whnf)
          | (refine ARd.map hlt ?_; conv => whnf)
          | (refine VReq.mk (app_ok (by (try simp only [List.length_map, List.length_append, List.length_cons, List.length_nil, List.length_take, List.length_drop, List.length_set, List.length_replicate] at *); omega) (by kernel_rfl)) ?_; conv => whnf))
        all_goals
          refine AAr.i64 (x := (i : Int) + 1) (by omega) ?_
          conv => whnf
          refine aback (i + 1) [(0, .lab 5)] [] rfl (by show l.length - (i + 1) < l.length - i; omega) hlt ⟨⟨rfl, rfl, ?_⟩, trivial⟩ ⟨rfl, rfl, trivial⟩
          rw [hnext, hins]
          exact ins_rows d l[i] k
    · rename_i h3
      rw [if_pos ⟨hkl, h⟩] at hins
      exact aback (i + 1) [(0, .lab 0)] [] rfl (by show l.length - (i + 1) < l.length - i; omega) hlt ⟨⟨rfl, rfl, by rw [hnext, hins]⟩, trivial⟩ ⟨rfl, rfl, trivial⟩
  · have hkl : k = d.length := by simp at h; omega
    have hins := ins_split d l[i] k hk hno fun h => by omega
    rw [if_neg (by rintro ⟨h, _⟩; omega)] at hins
    (refine adraw pln39 [] (by kernel_rfl) ?_; conv => whnf)
    refine vif_split (fun h5 => ?_) (fun h5 => ?_)
    rotate_left 1
    · exfalso; simp at h5; omega
    conv => whnf
    · skip
      · skip
        (refine adraw pln39 [0, 1, 2, 3, 4, 5] (by kernel_rfl) ?_; conv => whnf)
        repeat' (first
          | (refine And.intro ?_ ?_ <;> (conv => whnf))
          | (refine ABd.mk' 0 k rfl rfl (Nat.zero_le _) (by rw [List.length_map]; omega) ?_; conv => whnf)
          | (refine ABd.mk' k d.length rfl (by rw [List.length_map]) hk (by rw [List.length_map]; exact Nat.le_refl _) ?_; conv => whnf)
          | (refine AIn.mk' i rfl (by rw [List.length_map]; exact hlt) ?_; conv => whnf)
          | (refine ARd.map hlt ?_; conv => whnf)
          | (refine VReq.mk (app_ok (by (try simp only [List.length_map, List.length_append, List.length_cons, List.length_nil, List.length_take, List.length_drop, List.length_set, List.length_replicate] at *); omega) (by kernel_rfl)) ?_; conv => whnf))
        all_goals
          refine AAr.i64 (x := (i : Int) + 1) (by omega) ?_
          conv => whnf
          refine aback (i + 1) [(0, .lab 5)] [] rfl (by show l.length - (i + 1) < l.length - i; omega) hlt ⟨⟨rfl, rfl, ?_⟩, trivial⟩ ⟨rfl, rfl, trivial⟩
          rw [hnext, hins]
          exact ins_rows d l[i] k
set_option maxHeartbeats 4000000 in
set_option maxRecDepth 100000 in
theorem indexA (d : Li) (x : Int) (hx : x ∈ d) (hs : d.length ≤ 1000000) : AFn Try.prog GC 40 [li d, iv x] 0 [] (Is (iv (idx d x))) := by
  have hi := idx_lt hx
  refine afn_of Try.func40 rfl mixed (by kernel_rfl) ?_
  conv => whnf
  refine aloopH ws40_1 [5] (fun k : Nat => [(5, iv k)]) (fun k => k ≤ idx d x) (fun k => d.length - k) 0 (by kernel_rfl) (fun _ => rfl) (by kernel_rfl) (Nat.zero_le _) (by repeat' (first | rfl | trivial | apply And.intro)) (by repeat' (first | rfl | trivial | apply And.intro)) ?_
  rintro k hk
  have hkl : k < d.length := by omega
  conv => whnf
  refine vif_split (fun h => ?_) (fun h => ?_)
  rotate_left 1
  · exfalso; simp at h; omega
  conv => whnf
  refine AIn.mk' k rfl (by rw [List.length_map]; exact hkl) ?_
  conv => whnf
  refine ARd.map hkl ?_
  conv => whnf
  refine vif_split (fun h => ?_) (fun h => ?_)
  · have e : d[k] = x := by simpa using h
    have e2 : idx d x = k := by
      have := idx_first e
      omega
    conv => whnf
    rw [e2]
    exact aret [] (by repeat' (first | rfl | trivial | apply And.intro))
  · have e : d[k] ≠ x := by simpa using h
    have e2 : k ≠ idx d x := fun e2 => by subst e2; exact e (by have := hi.2; rw [List.getElem?_eq_getElem hkl] at this; injection this)
    conv => whnf
    refine AAr.i64 (by omega) ?_
    conv => whnf
    exact aback (k + 1) [] [] rfl (by show d.length - (k + 1) < d.length - k; omega) (by show k + 1 ≤ idx d x; omega) trivial ⟨rfl, trivial⟩
set_option maxHeartbeats 4000000 in
set_option maxRecDepth 100000 in
theorem widthA (u : Nat) (hu : u < 18446744073709551616) : AFn Try.prog GC 41 [uv u] 0 [] (Is (iv (wid 64 u))) := by
  refine afn_of Try.func41 rfl mixed (by kernel_rfl) ?_
  conv => whnf
  refine aloop ws41_1 0 [0, 3] (fun x : NX => [(0, uv x.u), (3, iv x.i)]) (fun _ => []) (fun x => x.i ≤ 64 ∧ x.u < 2 ^ (64 - x.i) ∧ x.i + wid (64 - x.i) x.u = wid 64 u) (fun x => 64 - x.i) [] [] ⟨0, u⟩ (by kernel_rfl) (fun _ => rfl) rfl ⟨Nat.zero_le _, hu, Nat.zero_add _⟩ trivial ⟨rfl, rfl, trivial⟩ ?_
  rintro ⟨i, v⟩ ⟨hi, hv, hw⟩
  change i ≤ 64 at hi
  change v < 2 ^ (64 - i) at hv
  change i + wid (64 - i) v = wid 64 u at hw
  conv => whnf
  refine vif_split (fun h => ?_) (fun h => ?_)
  · have h0 : v ≠ 0 := by simp at h; omega
    obtain ⟨f, hf⟩ : ∃ f, 64 - i = f + 1 := by
      cases he : 64 - i with
      | zero => rw [he] at hv; simp at hv; omega
      | succ f => exact ⟨f, rfl⟩
    rw [hf] at hv hw
    rw [wid_succ, if_neg h0] at hw
    have hv2 : v / 2 < 2 ^ f := by rw [Nat.pow_succ] at hv; omega
    have hf2 : 64 - (i + 1) = f := by omega
    conv => whnf
    refine VReq.mk (by decide) ?_
    conv => whnf
    refine AAr.i64 (x := (i : Int) + 1) (by omega) ?_
    conv => whnf
    exact aback ⟨i + 1, v / 2⟩ [] [] rfl (by show 64 - (i + 1) < 64 - i; omega) ⟨by show i + 1 ≤ 64; omega, by show v / 2 < 2 ^ (64 - (i + 1)); rw [hf2]; exact hv2, by show i + 1 + wid (64 - (i + 1)) (v / 2) = _; rw [hf2]; omega⟩ trivial ⟨congrArg (Value.int .u64) (shrk1 v), rfl, trivial⟩
  · have h0 : v = 0 := by simp at h; omega
    subst h0
    have : wid (64 - i) 0 = 0 := by cases 64 - i <;> simp [wid]
    rw [this] at hw
    conv => whnf
    rw [← hw]
    exact aret [] (by repeat' (first | rfl | trivial | apply And.intro))
end Go.Proofs.Ytmhpfadbmpipkaa.Cl

/- The walks of the made numbers. Condition: none beside the kinds' bounds. -/
import Derived.Test.YtmhpfadbmpipkaaCl12
set_option linter.unusedVariables false
set_option linter.unusedSimpArgs false
namespace Go.Proofs.Ytmhpfadbmpipkaa.Cl
open Go Go.RowKit Go.Proofs Go.Proofs.Ytmhpfadbmpipkaa.Vc Go.Proofs.Ytmhpfadbmpipkaa.Ax
attribute [local irreducible] loadVar storeVar Instr.indexAt Instr.index Instr.sliceAt Instr.makeSlice Instr.lookup Instr.mapUpdate Instr.range Instr.next Instr.entry Instr.makeMap Builtin.append_ Builtin.copy_ Builtin.len_ Builtin.min_ Builtin.max_ Builtin.cap_ Builtin.delete_ Builtin.clear_ convert binOp eqGuard Op.unary Calls
abbrev i16s (l : Li) : AV := .lst 1 (l.map (Ax.en1 (Value.int .i16)))
def I16 (x : Int) : Prop := -32768 ≤ x ∧ x ≤ 32767
theorem snocI (out : Li) (v : Int) : (out ++ [v]).map enI = out.map enI ++ [[FV.v (.int .i64 v)]] := by rw [List.map_append]; rfl
/-- some numbers of 64 bits -/
def OwnI (most : Nat) (a : AV) (n : Nat) (H : AHeap) : Prop := ∃ x : Li, AllI x ∧ x.length ≤ most ∧ a = li x ∧ n = 0 ∧ H = []
theorem tmod_i {x m : Int} (hm : 0 < m) (hm2 : m ≤ 1000000) : I64 (Int.tmod x m) := by
  have h1 := Int.tmod_lt_of_pos x hm
  have h2 : -m < Int.tmod x m := by
    rcases Int.le_total 0 x with h | h
    · have := Int.tmod_nonneg m h; omega
    · have : Int.tmod x m = - Int.tmod (-x) m := by rw [Int.neg_tmod]; omega
      have h3 := Int.tmod_lt_of_pos (-x) hm
      omega
  unfold I64; omega
set_option maxHeartbeats 8000000 in
set_option maxRecDepth 100000 in
theorem dataA (l : Li) (kind : Nat) (hl : ∀ x ∈ l, I16 x) (hk : kind < 256) : AFn Try.prog GC 8 [i16s l, u8v kind] 0 [] (OwnI 200) := by
  refine afn_of Try.func8 rfl mixed (by kernel_rfl) ?_
  conv => whnf
  refine aloop ws8_1 1 [5, 6] (fun x : BX => [(5, .own 0), (6, iv x.i)]) (fun x => [(0, .rows 3 1 (x.out.map enI))]) (fun x => x.i ≤ 200 ∧ x.out.length = x.i ∧ AllI x.out) (fun x => 200 - x.i) [(0, .nil)] [] ⟨0, []⟩ (by kernel_rfl) (fun _ => rfl) rfl ⟨Nat.zero_le _, rfl, AllI.nil⟩ ⟨rfl, trivial⟩ ⟨trivial, rfl, trivial⟩ ?_
  rintro ⟨i, out⟩ ⟨hi, hol, hall⟩
  change i ≤ 200 at hi
  change out.length = i at hol
  change AllI out at hall
  conv => whnf
  refine vif_split (fun h1 => ?_) (fun h1 => ?_)
  rotate_left 1
  · conv => whnf
    exact aend (li out) 0 [] [] [0] ⟨out, hall, by omega, rfl, rfl, rfl⟩ rfl trivial ⟨rfl, rfl, rfl⟩
  have hil : i < l.length := by simp at h1; omega
  conv => whnf
  refine vif_split (fun h2 => ?_) (fun h2 => ?_)
  rotate_left 1
  · conv => whnf
    exact aend (li out) 0 [] [] [0] ⟨out, hall, by omega, rfl, rfl, rfl⟩ rfl trivial ⟨rfl, rfl, rfl⟩
  have hi2 : i < 200 := by simp at h2; omega
  conv => whnf
  refine AIn.mk' i rfl (by rw [List.length_map]; exact hil) ?_
  conv => whnf
  refine ARd.map hil ?_
  conv => whnf
  have hx := hl _ (List.getElem_mem hil)
  generalize l[i] = x at *
  have hx2 : -32768 ≤ x ∧ x ≤ 32767 := hx
  refine AAr.i64 (by omega) ?_
  conv => whnf
  refine VReq.mk (by decide) ?_
  conv => whnf
  refine vif_split (fun h3 => ?_) (fun h3 => ?_)
  · conv => whnf
    refine VReq.mk (by decide) ?_
    conv => whnf
    refine VReq.mk (app_ok (by simp only [List.length_map, List.length_append, List.length_cons, List.length_nil]; omega) (by kernel_rfl)) ?_
    conv => whnf
    refine AAr.i64 (x := (i : Int) + 1) (by omega) ?_
    conv => whnf
    exact aback ⟨i + 1, out ++ [Int.tmod x 3]⟩ [(0, .lab 2)] [] rfl (by show 200 - (i + 1) < 200 - i; omega) ⟨hi2, by show (out ++ [Int.tmod x 3]).length = i + 1; simp [hol], hall.snoc (tmod_i (by decide) (by decide))⟩ ⟨⟨rfl, rfl, (snocI out _).symm⟩, trivial⟩ ⟨rfl, rfl, trivial⟩
  conv => whnf
  refine vif_split (fun h4 => ?_) (fun h4 => ?_)
  · conv => whnf
    refine VReq.mk (by decide) ?_
    conv => whnf
    refine AAr.to rfl ?_
    conv => whnf
    refine VReq.mk (app_ok (by simp only [List.length_map, List.length_append, List.length_cons, List.length_nil]; omega) (by kernel_rfl)) ?_
    conv => whnf
    refine AAr.i64 (x := (i : Int) + 1) (by omega) ?_
    conv => whnf
    exact aback ⟨i + 1, out ++ [w64 (Int.tdiv x 8000)]⟩ [(0, .lab 2)] [] rfl (by show 200 - (i + 1) < 200 - i; omega) ⟨hi2, by show (out ++ [w64 (Int.tdiv x 8000)]).length = i + 1; simp [hol], hall.snoc (w64_i _)⟩ ⟨⟨rfl, rfl, (snocI out _).symm⟩, trivial⟩ ⟨rfl, rfl, trivial⟩
  conv => whnf
  refine vif_split (fun h5 => ?_) (fun h5 => ?_)
  · conv => whnf
    refine VReq.mk (by decide) ?_
    conv => whnf
    refine AAr.to rfl ?_
    conv => whnf
    refine AAr.to rfl ?_
    conv => whnf
    refine VReq.mk (app_ok (by simp only [List.length_map, List.length_append, List.length_cons, List.length_nil]; omega) (by kernel_rfl)) ?_
    conv => whnf
    refine AAr.i64 (x := (i : Int) + 1) (by omega) ?_
    conv => whnf
    exact aback ⟨i + 1, out ++ [w64 (Int.tmod x 5 + w64 ((i : Int) * 1000))]⟩ [(0, .lab 2)] [] rfl (by show 200 - (i + 1) < 200 - i; omega) ⟨hi2, by show (out ++ [w64 (Int.tmod x 5 + w64 ((i : Int) * 1000))]).length = i + 1; simp [hol], hall.snoc (w64_i _)⟩ ⟨⟨rfl, rfl, (snocI out _).symm⟩, trivial⟩ ⟨rfl, rfl, trivial⟩
  conv => whnf
  refine vif_split (fun h6 => ?_) (fun h6 => ?_)
  · conv => whnf
    refine VReq.mk (by decide) ?_
    conv => whnf
    refine AAr.to rfl ?_
    conv => whnf
    refine VReq.mk (app_ok (by simp only [List.length_map, List.length_append, List.length_cons, List.length_nil]; omega) (by kernel_rfl)) ?_
    conv => whnf
    refine AAr.i64 (x := (i : Int) + 1) (by omega) ?_
    conv => whnf
    exact aback ⟨i + 1, out ++ [w64 (x * 2 ^ min (Int.toNat 48) IntKind.i64.bits)]⟩ [(0, .lab 2)] [] rfl (by show 200 - (i + 1) < 200 - i; omega) ⟨hi2, by show (out ++ [w64 (x * 2 ^ min (Int.toNat 48) IntKind.i64.bits)]).length = i + 1; simp [hol], hall.snoc (w64_i _)⟩ ⟨⟨rfl, rfl, (snocI out _).symm⟩, trivial⟩ ⟨rfl, rfl, trivial⟩
  conv => whnf
  refine vif_split (fun h7 => ?_) (fun h7 => ?_)
  · conv => whnf
    refine VReq.mk (by decide) ?_
    conv => whnf
    refine AAr.to rfl ?_
    conv => whnf
    refine AAr.to rfl ?_
    conv => whnf
    refine VReq.mk (app_ok (by simp only [List.length_map, List.length_append, List.length_cons, List.length_nil]; omega) (by kernel_rfl)) ?_
    conv => whnf
    refine AAr.i64 (x := (i : Int) + 1) (by omega) ?_
    conv => whnf
    exact aback ⟨i + 1, out ++ [w64 (w64 (Int.tmod x 7 * 1000000007) - 5)]⟩ [(0, .lab 2)] [] rfl (by show 200 - (i + 1) < 200 - i; omega) ⟨hi2, by show (out ++ [w64 (w64 (Int.tmod x 7 * 1000000007) - 5)]).length = i + 1; simp [hol], hall.snoc (w64_i _)⟩ ⟨⟨rfl, rfl, (snocI out _).symm⟩, trivial⟩ ⟨rfl, rfl, trivial⟩
  · conv => whnf
    refine VReq.mk (app_ok (by simp only [List.length_map, List.length_append, List.length_cons, List.length_nil]; omega) (by kernel_rfl)) ?_
    conv => whnf
    refine AAr.i64 (x := (i : Int) + 1) (by omega) ?_
    conv => whnf
    exact aback ⟨i + 1, out ++ [x]⟩ [(0, .lab 2)] [] rfl (by show 200 - (i + 1) < 200 - i; omega) ⟨hi2, by show (out ++ [x]).length = i + 1; simp [hol], hall.snoc (by unfold I64; omega)⟩ ⟨⟨rfl, rfl, (snocI out _).symm⟩, trivial⟩ ⟨rfl, rfl, trivial⟩
set_option maxHeartbeats 4000000 in
set_option maxRecDepth 100000 in
theorem sameI (a b : Li) (ha : a.length ≤ 1000000) : AFn Try.prog GC 14 [li a, li b] 0 [] (Is (bv (decide (a = b)))) := by
  refine afn_of Try.func14 rfl mixed (by kernel_rfl) ?_
  conv => whnf
  refine vif_split (fun h => ?_) (fun h => ?_)
  · conv => whnf
    refine aret [] (congrArg Value.bool ?_)
    refine (decide_eq_false fun e => ?_).symm
    subst e
    simp at h
  have hl : a.length = b.length := by simp at h; omega
  conv => whnf
  refine aloopH ws14_1 [5] (fun k : Nat => [(5, iv k)]) (fun k => k ≤ a.length ∧ ∀ j (h1 : j < k) (h2 : j < a.length) (h3 : j < b.length), a[j] = b[j]) (fun k => a.length - k) 0 (by kernel_rfl) (fun _ => rfl) (by kernel_rfl) ⟨Nat.zero_le _, fun j h1 => absurd h1 (Nat.not_lt_zero j)⟩ (by repeat' (first | rfl | trivial | apply And.intro)) (by repeat' (first | rfl | trivial | apply And.intro)) ?_
  rintro k ⟨hk, hno⟩
  conv => whnf
  refine vif_split (fun hlt => ?_) (fun hge => ?_)
  · have hlt : k < a.length := by simp at hlt; omega
    have hlb : k < b.length := by omega
    conv => whnf
    (refine adraw pln14 [] (by kernel_rfl) ?_; conv => whnf)
    (repeat' (first | (refine And.intro ?_ ?_ <;> (conv => whnf)) | (refine vif_split (fun h => ?_) (fun h => ?_) <;> (try simp only [sEqD, cond_true, cond_false, Bool.not_eq_true', Bool.not_eq_false', decide_eq_true_eq, decide_eq_false_iff_not, beq_iff_eq, bne_iff_ne, beq_eq_false_iff_ne, bne_eq_false_iff_eq, ne_eq, Bool.not_eq_eq_eq_not, Bool.not_true, Bool.not_false, Bool.false_eq_true, Bool.true_eq_false, Decidable.not_not, gt_iff_lt, ge_iff_le, Int.not_lt, Int.not_le] at h) <;> (conv => whnf)) | (refine AAr.i64 (by first | omega | ((try simp only [List.length_map] at *); omega)) ?_; conv => whnf) | (refine AIn.mk' _ rfl (by first | omega | (simp only [List.length_map, List.length_append, List.length_cons, List.length_nil, List.length_take, List.length_drop, List.length_set, List.length_replicate]; omega) | (simp only [List.length_map, List.length_append, List.length_cons, List.length_nil, List.length_take, List.length_drop, List.length_set, List.length_replicate] at *; omega)) ?_; conv => whnf) | (refine ARd.mapAt (by assumption) ?_; conv => whnf) | (refine ARd.set (by (try simp only [List.length_map, List.length_append, List.length_cons, List.length_nil, List.length_take, List.length_drop, List.length_set, List.length_replicate] at *); omega) ?_; conv => whnf) | (refine ARd.map (by first | omega | (simp only [List.length_map] at *; omega)) ?_; conv => whnf) | (refine VReq.mk (by first | decide | omega) ?_; conv => whnf) | (refine AEq.mk (by kernel_rfl) rfl rfl ?_; conv => whnf) | (refine VReq.mk (app_ok (by (try simp only [List.length_map, List.length_append, List.length_cons, List.length_nil, List.length_take, List.length_drop, List.length_set, List.length_replicate] at *); omega) (by kernel_rfl)) ?_; conv => whnf)))
    · refine aret [] (congrArg Value.bool ?_)
      exact (decide_eq_false fun e => h (by subst e; rfl)).symm
    · refine aback (k + 1) [] [] rfl (by show a.length - (k + 1) < a.length - k; omega) ⟨hlt, fun j h1 h2 h3 => ?_⟩ trivial ⟨rfl, trivial⟩
      rcases Nat.lt_or_ge j k with h4 | h4
      · exact hno j h4 h2 h3
      · have : j = k := by omega
        subst this; exact h
  · have : k = a.length := by simp at hge; omega
    subst this
    conv => whnf
    refine aret [] (congrArg Value.bool ?_)
    exact (decide_eq_true (List.ext_getElem hl fun j h1 h2 => hno j h1 h1 h2)).symm
end Go.Proofs.Ytmhpfadbmpipkaa.Cl

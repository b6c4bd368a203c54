/- bits.Mul, and the walk of slices.Repeat on one number. Condition: sizes. -/
import Derived.Test.YtmhpfadbmpipkaaGreatCl14
set_option linter.unusedVariables false
set_option linter.unusedSimpArgs false
namespace Go.Proofs.YtmhpfadbmpipkaaGreat.Cl
open Go Go.RowKit Go.Proofs Go.Proofs.YtmhpfadbmpipkaaGreat.Vc Go.Proofs.YtmhpfadbmpipkaaGreat.Ax
attribute [local irreducible] loadVar storeVar Instr.indexAt Instr.index Instr.sliceAt Instr.makeSlice Instr.lookup Instr.mapUpdate Instr.range Instr.next Instr.entry Instr.makeMap Builtin.append_ Builtin.copy_ Builtin.len_ Builtin.min_ Builtin.max_ Builtin.cap_ Builtin.delete_ Builtin.clear_ convert binOp eqGuard Op.unary Calls
theorem afn_pair {f : FuncId} {l : List Value} {x y : Value} (h : ∀ w, Ret Tryz.prog f l.toArray w fun v w' => v = .tuple #[x, y] ∧ Below w.heap.size w w') : AFn Tryz.prog GC f (l.map .v) 0 [] (Is (.tup [.v x, .v y])) := by
  intro w σ F vs st r
  refine (afn_of_ret (G := GC) (x := .tuple #[x, y]) (fun w _ => h w) w σ F vs st r).mono fun v w' ⟨a, n', σ', F', H', ⟨e1, e2, e3⟩, s, x', ra⟩ => ?_
  subst e1; subst e2; subst e3
  refine ⟨.tup [.v x, .v y], 0, σ', F', [], ⟨rfl, rfl, rfl⟩, s, x', ?_⟩
  rw [ra.v_eq]
  exact RepL.tup («as» := [.v x, .v y]) (vs := [x, y]) ⟨.v _, .v _, trivial⟩
theorem mulA (x y : Nat) (hx : x < 18446744073709551616) (hy : y < 18446744073709551616) : AFn Tryz.prog GC 87 [uv x, uv y] 0 [] (Is (.tup [uv (x * y / 18446744073709551616), uv (x * y % 18446744073709551616)])) :=
  afn_pair (l := [.int .u64 (x : Int), .int .u64 (y : Int)]) fun w => Calls.mono (Tryz.bits_Mul x y hx hy w) fun e w' ⟨h1, h2⟩ => ⟨_, h1, rfl, by rw [h2]; exact Below.refl _ _⟩
/-- n times x, and zeros up to k -/
def rep0 (x : Int) (n k : Nat) : List (List FV) := (List.replicate n x ++ List.replicate (k - n) 0).map enI
theorem rep0_len (x : Int) {n k : Nat} (h : n ≤ k) : (rep0 x n k).length = k := by simp [rep0]; omega
theorem splice_rep (x : Int) {n c k : Nat} (h : n + c ≤ k) (ys : List (List FV)) (hy : ys = List.replicate c (enI x)) : splice (rep0 x n k) n ys = rep0 x (n + c) k := by
  subst hy
  unfold splice rep0
  rw [List.length_replicate, List.map_append, List.map_append, List.map_replicate, List.map_replicate, List.map_replicate, List.map_replicate]
  rw [List.take_left' (by simp), List.drop_append, List.length_replicate, List.drop_eq_nil_of_le (by simp), List.nil_append, List.drop_replicate, List.replicate_append_replicate]
  congr 2
  omega
set_option maxHeartbeats 8000000 in
set_option maxRecDepth 100000 in
theorem repeatA (x : Int) (k : Nat) (hk : 1 ≤ k) (hk2 : k ≤ 100000) : AFn Tryz.prog GC 75 [li [x], iv k] 0 [] (Own1 3 1 ((List.replicate k x).map enI)) := by
  have hm := mulA 1 k (by decide) (by omega)
  refine afn_of Tryz.func75 rfl mixed (by kernel_rfl) ?_
  conv => whnf
  refine AAr.to (y := ((1 : Nat) : Int)) (wr_u64 (n := 1) (by decide)) ?_
  conv => whnf
  refine AAr.to (y := ((k : Nat) : Int)) (wr_u64 (by omega)) ?_
  conv => whnf
  (refine acall [] (by kernel_rfl) (hm) rfl ?_ ?_; (focus (repeat' (first | rfl | trivial | apply And.intro))))
  conv => whnf
  refine vif_split (fun h => ?_) (fun h => ?_)
  · exfalso; simp at h; omega
  conv => whnf
  refine vif_split (fun h => ?_) (fun h => ?_)
  · exfalso; simp at h; omega
  conv => whnf
  refine AAr.to (y := ((k : Nat) : Int)) (by
    have e : 1 * k % 18446744073709551616 = k := by omega
    rw [e]; exact IntWalk.i64_in _ (by omega)) ?_
  conv => whnf
  refine AMk.mk' (by_ := 8) k rfl rfl (by unfold maxLen; omega) ?_
  conv => whnf
  refine aloop ws75_1 1 [8] (fun n : Nat => [(8, iv n)]) (fun n => [(0, .rows 3 1 (rep0 x n k))]) (fun n => 1 ≤ n ∧ n ≤ k) (fun n => k - n) [] [] 1 (by kernel_rfl) (fun _ => rfl) rfl ⟨Nat.le_refl _, hk⟩ ⟨⟨rfl, rfl, ?_⟩, trivial⟩ ⟨?_, trivial⟩ ?_
  · have e := splice_rep x (n := 0) (c := 1) (k := k) (by omega) [enI x] rfl
    have e2 : List.replicate k [FV.v (.int .i64 0)] = rep0 x 0 k := by unfold rep0; rw [List.replicate_zero, List.nil_append, Nat.sub_zero, List.map_replicate]; rfl
    show splice (List.replicate k [FV.v (.int .i64 0)]) 0 (List.take (min 1 (List.replicate k [FV.v (.int .i64 0)]).length) [enI x]) = _
    rw [e2, rep0_len x (Nat.zero_le _), Nat.min_eq_left hk]
    exact e
  · show Value.int .i64 ((min 1 (List.replicate k [FV.v (.int .i64 0)]).length : Nat) : Int) = Value.int .i64 ((1 : Nat) : Int)
    rw [List.length_replicate, Nat.min_eq_left hk]
  rintro n ⟨hn1, hn2⟩
  have hrl := rep0_len x hn2
  conv => whnf
  refine vif_split (fun h => ?_) (fun h => ?_)
  · have hlt : n < k := by rw [hrl] at h; simp at h; omega
    conv => whnf
    (refine adraw pln75 [0] (by kernel_rfl) ?_; conv => whnf)
    refine ABd.mk' n k rfl (by rw [hrl]) hn2 (by rw [hrl]; exact Nat.le_refl _) ?_
    conv => whnf
    refine ABd.mk' 0 n rfl rfl (Nat.zero_le _) (by rw [hrl]; exact hn2) ?_
    conv => whnf
    have hy : ((rep0 x n k).drop 0).take (n - 0) = List.replicate n (enI x) := by
      unfold rep0
      rw [List.drop_zero, Nat.sub_zero, List.map_append, List.map_replicate, List.take_left' (by simp)]
    have hc : min (((rep0 x n k).drop 0).take (n - 0)).length (k - n) = min n (k - n) := by rw [hy, List.length_replicate]
    have hys : List.take (min (((rep0 x n k).drop 0).take (n - 0)).length (k - n)) (((rep0 x n k).drop 0).take (n - 0)) = List.replicate (min n (k - n)) (enI x) := by
      rw [hc, hy, List.take_replicate]
      congr 1; omega
    have hsp := splice_rep x (n := n) (c := min n (k - n)) (k := k) (by omega) _ hys
    refine AAr.to (y := ((n + min n (k - n) : Nat) : Int)) (by rw [hc, IntWalk.i64_in _ (by omega)]; omega) ?_
    conv => whnf
    exact aback (n + min n (k - n)) [] [] rfl (by show k - (n + min n (k - n)) < k - n; omega) ⟨by omega, by omega⟩ ⟨⟨rfl, rfl, hsp⟩, trivial⟩ ⟨rfl, trivial⟩
  · have : n = k := by rw [hrl] at h; simp at h; omega
    subst this
    conv => whnf
    have e : rep0 x n n = (List.replicate n x).map enI := by unfold rep0; rw [Nat.sub_self, List.replicate_zero, List.append_nil]
    exact aend (.own 0) 1 _ [(0, .lab 0)] [] ⟨rfl, rfl, rfl⟩ rfl ⟨⟨rfl, rfl, e⟩, trivial⟩ (by repeat' (first | rfl | trivial | apply And.intro))
end Go.Proofs.YtmhpfadbmpipkaaGreat.Cl

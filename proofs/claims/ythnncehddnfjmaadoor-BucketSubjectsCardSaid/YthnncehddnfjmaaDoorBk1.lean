/- The walk of the closure in bucket.paint that finds the next bucket without a range. Conditions: the captured block holds 10001 cells that name places not before their own. -/
import Derived.Test.YthnncehddnfjmaaDoorDg1
import Derived.Test.YthnncehddnfjmaaDoorVc6
set_option linter.unusedVariables false
set_option linter.unusedSimpArgs false
namespace Go.Proofs.YthnncehddnfjmaaDoor.Bk
open Go Go.RowKit Go.Proofs.YthnncehddnfjmaaDoor.Vc Go.Proofs.YthnncehddnfjmaaDoor.Dg
attribute [local irreducible] loadVar storeVar Instr.indexAt Instr.index Instr.sliceAt Instr.makeSlice Instr.lookup Instr.mapUpdate Instr.range Instr.next Instr.entry Instr.makeMap Builtin.append_ Builtin.copy_ Builtin.len_ Builtin.min_ Builtin.max_ Builtin.cap_ Builtin.delete_ Builtin.clear_ convert binOp eqGuard Op.unary Calls

/-- the cells of 'next' -/
def Nx (l : List Value) (nx : Nat → Nat) : Prop := l.length = 10001 ∧ ∀ j, j < 10001 → l[j]? = some (.int .i64 (nx j)) ∧ j ≤ nx j ∧ nx j < 10001
/-- the buckets between j and nx j are painted, and a bucket that is its own next one is not -/
def Tells (pd : Nat → Prop) (nx : Nat → Nat) : Prop := (∀ j k, j < 10001 → j ≤ k → k < nx j → pd k) ∧ (∀ j, j < 10001 → nx j = j → ¬ pd j)

theorem Nx.set {l : List Value} {nx : Nat → Nat} (h : Nx l nx) (n m : Nat) (hn : n < 10001) (h1 : n ≤ m) (h2 : m < 10001) : Nx (l.set n (.int .i64 (m : Nat))) (fun j => if j = n then m else nx j) := by
  refine ⟨by rw [List.length_set]; exact h.1, fun j hj => ?_⟩
  obtain ⟨a, b, c⟩ := h.2 j hj
  by_cases e : j = n
  · subst e
    simp only [if_true]
    exact ⟨by rw [List.getElem?_set_self (by rw [h.1]; exact hj)], h1, h2⟩
  · simp only [if_neg e]
    exact ⟨by rw [List.getElem?_set_ne (fun x => e x.symm)]; exact a, b, c⟩
theorem Tells.skip {pd : Nat → Prop} {nx : Nat → Nat} (h : Tells pd nx) (n : Nat) (hn : n < 10001) (h1 : n ≤ nx n) (h2 : nx n < 10001) (h3 : nx n ≤ nx (nx n)) (hne : nx n ≠ n) : Tells pd (fun j => if j = n then nx (nx n) else nx j) := by
  refine ⟨fun j k hj hk hlt => ?_, fun j hj e => ?_⟩
  · by_cases e : j = n
    · subst e
      simp only [if_true] at hlt
      by_cases hb : k < nx j
      · exact h.1 j k hj hk hb
      · exact h.1 (nx j) k h2 (by omega) hlt
    · simp only [if_neg e] at hlt
      exact h.1 j k hj hk hlt
  · by_cases e' : j = n
    · subst e'
      simp only [if_true] at e
      exact absurd e (by omega)
    · simp only [if_neg e'] at e
      exact h.2 j hj e

set_option maxRecDepth 100000 in
theorem find_ok (pd : Nat → Prop) (b : Nat) (l : List Value) (nx : Nat → Nat) (i : Nat) (w : World) (hb : Blk w b l 90) (hn : Nx l nx) (ht : Tells pd nx) (hi : i < 10001) :
    Ret Tryd.prog 54 #[.int .i64 i, .pointer (some ⟨b, 0, none⟩)] w fun v w' => ∃ r l' nx', v = .int .i64 (r : Nat) ∧ Only b w w' ∧ Blk w' b l' 90 ∧ Nx l' nx' ∧ Tells pd nx' ∧
      i ≤ r ∧ r < 10001 ∧ ¬ pd r ∧ ∀ k, i ≤ k → k < r → pd k := by
  refine ret_of_vc Tryd.func54 rfl mixed (by kernel_rfl) ?_
  conv => whnf
  refine vloop (X := Nat × List Value × (Nat → Nat)) ws54_1 (fun x => [(0, .int .i64 x.1)]) (fun x w' => i ≤ x.1 ∧ x.1 < 10001 ∧ Only b w w' ∧ Blk w' b x.2.1 90 ∧ Nx x.2.1 x.2.2 ∧ Tells pd x.2.2 ∧ ∀ k, i ≤ k → k < x.1 → pd k) (fun x => 10001 - x.1) (i, l, nx) (by kernel_rfl)
    ?_ ⟨Nat.le_refl _, hi, Only.refl _ _, hb, hn, ht, fun k h1 h2 => absurd h2 (by omega)⟩ ?_
  · exact ⟨rfl, trivial⟩
  rintro ⟨n, l1, nx1⟩ w1 j ⟨h1, h2, hO, hb1, hn1, ht1, hp⟩
  simp only at h1 h2 hb1 hn1 ht1 hp
  obtain ⟨hc, hge, hlt⟩ := hn1.2 n h2
  conv => whnf
  refine vs_arr1 n rfl rfl rfl h2 ?_
  conv => whnf
  refine vs_loadB rfl hb1 (by rw [Nat.zero_add]; exact hc) ?_
  conv => whnf
  refine vif_split (fun hne => ?_) (fun heq => ?_)
  · have hne : nx1 n ≠ n := by intro e; simp [e] at hne
    obtain ⟨hc2, hge2, hlt2⟩ := hn1.2 (nx1 n) hlt
    conv => whnf
    refine vs_arr1 n rfl rfl rfl h2 ?_
    conv => whnf
    refine vs_loadB rfl hb1 (by rw [Nat.zero_add]; exact hc) ?_
    conv => whnf
    refine vs_arr1 (nx1 n) rfl rfl rfl hlt ?_
    conv => whnf
    refine vs_loadB rfl hb1 (by rw [Nat.zero_add]; exact hc2) ?_
    conv => whnf
    refine vs_arr1 n rfl rfl rfl h2 ?_
    conv => whnf
    refine vs_storeP hb1 rfl rfl (by rw [hn1.1]; omega) ?_
    intro w2 hO2 hb2
    rw [Nat.zero_add] at hb2
    have hn2 := hn1.set n (nx1 (nx1 n)) h2 (by omega) hlt2
    have ht2 := ht1.skip n h2 hge hlt hge2 hne
    have hg2 : (l1.set n (Value.int .i64 (nx1 (nx1 n) : Nat)))[n]? = some (Value.int .i64 (nx1 (nx1 n) : Nat)) := by
      have := (hn2.2 n h2).1
      simpa using this
    conv => whnf
    refine vs_arr1 n rfl rfl rfl h2 ?_
    conv => whnf
    refine vs_loadB rfl hb2 (by rw [Nat.zero_add]; exact hg2) ?_
    conv => whnf
    refine VBack.mk ⟨_, ?_, (nx1 (nx1 n), l1.set n (.int .i64 (nx1 (nx1 n))), fun j => if j = n then nx1 (nx1 n) else nx1 j), rfl, ?_, ?_⟩
    · show 10001 - nx1 (nx1 n) < 10001 - n; omega
    · exact ⟨rfl, trivial⟩
    · refine ⟨by show i ≤ nx1 (nx1 n); omega, hlt2, hO.trans hO2, hb2, hn2, ht2, fun k hk1 hk2 => ?_⟩
      by_cases ha : k < n
      · exact hp k hk1 ha
      · by_cases hb' : k < nx1 n
        · exact ht1.1 n k h2 (by omega) hb'
        · exact ht1.1 (nx1 n) k hlt (by omega) hk2
  · have heq : nx1 n = n := Int.ofNat.inj (by simpa using heq)
    conv => whnf
    exact VEnd.mk ⟨n, l1, nx1, rfl, hO, hb1, hn1, ht1, h1, h2, ht1.2 n h2 heq, hp⟩

end Go.Proofs.YthnncehddnfjmaaDoor.Bk

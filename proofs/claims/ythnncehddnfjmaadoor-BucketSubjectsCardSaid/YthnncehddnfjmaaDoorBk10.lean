/- The walks of Of of both texts, of the draws' Split and of the law's weights. Conditions: as stated. -/
import Derived.Test.YthnncehddnfjmaaDoorBk9
import Derived.Test.YthnncehddnfjmaaDoorDw1
import Derived.Test.YthnncehddnfjmaaDoorDg5
import Derived.Laws.Bits64
set_option linter.unusedVariables false
set_option linter.unusedSimpArgs false
namespace Go.Proofs.YthnncehddnfjmaaDoor.Bk
open Go Go.RowKit Go.Proofs.YthnncehddnfjmaaDoor.Vc Go.Proofs.YthnncehddnfjmaaDoor.Dg Go.Proofs.YthnncehddnfjmaaDoor.Dw
attribute [local irreducible] loadVar storeVar Instr.indexAt Instr.index Instr.sliceAt Instr.makeSlice Instr.lookup Instr.mapUpdate Instr.range Instr.next Instr.entry Instr.makeMap Builtin.append_ Builtin.copy_ Builtin.len_ Builtin.min_ Builtin.max_ Builtin.cap_ Builtin.delete_ Builtin.clear_ convert binOp eqGuard Op.unary Calls

theorem sumI_range (k m : Int) (l : List UInt8) : 0 ≤ sumI k m l ∧ sumI k m l < 18446744073709551616 := by
  unfold sumI S4.done
  simp only
  unfold Dg.xor bitsOp
  simp only [IntKind.wrap_u64]
  exact ⟨Int.emod_nonneg _ (by decide), Int.emod_lt_of_pos _ (by decide)⟩
def ofI (s t : ByteArray) : Int := sumI 1 0 (frame [s.data.toList, t.data.toList]) % 10000

set_option maxRecDepth 100000 in
theorem of1_ok (s t : ByteArray) (w : World) (hs : s.size ≤ 1000) (ht : t.size ≤ 140737488351232) :
    Ret Tryd.prog 30 #[.string s, .string t] w fun v w' => v = .int .i64 (ofI s t) ∧ Below w.heap.size w w' := by
  refine ret_of_vc Tryd.func30 rfl mixed (by kernel_rfl) ?_
  conv => whnf
  refine vs_s2b rfl rfl rfl ?_
  intro c1 w1 hc1 hr1 hB1
  have hlt1 : w.heap.size < w1.heap.size ∨ s.data.toList = [] := by
    rcases hr1 with h | ⟨b, o, he, hlt, _⟩
    · right; simpa [bvals] using h
    · injection he with he; injection he with he; left; omega
  conv => whnf
  refine vs_s2b rfl rfl rfl ?_
  intro c2 w2 hc2 hr2 hB2
  have hr1' := hr1.below hB2
  conv => whnf
  have hf : Fld (w2.alloc (.cells #[.slice (some ⟨w.heap.size, 0, none⟩) s.data.toList.length c1, .slice (some ⟨w1.heap.size, 0, none⟩) t.data.toList.length c2] 24)) [.slice (some ⟨w.heap.size, 0, none⟩) s.data.toList.length c1, .slice (some ⟨w1.heap.size, 0, none⟩) t.data.toList.length c2] [s.data.toList, t.data.toList] := by
    refine ⟨rfl, fun i h => ?_⟩
    match i, h with
    | 0, _ => exact ⟨_, _, rfl, hc1, (fun e => by cases e), hr1'.alloc _⟩
    | 1, _ => exact ⟨_, _, rfl, hc2, (fun e => by cases e), hr2.alloc _⟩
  have hfl : (frame [s.data.toList, t.data.toList]).length ≤ 140737488355328 := by
    have h1 : s.data.toList.length = s.size := by simp
    have h2 : t.data.toList.length = t.size := by simp
    simp only [frame, List.length_append, lenTo_len, List.length_nil]
    omega
  refine vcall (by kernel_rfl) (hash_ok 1 (some ⟨w2.heap.size, 0, none⟩) 2 _ [s.data.toList, t.data.toList] _ (by simp) hfl (Row.alloc1 w2 _ _) hf) ?_
  rintro _ w3 ⟨rfl, hB3⟩
  have hsr := sumI_range 1 0 (frame [s.data.toList, t.data.toList])
  have hofI : ofI s t = sumI 1 0 (frame [s.data.toList, t.data.toList]) % 10000 := rfl
  obtain ⟨x, hx⟩ : ∃ x, x = sumI 1 0 (frame [s.data.toList, t.data.toList]) := ⟨_, rfl⟩
  rw [← hx] at hsr hofI ⊢
  have h1 := Int.emod_nonneg x (b := 10000) (by decide)
  have h2 := Int.emod_lt_of_pos x (b := 10000) (by decide)
  have hm : x.tmod 10000 = x % 10000 := Int.tmod_eq_emod_of_nonneg hsr.1
  conv => whnf
  refine VReq.mk (by decide) ?_
  rw [hm]
  conv => whnf
  exact VEnd.mk ⟨intEq (by rw [i64_of (by omega) (by omega), hofI]), hB1.trans ((hB2.mono hB1.size).trans ((balloc (Below.refl _ _) (Nat.le_trans hB1.size hB2.size) _).trans (hB3.mono (by have := hB1.size; have := hB2.size; simp; omega))))⟩
set_option maxRecDepth 100000 in
theorem of2_ok (s t : ByteArray) (w : World) (hs : s.size ≤ 1000) (ht : t.size ≤ 140737488351232) :
    Ret Tryd.prog 31 #[.string s, .string t] w fun v w' => v = .int .i64 (ofI s t) ∧ Below w.heap.size w w' := by
  refine ret_of_vc Tryd.func31 rfl mixed (by kernel_rfl) ?_
  conv => whnf
  refine vs_s2b rfl rfl rfl ?_
  intro c1 w1 hc1 hr1 hB1
  have hlt1 : w.heap.size < w1.heap.size ∨ s.data.toList = [] := by
    rcases hr1 with h | ⟨b, o, he, hlt, _⟩
    · right; simpa [bvals] using h
    · injection he with he; injection he with he; left; omega
  conv => whnf
  refine vs_s2b rfl rfl rfl ?_
  intro c2 w2 hc2 hr2 hB2
  have hr1' := hr1.below hB2
  conv => whnf
  have hf : Fld (w2.alloc (.cells #[.slice (some ⟨w.heap.size, 0, none⟩) s.data.toList.length c1, .slice (some ⟨w1.heap.size, 0, none⟩) t.data.toList.length c2] 24)) [.slice (some ⟨w.heap.size, 0, none⟩) s.data.toList.length c1, .slice (some ⟨w1.heap.size, 0, none⟩) t.data.toList.length c2] [s.data.toList, t.data.toList] := by
    refine ⟨rfl, fun i h => ?_⟩
    match i, h with
    | 0, _ => exact ⟨_, _, rfl, hc1, (fun e => by cases e), hr1'.alloc _⟩
    | 1, _ => exact ⟨_, _, rfl, hc2, (fun e => by cases e), hr2.alloc _⟩
  have hfl : (frame [s.data.toList, t.data.toList]).length ≤ 140737488355328 := by
    have h1 : s.data.toList.length = s.size := by simp
    have h2 : t.data.toList.length = t.size := by simp
    simp only [frame, List.length_append, lenTo_len, List.length_nil]
    omega
  refine vcall (by kernel_rfl) (hash2_ok 1 (some ⟨w2.heap.size, 0, none⟩) 2 _ [s.data.toList, t.data.toList] _ (by simp) hfl (Row.alloc1 w2 _ _) hf) ?_
  rintro _ w3 ⟨rfl, hB3⟩
  have hsr := sumI_range 1 0 (frame [s.data.toList, t.data.toList])
  have hofI : ofI s t = sumI 1 0 (frame [s.data.toList, t.data.toList]) % 10000 := rfl
  obtain ⟨x, hx⟩ : ∃ x, x = sumI 1 0 (frame [s.data.toList, t.data.toList]) := ⟨_, rfl⟩
  rw [← hx] at hsr hofI ⊢
  have h1 := Int.emod_nonneg x (b := 10000) (by decide)
  have h2 := Int.emod_lt_of_pos x (b := 10000) (by decide)
  have hm : x.tmod 10000 = x % 10000 := Int.tmod_eq_emod_of_nonneg hsr.1
  conv => whnf
  refine VReq.mk (by decide) ?_
  rw [hm]
  conv => whnf
  exact VEnd.mk ⟨intEq (by rw [i64_of (by omega) (by omega), hofI]), hB1.trans ((hB2.mono hB1.size).trans ((balloc (Below.refl _ _) (Nat.le_trans hB1.size hB2.size) _).trans (hB3.mono (by have := hB1.size; have := hB2.size; simp; omega))))⟩

/-- a split over n variations -/
structure Spl (n : Int) (ls : List Rng) : Prop where
  len : ls.length ≤ 8
  ok : split n ls = 0
/-- the ranges so far, with the end and the variation of the last one -/
inductive Sofar (n : Int) : List Rng → Int → Int → Prop
  | nil : Sofar n [] 0 0
  | snoc {ls : List Rng} {a v a' v' : Int} (h : Sofar n ls a v) (h1 : a < a') (h2 : 1 ≤ v') (h3 : v' ≤ n) (h4 : v' ≠ v) : Sofar n (ls ++ [⟨a, a', v'⟩]) a' v'
theorem Sofar.zero {n : Int} {ls : List Rng} {a v : Int} (h : Sofar n ls a v) : ls.length = 0 → v = 0 := by
  induction h with
  | nil => intro _; rfl
  | snoc => intro e; simp at e
theorem spl_append (n : Int) : ∀ (l m : List Rng) (a v : Int), (∀ r ∈ l, True) → Sofar n l a v → spl n 0 0 (l ++ m) = spl n a v m := by
  intro l m a v _ h
  induction h generalizing m with
  | nil => rfl
  | snoc h h1 h2 h3 h4 ih =>
    rw [List.append_assoc, ih _ (fun _ _ => trivial)]
    simp only [List.cons_append, List.nil_append, spl]
    rw [if_neg (by omega), if_neg (by omega)]
theorem Sofar.split {n : Int} {ls : List Rng} {v : Int} (h : Sofar n ls 10000 v) (hl : ls.length ≤ 8) : Spl n ls := by
  refine ⟨hl, ?_⟩
  rw [split_small (by omega)]
  have := spl_append n ls [] 10000 v (fun _ _ => trivial) h
  rw [List.append_nil] at this
  rw [this]; rfl

theorem gOnly {w w1 w2 : World} {b : Nat} (hg : w.grownBy w1 (some b)) (hO : Only b w1 w2) : w.grownBy w2 (some b) :=
  ⟨hO.os.trans hg.os, hO.tape.trans hg.tape, hO.output.trans hg.output, by rw [hO.size]; exact hg.size, fun k hk hne => (hO.block k (fun e => hne (by rw [e]))).trans (hg.block k hk hne)⟩
theorem gBelow {w w1 w2 : World} {b : Nat} (hg : w.grownBy w1 (some b)) (hB : Below w.heap.size w1 w2) : w.grownBy w2 (some b) :=
  ⟨hB.os.trans hg.os, hB.tape.trans hg.tape, hB.output.trans hg.output, Nat.le_trans hg.size hB.size, fun k hk hne => (hB.block k hk).trans (hg.block k hk hne)⟩
theorem Own.ne {w : World} {B b : Nat} {E : TypeId} {sz : Nat} {oa : Option Addr} {n c : Nat} {xs : List Value} (h : Own w B E sz oa n c xs) (hb : b < B) : ∀ g, oa = some ⟨g, 0, none⟩ → g ≠ b := fun g hg e => by
  have := (Own.ge h g (by rw [hg]; rfl)).1
  omega
theorem turn_ne {n v : Nat} (hn : 2 ≤ n) (h1 : 1 ≤ v) (h2 : v ≤ n) : 1 ≤ 1 + v % n ∧ 1 + v % n ≤ n ∧ 1 + v % n ≠ v := by
  have h3 := Nat.mod_lt v (show n > 0 by omega)
  by_cases e : v = n
  · subst e; simp; omega
  · rw [Nat.mod_eq_of_lt (by omega)]; omega

set_option maxHeartbeats 1000000 in
set_option maxRecDepth 100000 in
theorem csplit_ok (b n : Nat) (w : World) (hn : 1 ≤ n) (hn2 : n ≤ 256) (h : Cod w b) :
    Ret Tryd.prog 13 #[.pointer (some ⟨b, 0, none⟩), .int .i64 n] w fun v w' => ∃ oa c ls, v = .slice oa ls.length c ∧ Own w' w.heap.size 69 3 oa ls.length c (recs rc ls) ∧ Spl n ls ∧ Cod w' b ∧ w.grownBy w' (some b) := by
  refine ret_of_vc Tryd.func13 rfl mixed (by kernel_rfl) ?_
  conv => whnf
  refine vloop (X := Nat × Int × Int × Option Addr × Nat × List Rng) ws13_1 (fun x => [(8, .int .i64 x.1), (6, .int .i64 x.2.1), (7, .int .i64 x.2.2.1), (5, .slice x.2.2.2.1 x.2.2.2.2.2.length x.2.2.2.2.1)]) (fun x w' => x.1 ≤ 3 ∧ x.2.2.2.2.2.length = x.1 ∧ Sofar n x.2.2.2.2.2 x.2.1 x.2.2.1 ∧ 0 ≤ x.2.1 ∧ x.2.1 < 10000 ∧ (n = 1 → x.1 = 0) ∧ Cod w' b ∧ w.grownBy w' (some b) ∧ Own w' w.heap.size 69 3 x.2.2.2.1 x.2.2.2.2.2.length x.2.2.2.2.1 (recs rc x.2.2.2.2.2)) (fun x => 3 - x.1) (0, 0, 0, none, 0, []) (by kernel_rfl)
    ?_ ⟨Nat.zero_le _, rfl, .nil, Int.le_refl _, (by simp), fun _ => rfl, h, ⟨rfl, rfl, rfl, Nat.le_refl _, fun _ _ _ => rfl⟩, Own.nil _ _ _ _⟩ ?_
  · exact ⟨rfl, rfl, rfl, rfl, trivial⟩
  rintro ⟨i, a, v, oo, cc, ls⟩ w1 j ⟨hi, hls, hs, ha0, ha1, hn1, hC, hg, ho⟩
  simp only at hi hls hs ha0 ha1 hn1 ho ⊢
  have hvb : 0 ≤ v ∧ v ≤ 256 := by cases hs <;> omega
  conv => whnf
  refine vcall (by kernel_rfl) (next_ok b 4 w1 (by omega) (by omega) hC) ?_
  rintro _ w2 ⟨x, rfl, hx, hO2, hC2⟩
  have hg2 := gOnly hg hO2
  have ho2 := ho.only hO2 (Own.ne ho h.lt)
  clear hC hg ho hO2
  conv => whnf
  refine vif_split (fun h1 => ?_) (fun h1 => ?_)
  · have h1 : i < x := by have := of_decide_eq_true h1; omega
    conv => whnf
    refine vif_split (fun h2 => ?_) (fun h2 => ?_)
    · have h2 : n > 1 := by have := of_decide_eq_true h2; omega
      conv => whnf
      refine vcall (by kernel_rfl) (wide_ok b 5000 w2 (by omega) (by omega) hC2) ?_
      rintro _ w3 ⟨y, rfl, hy, hO3, hC3⟩
      have hg3 := gOnly hg2 hO3
      have ho3 := ho2.only hO3 (Own.ne ho2 h.lt)
      clear hC2 hg2 ho2 hO3
      have ey : IntKind.i64.wrap (IntKind.i64.wrap (a + 1) + (y : Int)) = a + 1 + (y : Int) := by rw [i64_of (x := a + 1) (by omega) (by omega), i64_of (by omega) (by omega)]
      conv => whnf
      rw [ey]
      refine vcall (by kernel_rfl) (next_ok b n w3 hn (by omega) hC3) ?_
      rintro _ wM ⟨z, rfl, hz, hOM, hCM⟩
      have hgM := gOnly hg3 hOM
      have hoM := ho3.only hOM (Own.ne ho3 h.lt)
      clear hC3 hg3 ho3 hOM
      have e1 : IntKind.i64.wrap (1 + (z : Int)) = ((1 + z : Nat) : Int) := by rw [i64_of (by omega) (by omega)]; omega
      conv => whnf
      rw [e1]
      refine vif_split (fun hv => ?_) (fun hv => ?_)
      · have hv : ((1 + z : Nat) : Int) = v := by simpa using hv
        have ht := turn_ne (v := 1 + z) (show 2 ≤ n by omega) (by omega) (by omega)
        have e2 : ((1 + z : Nat) : Int).tmod (n : Int) = (((1 + z) % n : Nat) : Int) := by
          rw [Int.tmod_eq_emod_of_nonneg (by omega)]; simp
        have e3 : IntKind.i64.wrap (1 + (((1 + z) % n : Nat) : Int)) = ((1 + (1 + z) % n : Nat) : Int) := by rw [i64_of (by omega) (by omega)]; omega
        obtain ⟨vv, hvv⟩ : ∃ m : Nat, m = 1 + (1 + z) % n := ⟨_, rfl⟩
        have hvne : (vv : Int) ≠ v := by rw [← hv]; omega
        rw [← hvv] at e3 ht
        conv => whnf
        refine VReq.mk (by omega) ?_
        rw [e2]
        conv => whnf
        rw [e3]
        by_cases h10 : (a + 1 + (y : Int)) < 10000
        · conv => whnf
          refine vif_false (by simp only [decide_eq_false_iff_not]; omega) ?_
          conv => whnf
          refine vs_app1 (n := ls.length) ⟨a, a + 1 + (y : Int), (vv : Int)⟩ hoM (by omega) hgM.size ?_
          intro o9 c9 w9 ho9 hB9 _
          rw [← recs_one rc, ← recs_append] at ho9
          obtain ⟨ls9, hls9⟩ : ∃ l, l = ls ++ [⟨a, a + 1 + (y : Int), (vv : Int)⟩] := ⟨_, rfl⟩
          have hl9 : ls.length + 1 = ls9.length := by rw [hls9]; simp
          rw [← hls9] at ho9
          rw [hl9] at ho9 ⊢
          conv => whnf
          refine VBack.mk ⟨_, ?_, (i + 1, a + 1 + (y : Int), (vv : Int), o9, c9, ls9), rfl, ?_, ?_⟩
          · show 3 - (i + 1) < 3 - i; omega
          · exact ⟨intEq (incr (by omega)), rfl, rfl, rfl, trivial⟩
          · refine ⟨by show i + 1 ≤ 3; omega, by show ls9.length = i + 1; omega, ?_, by show 0 ≤ a + 1 + (y : Int); omega, h10, fun e => by omega, hCM.below hB9 h.lt, gBelow hgM hB9, ho9⟩
            show Sofar n ls9 (a + 1 + (y : Int)) vv
            rw [hls9]
            exact hs.snoc (by omega) (by omega) (by omega) hvne
        · conv => whnf
          refine vif_true (by simp only [decide_eq_true_eq]; omega) ?_
          obtain ⟨wE, rfl⟩ : ∃ x, x = wM := ⟨_, rfl⟩
          have hCE := hCM
          have hgE := hgM
          have hoEnd := hoM
          have hoE := hoEnd
          conv => whnf
          refine vcall (by kernel_rfl) (next_ok b n wE hn (by omega) hCE) ?_
          rintro _ wF ⟨z, rfl, hz, hOF, hCF⟩
          have hgF := gOnly hgE hOF
          have hoF := hoE.only hOF (Own.ne hoE h.lt)
          have e1 : IntKind.i64.wrap (1 + (z : Int)) = ((1 + z : Nat) : Int) := by rw [i64_of (by omega) (by omega)]; omega
          have last : ∀ v' : Nat, 1 ≤ v' → v' ≤ n → (v' : Int) ≠ v → Spl n (ls ++ [⟨a, 10000, v'⟩]) := fun v' h1 h2 h3 => (hs.snoc (a' := 10000) (v' := v') ha1 (by omega) (by omega) h3).split (by simp; omega)
          have hBF : w.heap.size ≤ wF.heap.size := hgF.size
          conv => whnf
          rw [e1]
          refine vif_split (fun hv => ?_) (fun hv => ?_)
          · have hv : ((1 + z : Nat) : Int) = v := by simpa using hv
            have hn2' : 2 ≤ n := by
              rcases Nat.lt_or_ge n 2 with h | h
              · have h0 := hn1 (by omega)
                have := hs.zero (by omega)
                omega
              · exact h
            have ht := turn_ne (v := 1 + z) hn2' (by omega) (by omega)
            have e2 : ((1 + z : Nat) : Int).tmod (n : Int) = (((1 + z) % n : Nat) : Int) := by
              rw [Int.tmod_eq_emod_of_nonneg (by omega)]; simp
            have e3 : IntKind.i64.wrap (1 + (((1 + z) % n : Nat) : Int)) = ((1 + (1 + z) % n : Nat) : Int) := by rw [i64_of (by omega) (by omega)]; omega
            conv => whnf
            refine VReq.mk (by omega) ?_
            rw [e2]
            conv => whnf
            rw [e3]
            refine vs_app1 (n := ls.length) ⟨a, 10000, ((1 + (1 + z) % n : Nat) : Int)⟩ hoF (by omega) hBF ?_
            intro o9 c9 w9 ho9 hB9 _
            rw [← recs_one rc, ← recs_append] at ho9
            have hsp := last (1 + (1 + z) % n) (by omega) (by omega) (by rw [← hv]; omega)
            obtain ⟨ls9, hls9⟩ : ∃ l, l = ls ++ [⟨a, 10000, ((1 + (1 + z) % n : Nat) : Int)⟩] := ⟨_, rfl⟩
            have hl9 : ls.length + 1 = ls9.length := by rw [hls9]; simp
            rw [← hls9] at ho9 hsp
            rw [hl9] at ho9 ⊢
            conv => whnf
            exact VEnd.mk ⟨o9, c9, ls9, rfl, ho9, hsp, hCF.below hB9 h.lt, gBelow hgF hB9⟩
          · have hv : ¬ ((1 + z : Nat) : Int) = v := by intro e; simp [e] at hv
            conv => whnf
            refine vs_app1 (n := ls.length) ⟨a, 10000, ((1 + z : Nat) : Int)⟩ hoF (by omega) hBF ?_
            intro o9 c9 w9 ho9 hB9 _
            rw [← recs_one rc, ← recs_append] at ho9
            have hsp := last (1 + z) (by omega) (by omega) hv
            obtain ⟨ls9, hls9⟩ : ∃ l, l = ls ++ [⟨a, 10000, ((1 + z : Nat) : Int)⟩] := ⟨_, rfl⟩
            have hl9 : ls.length + 1 = ls9.length := by rw [hls9]; simp
            rw [← hls9] at ho9 hsp
            rw [hl9] at ho9 ⊢
            conv => whnf
            exact VEnd.mk ⟨o9, c9, ls9, rfl, ho9, hsp, hCF.below hB9 h.lt, gBelow hgF hB9⟩
      · have hv : ¬ ((1 + z : Nat) : Int) = v := by intro e; simp [e] at hv
        obtain ⟨vv, hvv⟩ : ∃ m : Nat, m = 1 + z := ⟨_, rfl⟩
        rw [← hvv] at hv ⊢
        have ht : 1 ≤ vv ∧ vv ≤ n := by omega
        have hvne := hv
        conv => whnf
        by_cases h10 : (a + 1 + (y : Int)) < 10000
        · conv => whnf
          refine vif_false (by simp only [decide_eq_false_iff_not]; omega) ?_
          conv => whnf
          refine vs_app1 (n := ls.length) ⟨a, a + 1 + (y : Int), (vv : Int)⟩ hoM (by omega) hgM.size ?_
          intro o9 c9 w9 ho9 hB9 _
          rw [← recs_one rc, ← recs_append] at ho9
          obtain ⟨ls9, hls9⟩ : ∃ l, l = ls ++ [⟨a, a + 1 + (y : Int), (vv : Int)⟩] := ⟨_, rfl⟩
          have hl9 : ls.length + 1 = ls9.length := by rw [hls9]; simp
          rw [← hls9] at ho9
          rw [hl9] at ho9 ⊢
          conv => whnf
          refine VBack.mk ⟨_, ?_, (i + 1, a + 1 + (y : Int), (vv : Int), o9, c9, ls9), rfl, ?_, ?_⟩
          · show 3 - (i + 1) < 3 - i; omega
          · exact ⟨intEq (incr (by omega)), rfl, rfl, rfl, trivial⟩
          · refine ⟨by show i + 1 ≤ 3; omega, by show ls9.length = i + 1; omega, ?_, by show 0 ≤ a + 1 + (y : Int); omega, h10, fun e => by omega, hCM.below hB9 h.lt, gBelow hgM hB9, ho9⟩
            show Sofar n ls9 (a + 1 + (y : Int)) vv
            rw [hls9]
            exact hs.snoc (by omega) (by omega) (by omega) hvne
        · conv => whnf
          refine vif_true (by simp only [decide_eq_true_eq]; omega) ?_
          obtain ⟨wE, rfl⟩ : ∃ x, x = wM := ⟨_, rfl⟩
          have hCE := hCM
          have hgE := hgM
          have hoEnd := hoM
          have hoE := hoEnd
          conv => whnf
          refine vcall (by kernel_rfl) (next_ok b n wE hn (by omega) hCE) ?_
          rintro _ wF ⟨z, rfl, hz, hOF, hCF⟩
          have hgF := gOnly hgE hOF
          have hoF := hoE.only hOF (Own.ne hoE h.lt)
          have e1 : IntKind.i64.wrap (1 + (z : Int)) = ((1 + z : Nat) : Int) := by rw [i64_of (by omega) (by omega)]; omega
          have last : ∀ v' : Nat, 1 ≤ v' → v' ≤ n → (v' : Int) ≠ v → Spl n (ls ++ [⟨a, 10000, v'⟩]) := fun v' h1 h2 h3 => (hs.snoc (a' := 10000) (v' := v') ha1 (by omega) (by omega) h3).split (by simp; omega)
          have hBF : w.heap.size ≤ wF.heap.size := hgF.size
          conv => whnf
          rw [e1]
          refine vif_split (fun hv => ?_) (fun hv => ?_)
          · have hv : ((1 + z : Nat) : Int) = v := by simpa using hv
            have hn2' : 2 ≤ n := by
              rcases Nat.lt_or_ge n 2 with h | h
              · have h0 := hn1 (by omega)
                have := hs.zero (by omega)
                omega
              · exact h
            have ht := turn_ne (v := 1 + z) hn2' (by omega) (by omega)
            have e2 : ((1 + z : Nat) : Int).tmod (n : Int) = (((1 + z) % n : Nat) : Int) := by
              rw [Int.tmod_eq_emod_of_nonneg (by omega)]; simp
            have e3 : IntKind.i64.wrap (1 + (((1 + z) % n : Nat) : Int)) = ((1 + (1 + z) % n : Nat) : Int) := by rw [i64_of (by omega) (by omega)]; omega
            conv => whnf
            refine VReq.mk (by omega) ?_
            rw [e2]
            conv => whnf
            rw [e3]
            refine vs_app1 (n := ls.length) ⟨a, 10000, ((1 + (1 + z) % n : Nat) : Int)⟩ hoF (by omega) hBF ?_
            intro o9 c9 w9 ho9 hB9 _
            rw [← recs_one rc, ← recs_append] at ho9
            have hsp := last (1 + (1 + z) % n) (by omega) (by omega) (by rw [← hv]; omega)
            obtain ⟨ls9, hls9⟩ : ∃ l, l = ls ++ [⟨a, 10000, ((1 + (1 + z) % n : Nat) : Int)⟩] := ⟨_, rfl⟩
            have hl9 : ls.length + 1 = ls9.length := by rw [hls9]; simp
            rw [← hls9] at ho9 hsp
            rw [hl9] at ho9 ⊢
            conv => whnf
            exact VEnd.mk ⟨o9, c9, ls9, rfl, ho9, hsp, hCF.below hB9 h.lt, gBelow hgF hB9⟩
          · have hv : ¬ ((1 + z : Nat) : Int) = v := by intro e; simp [e] at hv
            conv => whnf
            refine vs_app1 (n := ls.length) ⟨a, 10000, ((1 + z : Nat) : Int)⟩ hoF (by omega) hBF ?_
            intro o9 c9 w9 ho9 hB9 _
            rw [← recs_one rc, ← recs_append] at ho9
            have hsp := last (1 + z) (by omega) (by omega) hv
            obtain ⟨ls9, hls9⟩ : ∃ l, l = ls ++ [⟨a, 10000, ((1 + z : Nat) : Int)⟩] := ⟨_, rfl⟩
            have hl9 : ls.length + 1 = ls9.length := by rw [hls9]; simp
            rw [← hls9] at ho9 hsp
            rw [hl9] at ho9 ⊢
            conv => whnf
            exact VEnd.mk ⟨o9, c9, ls9, rfl, ho9, hsp, hCF.below hB9 h.lt, gBelow hgF hB9⟩
    · have h2 : ¬ n > 1 := by have := of_decide_eq_false h2; omega
      obtain ⟨wE, rfl⟩ : ∃ x, x = w2 := ⟨_, rfl⟩
      have hCE := hC2
      have hgE := hg2
      have hoEnd := ho2
      have hoE := hoEnd
      conv => whnf
      refine vcall (by kernel_rfl) (next_ok b n wE hn (by omega) hCE) ?_
      rintro _ wF ⟨z, rfl, hz, hOF, hCF⟩
      have hgF := gOnly hgE hOF
      have hoF := hoE.only hOF (Own.ne hoE h.lt)
      have e1 : IntKind.i64.wrap (1 + (z : Int)) = ((1 + z : Nat) : Int) := by rw [i64_of (by omega) (by omega)]; omega
      have last : ∀ v' : Nat, 1 ≤ v' → v' ≤ n → (v' : Int) ≠ v → Spl n (ls ++ [⟨a, 10000, v'⟩]) := fun v' h1 h2 h3 => (hs.snoc (a' := 10000) (v' := v') ha1 (by omega) (by omega) h3).split (by simp; omega)
      have hBF : w.heap.size ≤ wF.heap.size := hgF.size
      conv => whnf
      rw [e1]
      refine vif_split (fun hv => ?_) (fun hv => ?_)
      · have hv : ((1 + z : Nat) : Int) = v := by simpa using hv
        have hn2' : 2 ≤ n := by
          rcases Nat.lt_or_ge n 2 with h | h
          · have h0 := hn1 (by omega)
            have := hs.zero (by omega)
            omega
          · exact h
        have ht := turn_ne (v := 1 + z) hn2' (by omega) (by omega)
        have e2 : ((1 + z : Nat) : Int).tmod (n : Int) = (((1 + z) % n : Nat) : Int) := by
          rw [Int.tmod_eq_emod_of_nonneg (by omega)]; simp
        have e3 : IntKind.i64.wrap (1 + (((1 + z) % n : Nat) : Int)) = ((1 + (1 + z) % n : Nat) : Int) := by rw [i64_of (by omega) (by omega)]; omega
        conv => whnf
        refine VReq.mk (by omega) ?_
        rw [e2]
        conv => whnf
        rw [e3]
        refine vs_app1 (n := ls.length) ⟨a, 10000, ((1 + (1 + z) % n : Nat) : Int)⟩ hoF (by omega) hBF ?_
        intro o9 c9 w9 ho9 hB9 _
        rw [← recs_one rc, ← recs_append] at ho9
        have hsp := last (1 + (1 + z) % n) (by omega) (by omega) (by rw [← hv]; omega)
        obtain ⟨ls9, hls9⟩ : ∃ l, l = ls ++ [⟨a, 10000, ((1 + (1 + z) % n : Nat) : Int)⟩] := ⟨_, rfl⟩
        have hl9 : ls.length + 1 = ls9.length := by rw [hls9]; simp
        rw [← hls9] at ho9 hsp
        rw [hl9] at ho9 ⊢
        conv => whnf
        exact VEnd.mk ⟨o9, c9, ls9, rfl, ho9, hsp, hCF.below hB9 h.lt, gBelow hgF hB9⟩
      · have hv : ¬ ((1 + z : Nat) : Int) = v := by intro e; simp [e] at hv
        conv => whnf
        refine vs_app1 (n := ls.length) ⟨a, 10000, ((1 + z : Nat) : Int)⟩ hoF (by omega) hBF ?_
        intro o9 c9 w9 ho9 hB9 _
        rw [← recs_one rc, ← recs_append] at ho9
        have hsp := last (1 + z) (by omega) (by omega) hv
        obtain ⟨ls9, hls9⟩ : ∃ l, l = ls ++ [⟨a, 10000, ((1 + z : Nat) : Int)⟩] := ⟨_, rfl⟩
        have hl9 : ls.length + 1 = ls9.length := by rw [hls9]; simp
        rw [← hls9] at ho9 hsp
        rw [hl9] at ho9 ⊢
        conv => whnf
        exact VEnd.mk ⟨o9, c9, ls9, rfl, ho9, hsp, hCF.below hB9 h.lt, gBelow hgF hB9⟩
  · obtain ⟨wE, rfl⟩ : ∃ x, x = w2 := ⟨_, rfl⟩
    have hCE := hC2
    have hgE := hg2
    have hoEnd := ho2
    have hoE := hoEnd
    conv => whnf
    refine vcall (by kernel_rfl) (next_ok b n wE hn (by omega) hCE) ?_
    rintro _ wF ⟨z, rfl, hz, hOF, hCF⟩
    have hgF := gOnly hgE hOF
    have hoF := hoE.only hOF (Own.ne hoE h.lt)
    have e1 : IntKind.i64.wrap (1 + (z : Int)) = ((1 + z : Nat) : Int) := by rw [i64_of (by omega) (by omega)]; omega
    have last : ∀ v' : Nat, 1 ≤ v' → v' ≤ n → (v' : Int) ≠ v → Spl n (ls ++ [⟨a, 10000, v'⟩]) := fun v' h1 h2 h3 => (hs.snoc (a' := 10000) (v' := v') ha1 (by omega) (by omega) h3).split (by simp; omega)
    have hBF : w.heap.size ≤ wF.heap.size := hgF.size
    conv => whnf
    rw [e1]
    refine vif_split (fun hv => ?_) (fun hv => ?_)
    · have hv : ((1 + z : Nat) : Int) = v := by simpa using hv
      have hn2' : 2 ≤ n := by
        rcases Nat.lt_or_ge n 2 with h | h
        · have h0 := hn1 (by omega)
          have := hs.zero (by omega)
          omega
        · exact h
      have ht := turn_ne (v := 1 + z) hn2' (by omega) (by omega)
      have e2 : ((1 + z : Nat) : Int).tmod (n : Int) = (((1 + z) % n : Nat) : Int) := by
        rw [Int.tmod_eq_emod_of_nonneg (by omega)]; simp
      have e3 : IntKind.i64.wrap (1 + (((1 + z) % n : Nat) : Int)) = ((1 + (1 + z) % n : Nat) : Int) := by rw [i64_of (by omega) (by omega)]; omega
      conv => whnf
      refine VReq.mk (by omega) ?_
      rw [e2]
      conv => whnf
      rw [e3]
      refine vs_app1 (n := ls.length) ⟨a, 10000, ((1 + (1 + z) % n : Nat) : Int)⟩ hoF (by omega) hBF ?_
      intro o9 c9 w9 ho9 hB9 _
      rw [← recs_one rc, ← recs_append] at ho9
      have hsp := last (1 + (1 + z) % n) (by omega) (by omega) (by rw [← hv]; omega)
      obtain ⟨ls9, hls9⟩ : ∃ l, l = ls ++ [⟨a, 10000, ((1 + (1 + z) % n : Nat) : Int)⟩] := ⟨_, rfl⟩
      have hl9 : ls.length + 1 = ls9.length := by rw [hls9]; simp
      rw [← hls9] at ho9 hsp
      rw [hl9] at ho9 ⊢
      conv => whnf
      exact VEnd.mk ⟨o9, c9, ls9, rfl, ho9, hsp, hCF.below hB9 h.lt, gBelow hgF hB9⟩
    · have hv : ¬ ((1 + z : Nat) : Int) = v := by intro e; simp [e] at hv
      conv => whnf
      refine vs_app1 (n := ls.length) ⟨a, 10000, ((1 + z : Nat) : Int)⟩ hoF (by omega) hBF ?_
      intro o9 c9 w9 ho9 hB9 _
      rw [← recs_one rc, ← recs_append] at ho9
      have hsp := last (1 + z) (by omega) (by omega) hv
      obtain ⟨ls9, hls9⟩ : ∃ l, l = ls ++ [⟨a, 10000, ((1 + z : Nat) : Int)⟩] := ⟨_, rfl⟩
      have hl9 : ls.length + 1 = ls9.length := by rw [hls9]; simp
      rw [← hls9] at ho9 hsp
      rw [hl9] at ho9 ⊢
      conv => whnf
      exact VEnd.mk ⟨o9, c9, ls9, rfl, ho9, hsp, hCF.below hB9 h.lt, gBelow hgF hB9⟩
end Go.Proofs.YthnncehddnfjmaaDoor.Bk

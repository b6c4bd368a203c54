/- Numbers as texts: the library's Itoa and the reference's Number; the text by which a value is hashed, by both. Conditions: the laid table of powers. -/
import Derived.Test.YthnncehddnfjmaaDoorHd2
import Derived.Test.YthnncehddnfjmaaDoorShl
import Derived.Test.YthnncehddnfjmaaDoorAx8
import Derived.Test.YthnncehddnfjmaaDoorBk12
set_option linter.unusedVariables false
set_option linter.unusedSimpArgs false
namespace Go.Proofs.YthnncehddnfjmaaDoor.Dw
open Go Go.RowKit Go.Proofs.YthnncehddnfjmaaDoor.Vc Go.Proofs.YthnncehddnfjmaaDoor.Dg Go.Proofs.YthnncehddnfjmaaDoor.Ax
attribute [local irreducible] loadVar storeVar Instr.indexAt Instr.index Instr.sliceAt Instr.makeSlice Instr.lookup Instr.mapUpdate Instr.range Instr.next Instr.entry Instr.makeMap Builtin.append_ Builtin.copy_ Builtin.len_ Builtin.min_ Builtin.max_ Builtin.cap_ Builtin.delete_ Builtin.clear_ convert binOp eqGuard Op.unary Calls
/-- the digits of a number, none of 0 -/
def dg (m : Nat) : List UInt8 := if h : m = 0 then [] else dg (m / 10) ++ [UInt8.ofNat (48 + m % 10)]
termination_by m
decreasing_by omega
theorem dg_zero : dg 0 = [] := by rw [dg, dif_pos rfl]
theorem dg_pos {m : Nat} (h : m ≠ 0) : dg m = dg (m / 10) ++ [UInt8.ofNat (48 + m % 10)] := by rw [dg, dif_neg h]
theorem dg_dec : ∀ (m : Nat), m ≠ 0 → Lib.decDigits m = dg m := by
  intro m
  induction m using Nat.strongRecOn with
  | ind m ih =>
    intro h
    rw [dg_pos h, Lib.decDigits]
    split
    · rename_i h10
      rw [show m / 10 = 0 by omega, dg_zero, show m % 10 = m by omega]; rfl
    · rw [ih (m / 10) (by omega) (by omega)]
theorem dg_len : ∀ (k m : Nat), m < 2 ^ k → (dg m).length ≤ k := by
  intro k
  induction k with
  | zero => intro m h; have : m = 0 := by simpa using h
            subst this; rw [dg_zero]; exact Nat.le_refl _
  | succ k ih =>
    intro m h
    by_cases h0 : m = 0
    · subst h0; rw [dg_zero]; exact Nat.zero_le _
    · rw [dg_pos h0, List.length_append]
      rw [Nat.pow_succ] at h
      have := ih (m / 10) (by omega)
      simp only [List.length_singleton]
      omega
theorem enc_dig (d : Nat) (h : d < 10) : Utf8.encode ((48 : Int) + (d : Int)) = ⟨#[UInt8.ofNat (48 + d)]⟩ := by
  match d, h with
  | 0, _ => rfl
  | 1, _ => rfl
  | 2, _ => rfl
  | 3, _ => rfl
  | 4, _ => rfl
  | 5, _ => rfl
  | 6, _ => rfl
  | 7, _ => rfl
  | 8, _ => rfl
  | 9, _ => rfl
theorem ba_app (a b : List UInt8) : (⟨a.toArray⟩ ++ ⟨b.toArray⟩ : ByteArray) = ⟨(a ++ b).toArray⟩ := by
  apply ByteArray.ext
  simp
/-- a number as a text -/
def itT (n : Int) : ByteArray := ⟨(Lib.itoa n).toArray⟩
def sgv (neg : Bool) (m : Nat) : Int := bif neg then -(m : Int) else (m : Int)
theorem sg_mod (neg : Bool) (m : Nat) : (sgv neg m).tmod 10 = sgv neg (m % 10) := by
  have h : ((m : Nat) : Int).tmod 10 = ((m % 10 : Nat) : Int) := rfl
  cases neg
  · exact h
  · simp only [sgv, cond_true, Int.neg_tmod, h]
theorem sg_div (neg : Bool) (m : Nat) : (sgv neg m).tdiv 10 = sgv neg (m / 10) := by
  have h : ((m : Nat) : Int).tdiv 10 = ((m / 10 : Nat) : Int) := rfl
  cases neg
  · exact h
  · simp only [sgv, cond_true, Int.neg_tdiv, h]
theorem w32 (d : Nat) (h : d < 10) : IntKind.i32.wrap ((48 : Int) + (d : Int)) = (48 : Int) + (d : Int) := by
  match d, h with
  | 0, _ => rfl
  | 1, _ => rfl
  | 2, _ => rfl
  | 3, _ => rfl
  | 4, _ => rfl
  | 5, _ => rfl
  | 6, _ => rfl
  | 7, _ => rfl
  | 8, _ => rfl
  | 9, _ => rfl
theorem aar_to {k : IntKind} {x y : Int} {K : Int → Prop} (h : k.wrap x = y) (c : K y) : AAr k x K := ⟨by rw [h]; exact c⟩
structure NX where
  m : Nat
  s : List UInt8
theorem itT_neg {n : Int} (h : n < 0) : itT n = ⟨(45 :: dg n.natAbs).toArray⟩ := by
  unfold itT Lib.itoa
  rw [if_pos h, dg_dec _ (by omega)]
theorem itT_pos {n : Int} (h : 0 < n) : itT n = ⟨(dg n.natAbs).toArray⟩ := by
  unfold itT Lib.itoa
  rw [if_neg (by omega), dg_dec _ (by omega), show n.toNat = n.natAbs by omega]
theorem itT_zero : itT 0 = ⟨#[48]⟩ := by
  unfold itT Lib.itoa
  rw [if_neg (by decide), Lib.decDigits, dif_pos (by decide)]
  rfl
set_option maxHeartbeats 4000000 in
set_option maxRecDepth 100000 in
theorem num2W (G : Glob) (n : Int) (hn : -9223372036854775808 ≤ n ∧ n ≤ 9223372036854775807) : AFn Tryd.prog G 47 [iw n] 0 [] (Is (.v (.string (itT n)))) := by
  refine afn_of Tryd.func47 rfl mixedW (by kernel_rfl) ?_
  conv => whnf
  refine vif_split (fun h => ?_) (fun h => ?_)
  · have h : n = 0 := by simpa using h
    subst h
    conv => whnf
    refine aret [] (congrArg Value.string itT_zero.symm)
  have h : n ≠ 0 := by simpa using h
  obtain ⟨neg, hneg⟩ : ∃ neg, neg = decide (n < 0) := ⟨_, rfl⟩
  have hv : n = sgv neg n.natAbs := by
    subst hneg; unfold sgv
    by_cases h0 : n < 0
    · rw [decide_eq_true h0, cond_true]; omega
    · rw [decide_eq_false h0, cond_false]; omega
  conv => whnf
  refine aloop ws47_1 0 [0, 3] (fun x : NX => [(0, iw (sgv neg x.m)), (3, .v (.string ⟨x.s.toArray⟩))]) (fun _ => []) (fun x => x.m ≤ n.natAbs ∧ dg x.m ++ x.s = dg n.natAbs) (fun x => x.m) [] [] ⟨n.natAbs, []⟩ (by kernel_rfl) (fun _ => rfl) rfl ⟨Nat.le_refl _, List.append_nil _⟩ trivial ⟨congrArg (Value.int .i64) hv, rfl, trivial⟩ ?_
  rintro ⟨m, s⟩ ⟨hm, hs⟩
  dsimp only at hm hs
  have hlen : (dg m).length + s.length ≤ 64 := by
    rw [← List.length_append, hs]; exact dg_len 64 _ (by omega)
  conv => whnf
  refine vif_split (fun h2 => ?_) (fun h2 => ?_)
  · have hm0 : m ≠ 0 := by
      rintro rfl
      cases neg <;> simp [sgv] at h2
    have hd : m % 10 < 10 := Nat.mod_lt _ (by decide)
    have hb : m ≤ 9223372036854775808 := by omega
    conv => whnf
    refine VReq.mk (by decide) ?_
    conv => whnf
    rw [show (sgv neg (NX.mk m s).m).tmod 10 = sgv neg (m % 10) from sg_mod neg m]
    have hq : (sgv neg (NX.mk m s).m).tdiv 10 = sgv neg (m / 10) := sg_div neg m
    have hr : -9223372036854775808 ≤ sgv neg (m / 10) ∧ sgv neg (m / 10) ≤ 9223372036854775807 := by
      cases neg <;> simp only [sgv, cond_true, cond_false] <;> omega
    have hsz : ∀ c : UInt8, (⟨#[c]⟩ : ByteArray).size = 1 := fun c => rfl
    have hss : (⟨s.toArray⟩ : ByteArray).size = s.length := by simp [ByteArray.size]
    refine vif_split (fun h3 => ?_) (fun h3 => ?_)
    · have h3 : sgv neg (m % 10) < 0 := of_decide_eq_true h3
      have hv5 : -sgv neg (m % 10) = ((m % 10 : Nat) : Int) := by
        cases neg <;> simp only [sgv, cond_true, cond_false] at h3 ⊢ <;> omega
      conv => whnf
      refine aar_to (y := ((m % 10 : Nat) : Int)) (by rw [show (0 : Int) - sgv neg (m % 10) = ((m % 10 : Nat) : Int) by omega]; exact IntWalk.i64_in _ (by omega)) ?_
      conv => whnf
      refine aar_to (y := (48 : Int) + ((m % 10 : Nat) : Int)) (IntWalk.i64_in _ (by omega)) ?_
      conv => whnf
      refine aar_to (w32 _ hd) ?_
      conv => whnf
      refine VReq.mk (by
        rw [enc_dig _ hd]
        show (((1 + (⟨s.toArray⟩ : ByteArray).size : Nat) : Int)) ≤ 9223372036854775807
        rw [hss]; omega) ?_
      conv => whnf
      refine VReq.mk (by decide) ?_
      conv => whnf
      refine aar_to (y := sgv neg (m / 10)) (by rw [hq]; exact IntWalk.i64_in _ hr) ?_
      conv => whnf
      refine aback ⟨m / 10, UInt8.ofNat (48 + m % 10) :: s⟩ [] [] rfl (by show m / 10 < m; omega) ⟨by show m / 10 ≤ _; omega, ?_⟩ trivial ⟨rfl, congrArg Value.string ?_, trivial⟩
      · show dg (m / 10) ++ (UInt8.ofNat (48 + m % 10) :: s) = _
        rw [← hs, dg_pos hm0, List.append_assoc]; rfl
      · rw [enc_dig _ hd]
        exact (ba_app [UInt8.ofNat (48 + m % 10)] s).symm
    · have h3 : ¬ sgv neg (m % 10) < 0 := of_decide_eq_false h3
      have hv5 : sgv neg (m % 10) = ((m % 10 : Nat) : Int) := by
        cases neg <;> simp only [sgv, cond_true, cond_false] at h3 ⊢ <;> omega
      rw [hv5]
      conv => whnf
      refine aar_to (y := (48 : Int) + ((m % 10 : Nat) : Int)) (IntWalk.i64_in _ (by omega)) ?_
      conv => whnf
      refine aar_to (w32 _ hd) ?_
      conv => whnf
      refine VReq.mk (by
        rw [enc_dig _ hd]
        show (((1 + (⟨s.toArray⟩ : ByteArray).size : Nat) : Int)) ≤ 9223372036854775807
        rw [hss]; omega) ?_
      conv => whnf
      refine VReq.mk (by decide) ?_
      conv => whnf
      refine aar_to (y := sgv neg (m / 10)) (by rw [hq]; exact IntWalk.i64_in _ hr) ?_
      conv => whnf
      refine aback ⟨m / 10, UInt8.ofNat (48 + m % 10) :: s⟩ [] [] rfl (by show m / 10 < m; omega) ⟨by show m / 10 ≤ _; omega, ?_⟩ trivial ⟨rfl, congrArg Value.string ?_, trivial⟩
      · show dg (m / 10) ++ (UInt8.ofNat (48 + m % 10) :: s) = _
        rw [← hs, dg_pos hm0, List.append_assoc]; rfl
      · rw [enc_dig _ hd]
        exact (ba_app [UInt8.ofNat (48 + m % 10)] s).symm
  · have hm0 : m = 0 := by
      have : sgv neg m = 0 := by simpa using h2
      cases neg <;> simp only [sgv, cond_true, cond_false] at this <;> omega
    subst hm0
    rw [dg_zero, List.nil_append] at hs
    subst hs
    conv => whnf
    refine vif_split (fun h3 => ?_) (fun h3 => ?_)
    · have h3 : n < 0 := of_decide_eq_true h3
      conv => whnf
      refine VReq.mk (by
        show (((1 + (⟨(dg n.natAbs).toArray⟩ : ByteArray).size : Nat) : Int)) ≤ 9223372036854775807
        rw [show (⟨(dg n.natAbs).toArray⟩ : ByteArray).size = (dg n.natAbs).length by simp [ByteArray.size]]; omega) ?_
      conv => whnf
      refine aret [] (congrArg Value.string ?_)
      rw [itT_neg h3]
      exact (ba_app [45] (dg n.natAbs)).symm
    · have h3 : ¬ n < 0 := of_decide_eq_false h3
      conv => whnf
      refine aret [] (congrArg Value.string ?_)
      exact (itT_pos (n := n) (by omega)).symm

theorem tab_keep {P : Program} {W w : World} {name : String} {k : IntKind} {zs : List Int} (h : Lib.TabIs P W name k zs) (hG : (GW W).holds w) : Lib.TabIs P w name k zs := by
  unfold Lib.TabIs World.var? at h ⊢
  cases hg : P.globalNamed name with
  | none => rw [hg] at h; cases h
  | some g =>
    rw [hg] at h
    simp only [Option.bind_some] at h ⊢
    have hlt : g < W.heap.size := by
      cases hh : W.heap[g]? with
      | none => rw [hh] at h; cases h
      | some o => exact (Array.getElem?_eq_some_iff.1 hh).1
    rw [gw_heap hG hlt]
    exact h
/-- what the laws' cards lay -/
structure Lw (W : World) : Prop where
  ld : Ld W
  hal : Bk.Hal W
  tab : Lib.TabIs Tryd.prog W "internal/strconv.uint64pow10" .u64 Lib.pow10Tab
theorem grow_below (w : World) (k : Nat) (os : Array Obj) : Below w.heap.size w (Sort.grow (w.drewN k) os) :=
  ⟨rfl, rfl, rfl, by simp [Sort.grow], fun j hj => by simp [Sort.grow, Array.getElem?_append, hj]⟩
theorem itoaW {W : World} (hW : Lw W) (n : Int) (hn : -9223372036854775808 ≤ n ∧ n ≤ 9223372036854775807) : AFn Tryd.prog (GW W) 56 [iw n] 0 [] (Is (.v (.string (itT n)))) :=
  afn_of_ret (l := [.int .i64 n]) fun w hG => Calls.mono (Tryd.strconv_Itoa n hn.1 hn.2 w (tab_keep hW.tab hG)) fun _ _ ⟨e, k, os, e2⟩ => ⟨_, e, rfl, by subst e2; exact grow_below _ _ _⟩
set_option maxRecDepth 100000 in
theorem num1W {W : World} (hW : Lw W) (n : Int) (hn : -9223372036854775808 ≤ n ∧ n ≤ 9223372036854775807) : AFn Tryd.prog (GW W) 46 [iw n] 0 [] (Is (.v (.string (itT n)))) := by
  refine afn_of Tryd.func46 rfl mixedW (by kernel_rfl) ?_
  conv => whnf
  (refine acall [] (by kernel_rfl) (itoaW hW n hn) rfl ?_ ?_; (focus (repeat' (first | rfl | trivial | apply And.intro))))
  conv => whnf
  exact aret [] rfl
/-- the text by which a value is hashed -/
def keyT (k n : Int) (t : ByteArray) : ByteArray := if k = 3 then t else if k = 4 then t else if k = 2 then itT n else if k = 1 then (if n = 1 then ⟨#[116, 114, 117, 101]⟩ else ⟨#[102, 97, 108, 115, 101]⟩) else ⟨#[]⟩
def keyB (k : Int) : Bool := decide (k = 1 ∨ k = 2 ∨ k = 3 ∨ k = 4)
set_option maxHeartbeats 1000000 in
set_option maxRecDepth 100000 in
theorem key1W {W : World} (hW : Lw W) (k n : Int) (t : ByteArray) (x : List (List FV)) (hn : -9223372036854775808 ≤ n ∧ n ≤ 9223372036854775807) :
    AFn Tryd.prog (GW W) 28 [.agg [iw k, iw n, .v (.string t), .lst 1 x]] 0 [] (Is (.tup [.v (.string (keyT k n t)), bw (keyB k)])) := by
  refine afn_of Tryd.func28 rfl mixedW (by kernel_rfl) ?_
  conv => whnf
  repeat' (first
    | (refine vif_split (fun h => ?_) (fun h => ?_) <;> (conv => whnf))
    | (refine acall [] (by kernel_rfl) (num1W hW n hn) rfl ?_ ?_; (focus (repeat' (first | rfl | trivial | apply And.intro))); (conv => whnf)))
  all_goals
    refine aret [] ⟨congrArg Value.string ?_, congrArg Value.bool ?_, trivial⟩ <;> (simp only [beq_iff_eq, beq_eq_false_iff_ne, ne_eq] at *) <;> (first | (exfalso; omega) | ((first | unfold keyT | unfold keyB) <;> (simp [*]; done)))
set_option maxHeartbeats 1000000 in
set_option maxRecDepth 100000 in
theorem key2W {W : World} (hW : Lw W) (k n : Int) (t : ByteArray) (x : List (List FV)) (hn : -9223372036854775808 ≤ n ∧ n ≤ 9223372036854775807) :
    AFn Tryd.prog (GW W) 29 [.agg [iw k, iw n, .v (.string t), .lst 1 x]] 0 [] (Is (.tup [.v (.string (keyT k n t)), bw (keyB k)])) := by
  refine afn_of Tryd.func29 rfl mixedW (by kernel_rfl) ?_
  conv => whnf
  repeat' (first
    | (refine vif_split (fun h => ?_) (fun h => ?_) <;> (conv => whnf))
    | (refine acall [] (by kernel_rfl) (num2W _ n hn) rfl ?_ ?_; (focus (repeat' (first | rfl | trivial | apply And.intro))); (conv => whnf)))
  all_goals
    refine aret [] ⟨congrArg Value.string ?_, congrArg Value.bool ?_, trivial⟩ <;> (simp only [beq_iff_eq, beq_eq_false_iff_ne, ne_eq] at *) <;> (first | (exfalso; omega) | ((first | unfold keyT | unfold keyB) <;> (simp [*]; done)))
end Go.Proofs.YthnncehddnfjmaaDoor.Dw

/- Codes that stay the same list: New, Left, Next, Text, Value of the draws over the first engine; what stands in memory at a law's beginning stays. Conditions: the laid texts, versions and lists. -/
import Derived.Test.YthnncehddnfjmaaDoorDw1
import Derived.Test.YthnncehddnfjmaaDoorAx2
set_option linter.unusedVariables false
set_option linter.unusedSimpArgs false
namespace Go.Proofs.YthnncehddnfjmaaDoor.Dw
open Go Go.RowKit Go.Proofs.YthnncehddnfjmaaDoor.Vc Go.Proofs.YthnncehddnfjmaaDoor.Dg Go.Proofs.YthnncehddnfjmaaDoor.Ax
attribute [local irreducible] loadVar storeVar Instr.indexAt Instr.index Instr.sliceAt Instr.makeSlice Instr.lookup Instr.mapUpdate Instr.range Instr.next Instr.entry Instr.makeMap Builtin.append_ Builtin.copy_ Builtin.len_ Builtin.min_ Builtin.max_ Builtin.cap_ Builtin.delete_ Builtin.clear_ convert binOp eqGuard Op.unary Calls

/-- all that stands in memory at a moment, as what stays -/
def GW (W : World) : Glob := ⟨W.heap.size, fun _ => none, fun g => W.heap[g]?⟩
theorem gw_holds (W : World) : (GW W).holds W := ⟨Nat.le_refl _, (fun _ _ h => by cases h), fun _ _ h => ⟨(Array.getElem?_eq_some_iff.1 h).1, h⟩⟩
theorem gw_heap {W w : World} (h : (GW W).holds w) {b : Nat} (hb : b < W.heap.size) : w.heap[b]? = W.heap[b]? := by
  have e : W.heap[b]? = some W.heap[b] := Array.getElem?_eq_getElem hb
  rw [e]
  exact (h.2.2 b _ e).2
theorem gw_cell {W w : World} (h : (GW W).holds w) {b j : Nat} {v : Value} (hc : W.cell? ⟨b, j, none⟩ = some v) : w.cell? ⟨b, j, none⟩ = some v := by
  rw [cell_heap (gw_heap h (World.block_lt_of_cell? W _ hc))]; exact hc
theorem gw_row {W w : World} (h : (GW W).holds w) {oa : Option Addr} {vs : List Value} (hr : Row W oa vs) : Row w oa vs := by
  rcases hr with h0 | ⟨b, o, e, hb, hc⟩
  · exact .inl h0
  · exact .inr ⟨b, o, e, Nat.lt_of_lt_of_le hb h.1, fun j v hj => gw_cell h (hc j v hj)⟩
/-- what is laid for the draws -/
structure Ld (w : World) : Prop where
  tx : ∀ k, k < 11 → ∃ s : ByteArray, w.cell? ⟨3, k, none⟩ = some (.string s) ∧ s.size ≤ 100
  vr : ∀ k, k < 6 → ∃ s : ByteArray, w.cell? ⟨1, k, none⟩ = some (.string s) ∧ s.size ≤ 100
  ls : ∀ k, k < 5 → ∃ (oa : Option Addr) (c : Nat) (ts : List ByteArray), w.cell? ⟨2, k, none⟩ = some (.slice oa ts.length c) ∧ (oa = none → c = 0) ∧ Row w oa (ts.map .string) ∧ ts.length ≤ 3
theorem Ld.keep {W w : World} (h : Ld W) (hG : (GW W).holds w) : Ld w := by
  refine ⟨fun k hk => ?_, fun k hk => ?_, fun k hk => ?_⟩
  · obtain ⟨s, h1, h2⟩ := h.tx k hk; exact ⟨s, gw_cell hG h1, h2⟩
  · obtain ⟨s, h1, h2⟩ := h.vr k hk; exact ⟨s, gw_cell hG h1, h2⟩
  · obtain ⟨oa, c, ts, h1, h2, h3, h4⟩ := h.ls k hk; exact ⟨oa, c, ts, gw_cell hG h1, h2, gw_row hG h3, h4⟩

/-- block b holds these choices; the list stands in an older block -/
def CodS (w : World) (B b : Nat) (oa : Option Addr) (c : Nat) (l : List UInt8) : Prop := ∃ a : Nat, Blk w b [.slice oa l.length c, .int .i64 a] 71 ∧ (l = [] ∨ ∃ b' o, oa = some ⟨b', o, none⟩ ∧ b' < B ∧ b' ≠ b ∧ At w b' o (bvals l)) ∧ a ≤ l.length ∧ l.length ≤ 65536
theorem CodS.lt {w : World} {B b : Nat} {oa : Option Addr} {c : Nat} {l : List UInt8} (h : CodS w B b oa c l) : b < w.heap.size := let ⟨_, hb, _⟩ := h; hb.lt
theorem CodS.below {w w' : World} {B B' b : Nat} {oa : Option Addr} {c : Nat} {l : List UInt8} (h : CodS w B b oa c l) (hB : Below B' w w') (hB2 : B ≤ B') (hb : b < B') : CodS w' B b oa c l := by
  obtain ⟨a, h1, h2, h4, h5⟩ := h
  refine ⟨a, h1.below hB hb, ?_, h4, h5⟩
  rcases h2 with h | ⟨b', o, he, hlt, hne, hc⟩
  · exact .inl h
  · exact .inr ⟨b', o, he, hlt, hne, At.below hc hB (by omega)⟩
theorem CodS.only {w w' : World} {B b g : Nat} {oa : Option Addr} {c : Nat} {l : List UInt8} (h : CodS w B b oa c l) (hO : Only g w w') (hB : B ≤ g) (hb : b ≠ g) : CodS w' B b oa c l := by
  obtain ⟨a, h1, h2, h4, h5⟩ := h
  refine ⟨a, h1.only hO hb, ?_, h4, h5⟩
  rcases h2 with h | ⟨b', o, he, hlt, hne, hc⟩
  · exact .inl h
  · exact .inr ⟨b', o, he, hlt, hne, At.only hc hO (by omega)⟩

set_option maxRecDepth 100000 in
theorem nextS_ok (B b k : Nat) (oa : Option Addr) (c : Nat) (l : List UInt8) (w : World) (hk : 1 ≤ k) (hk2 : k ≤ 65536) (h : CodS w B b oa c l) (hBw : B ≤ w.heap.size) :
    Ret Tryd.prog 12 #[.pointer (some ⟨b, 0, none⟩), .int .i64 k] w fun v w' => ∃ x : Nat, v = .int .i64 x ∧ x < k ∧ Only b w w' ∧ CodS w' B b oa c l := by
  refine ret_of_vc Tryd.func12 rfl mixed (by kernel_rfl) ?_
  obtain ⟨a, h1, h2, h4, h5⟩ := h
  conv => whnf
  refine vcall (by kernel_rfl) (left_ok b c a oa l.length w h1) ?_
  rintro _ w1 ⟨rfl, hQ⟩
  have h1' := h1.quiet hQ
  have hB : Below w.heap.size w w1 := hQ.below _
  conv => whnf
  refine vif_split (fun hlt => ?_) (fun hlt => ?_)
  · conv => whnf
    refine VEnd.mk ⟨0, rfl, by omega, hQ.only b, a, h1', ?_, h4, h5⟩
    rcases h2 with h | ⟨b', o, he, hlt, hne, hc⟩
    · exact .inl h
    · exact .inr ⟨b', o, he, hlt, hne, At.below hc hB (by omega)⟩
  · have hlt : a < l.length := by simpa using hlt
    conv => whnf
    refine vs_loadB rfl h1' rfl ?_
    conv => whnf
    refine vs_storeP h1' rfl rfl (by simp) ?_
    intro w2 hO2 hb2
    have hb2' : Blk w2.drew b [.slice oa l.length c, .int .i64 ((a + 1 : Nat) : Int)] 71 := by
      have := hb2
      simp only [Nat.zero_add] at this
      rw [incr (by omega)] at this
      exact this
    rcases h2 with h | ⟨b', o, he, hbb, hne, hc⟩
    · rw [h] at hlt; simp at hlt
    subst he
    have hc2 : At w2.drew b' o (bvals l) := (At.only (At.below hc hB (by omega)) hO2 hne).drew
    have hbv := bvals_get hlt
    conv => whnf
    (refine vdrawAt plan12 (by kernel_rfl) ?_; conv => whnf)
    refine vs_loadB rfl hb2' rfl ?_
    conv => whnf
    (repeat (first | (refine VReq.mk (by first | decide | omega) ?_; conv => whnf) | (refine VPend.mk rfl ?_; conv => whnf) | (refine VNext.keep rfl ?_; conv => whnf) | (refine vs_slI1 _ rfl rfl rfl (by assumption) ?_; conv => whnf) | (refine vs_slI _ rfl rfl rfl (by assumption) ?_; conv => whnf) | (refine vs_arr1 _ rfl rfl rfl (by assumption) ?_; conv => whnf) | (refine vs_loadF (by with_reducible assumption) (by assumption) rfl rfl ?_; conv => whnf) | (refine vs_loadF0 (by with_reducible assumption) (by assumption) rfl rfl ?_; conv => whnf) | (refine vs_loadI (by with_reducible assumption) (by assumption) rfl ?_; conv => whnf) | (refine vs_loadB rfl (by with_reducible assumption) (by assumption) ?_; conv => whnf)))
    refine vs_loadB rfl hb2' rfl ?_
    conv => whnf
    (repeat (first | (refine VReq.mk (by first | decide | omega) ?_; conv => whnf) | (refine VPend.mk rfl ?_; conv => whnf) | (refine VNext.keep rfl ?_; conv => whnf) | (refine vs_slI1 _ rfl rfl rfl (by assumption) ?_; conv => whnf) | (refine vs_slI _ rfl rfl rfl (by assumption) ?_; conv => whnf) | (refine vs_arr1 _ rfl rfl rfl (by assumption) ?_; conv => whnf) | (refine vs_loadF (by with_reducible assumption) (by assumption) rfl rfl ?_; conv => whnf) | (refine vs_loadF0 (by with_reducible assumption) (by assumption) rfl rfl ?_; conv => whnf) | (refine vs_loadI (by with_reducible assumption) (by assumption) rfl ?_; conv => whnf) | (refine vs_loadB rfl (by with_reducible assumption) (by assumption) ?_; conv => whnf)))
    rw [show IntKind.i64.wrap (((a + 1 : Nat) : Int) - 1) = (a : Int) by rw [i64_of (by omega) (by omega)]; omega]
    (repeat (first | (refine VReq.mk (by first | decide | omega) ?_; conv => whnf) | (refine VPend.mk rfl ?_; conv => whnf) | (refine VNext.keep rfl ?_; conv => whnf) | (refine vs_slI1 _ rfl rfl rfl (by assumption) ?_; conv => whnf) | (refine vs_slI _ rfl rfl rfl (by assumption) ?_; conv => whnf) | (refine vs_arr1 _ rfl rfl rfl (by assumption) ?_; conv => whnf) | (refine vs_loadF (by with_reducible assumption) (by assumption) rfl rfl ?_; conv => whnf) | (refine vs_loadF0 (by with_reducible assumption) (by assumption) rfl rfl ?_; conv => whnf) | (refine vs_loadI (by with_reducible assumption) (by assumption) rfl ?_; conv => whnf) | (refine vs_loadB rfl (by with_reducible assumption) (by assumption) ?_; conv => whnf)))
    have hby : l[a].toNat < 256 := l[a].toNat_lt
    rw [i64_of (x := ((l[a].toNat : Nat) : Int)) (by omega) (by omega)]
    have hmod : ((l[a].toNat : Nat) : Int).tmod (k : Int) = ((l[a].toNat % k : Nat) : Int) := by
      rw [Int.tmod_eq_emod_of_nonneg (by omega)]; simp
    rw [hmod]
    exact VEnd.mk ⟨l[a].toNat % k, rfl, Nat.mod_lt _ hk, ((hQ.only b).trans hO2).drew, a + 1, hb2', .inr ⟨b', o, rfl, hbb, hne, hc2⟩, hlt, h5⟩
theorem holds_only {W w w' : World} {b : Nat} (h : (GW W).holds w) (hO : Only b w w') (hb : W.heap.size ≤ b) : (GW W).holds w' :=
  Glob.chg h (Nat.le_of_eq hO.size.symm) fun k hk => hO.block k (by simp only [GW] at hk; omega)
theorem holds_below {W w w' : World} (h : (GW W).holds w) (hB : Below w.heap.size w w') : (GW W).holds w' :=
  Glob.chg h hB.size fun k hk => hB.block k (Nat.lt_of_lt_of_le hk h.1)

set_option maxRecDepth 100000 in
theorem textS_ok (W : World) (hL : Ld W) (B b : Nat) (hb : W.heap.size ≤ b) (oa : Option Addr) (c : Nat) (l : List UInt8) (w : World) (hG : (GW W).holds w) (h : CodS w B b oa c l) (hBw : B ≤ w.heap.size) :
    Ret Tryd.prog 55 #[.pointer (some ⟨b, 0, none⟩)] w fun v w' => ∃ s : ByteArray, v = .string s ∧ s.size ≤ 100 ∧ Only b w w' ∧ CodS w' B b oa c l := by
  refine ret_of_vc Tryd.func55 rfl mixed (by kernel_rfl) ?_
  conv => whnf
  refine vcall (by kernel_rfl) (nextS_ok B b 11 oa c l w (by omega) (by omega) h hBw) ?_
  rintro _ w1 ⟨x, rfl, hx, hO1, hC1⟩
  have hG1 := holds_only hG hO1 hb
  obtain ⟨s, hs, hs2⟩ := (hL.keep hG1).tx x hx
  conv => whnf
  refine vs_arr1 x rfl rfl rfl hx ?_
  conv => whnf
  refine vs_load1 rfl (by rw [Nat.zero_add]; exact hs) ?_
  conv => whnf
  exact VEnd.mk ⟨s, rfl, hs2, hO1, hC1⟩

/-- what Value answers, and what it changes -/
def ValO (B b : Nat) (oa : Option Addr) (c : Nat) (l : List UInt8) (k : Int) (w : World) (v : Value) (w' : World) : Prop :=
  ∃ (k' n : Int) (t : ByteArray) (oa2 : Option Addr) (c2 : Nat) (ts : List ByteArray), v = .agg #[.int .i64 k', .int .i64 n, .string t, .slice oa2 ts.length c2] ∧ (-9223372036854775808 ≤ n ∧ n ≤ 9223372036854775807) ∧ t.size ≤ 100 ∧ Own w' (w.heap.size + 1) 9 1 oa2 ts.length c2 (ts.map .string) ∧ ts.length ≤ 3 ∧ Chg (fun x => x = b) w w' ∧ CodS w' B b oa c l
set_option maxHeartbeats 4000000 in
set_option maxRecDepth 100000 in
theorem valueS_ok (W : World) (hL : Ld W) (B b : Nat) (hb : W.heap.size ≤ b) (oa : Option Addr) (c : Nat) (l : List UInt8) (k : Int) (w : World) (hG : (GW W).holds w) (h : CodS w B b oa c l) (hBw : B ≤ w.heap.size) :
    Ret Tryd.prog 45 #[.pointer (some ⟨b, 0, none⟩), .int .i64 k] w (ValO B b oa c l k w) := by
  refine ret_of_vc Tryd.func45 rfl mixed (by kernel_rfl) ?_
  conv => whnf
  have hB0 : Below w.heap.size w (w.alloc (.cells #[.int .i64 0, .int .i64 0, .string ⟨#[]⟩, .slice none 0 0] 49)) := balloc (Below.refl _ _) (Nat.le_refl _) _
  have hb0 := Blk.new w #[.int .i64 0, .int .i64 0, .string ⟨#[]⟩, .slice none 0 0] 49
  obtain ⟨w0, hw0⟩ : ∃ w0, w0 = w.alloc (.cells #[.int .i64 0, .int .i64 0, .string ⟨#[]⟩, .slice none 0 0] 49) := ⟨_, rfl⟩
  have hsz : w0.heap.size = w.heap.size + 1 := by rw [hw0]; simp
  rw [← hw0] at hB0 hb0
  try rw [← hw0]
  have hlt := h.lt
  have h0 := h.below hB0 hBw hlt
  have hG0 := holds_below hG hB0
  have fin : ∀ (k' n : Int) (t : ByteArray) (oa2 : Option Addr) (c2 : Nat) (ts : List ByteArray) (w1 w2 : World), (-9223372036854775808 ≤ n ∧ n ≤ 9223372036854775807) → t.size ≤ 100 → ts.length ≤ 3 → Own w1 (w.heap.size + 1) 9 1 oa2 ts.length c2 (ts.map .string) → Chg (fun x => x = b) w w1 → Only w.heap.size w1 w2 → CodS w1 B b oa c l →
      ValO B b oa c l k w (.agg #[.int .i64 k', .int .i64 n, .string t, .slice oa2 ts.length c2]) w2 := by
    intro k' n t oa2 c2 ts w1 w2 hn ht hl3 ho hc hO hcs
    refine ⟨k', n, t, oa2, c2, ts, rfl, hn, ht, ?_, hl3, hc.trans (Chg.ofOnly hO) (fun x hx => .inr (by omega)), hcs.only hO hBw (by omega)⟩
    exact ho.only hO fun g hg => by have := (ho.ge g (by rw [hg]; rfl)).1; omega
  have nxt : ∀ (n : Nat) (w1 : World) (K : Value → World → Prop), 1 ≤ n → n ≤ 65536 → B ≤ w1.heap.size → CodS w1 B b oa c l → (∀ x : Nat, x < n → ∀ w2, Only b w1 w2 → CodS w2 B b oa c l → K (.int .i64 x) w2) → VCall Tryd.prog 12 #[.pointer (some ⟨b, 0, none⟩), .int .i64 n] w1 K := by
    intro n w1 K h1 h2 h3 h4 hk
    exact vcall (by kernel_rfl) (nextS_ok B b n oa c l w1 h1 h2 h4 h3) (fun v w2 ⟨x, e, h5, h6, h7⟩ => by subst e; exact hk x h5 w2 h6 h7)
  have chB : ∀ {w1 w2 : World}, Below w.heap.size w w1 → Only b w1 w2 → Chg (fun x => x = b) w w2 := fun {w1 w2} h1 h2 => ((Chg.ofBelow0 h1).mono (M' := fun x => x = b) fun _ _ h => h.elim).trans (Chg.ofOnly h2) fun x hx => .inl hx
  refine vif_split (fun hk => ?_) (fun hk => ?_)
  · conv => whnf
    refine nxt 2 w0 _ (by omega) (by omega) (by omega) h0 fun x hx w1 hO1 hC1 => ?_
    conv => whnf
    refine vs_storeN (hb0.only hO1 (by omega)) rfl rfl rfl ?_
    intro w2 hO2 hb2
    conv => whnf
    refine vs_loadNB rfl rfl hb2 ?_
    refine ⟨rfl, ?_⟩
    exact VEnd.mk (fin k x ⟨#[]⟩ none 0 [] w1 w2 (by omega) (by decide) (by decide) (Own.nil _ _ _ _) (chB hB0 hO1) hO2 hC1)
  refine vif_split (fun hk => ?_) (fun hk => ?_)
  · conv => whnf
    have hbn := Blk.new w0 #[.int .i64 0, .int .i64 1, .int .i64 17, .int .i64 18, .int .i64 19, .int .i64 (-5), .int .i64 64, .int .i64 1099511627776, .int .i64 (-1099511627776)] 3
    have hBn : Below w.heap.size w (w0.alloc (.cells #[.int .i64 0, .int .i64 1, .int .i64 17, .int .i64 18, .int .i64 19, .int .i64 (-5), .int .i64 64, .int .i64 1099511627776, .int .i64 (-1099511627776)] 3)) := balloc hB0 (by omega) _
    refine nxt 9 _ _ (by omega) (by omega) (by simp; omega) (h0.below (balloc (Below.refl w0.heap.size _) (Nat.le_refl _) _) (by omega) (by omega)) fun x hx w1 hO1 hC1 => ?_
    have hx9 : ∃ z : Int, ([.int .i64 0, .int .i64 1, .int .i64 17, .int .i64 18, .int .i64 19, .int .i64 (-5), .int .i64 64, .int .i64 1099511627776, .int .i64 (-1099511627776)] : List Value)[x]? = some (.int .i64 z) ∧ (-9223372036854775808 ≤ z ∧ z ≤ 9223372036854775807) := by
      match x, hx with
      | 0, _ => exact ⟨_, rfl, by decide⟩
      | 1, _ => exact ⟨_, rfl, by decide⟩
      | 2, _ => exact ⟨_, rfl, by decide⟩
      | 3, _ => exact ⟨_, rfl, by decide⟩
      | 4, _ => exact ⟨_, rfl, by decide⟩
      | 5, _ => exact ⟨_, rfl, by decide⟩
      | 6, _ => exact ⟨_, rfl, by decide⟩
      | 7, _ => exact ⟨_, rfl, by decide⟩
      | 8, _ => exact ⟨_, rfl, by decide⟩
    obtain ⟨z, hz, hzr⟩ := hx9
    conv => whnf
    refine vs_sl1 x rfl rfl rfl hx ?_
    conv => whnf
    refine vs_loadB rfl (hbn.only hO1 (by omega)) (by rw [Nat.zero_add]; exact hz) ?_
    conv => whnf
    refine vs_storeN ((hb0.below (balloc (Below.refl w0.heap.size _) (Nat.le_refl _) _) (by omega)).only hO1 (by omega)) rfl rfl rfl ?_
    intro w2 hO2 hb2
    conv => whnf
    refine vs_loadNB rfl rfl hb2 ?_
    refine ⟨rfl, ?_⟩
    exact VEnd.mk (fin k z ⟨#[]⟩ none 0 [] w1 w2 hzr (by decide) (by decide) (Own.nil _ _ _ _) (chB hBn hO1) hO2 hC1)
  refine vif_split (fun hk => ?_) (fun hk => ?_)
  · conv => whnf
    refine vcall (by kernel_rfl) (textS_ok W hL B b hb oa c l w0 hG0 h0 (by omega)) ?_
    rintro _ w1 ⟨s, rfl, hs, hO1, hC1⟩
    conv => whnf
    refine vs_storeN (hb0.only hO1 (by omega)) rfl rfl rfl ?_
    intro w2 hO2 hb2
    conv => whnf
    refine vs_loadNB rfl rfl hb2 ?_
    refine ⟨rfl, ?_⟩
    exact VEnd.mk (fin k 0 s none 0 [] w1 w2 (by decide) hs (by decide) (Own.nil _ _ _ _) (chB hB0 hO1) hO2 hC1)
  refine vif_split (fun hk => ?_) (fun hk => ?_)
  · conv => whnf
    refine nxt 6 w0 _ (by omega) (by omega) (by omega) h0 fun x hx w1 hO1 hC1 => ?_
    obtain ⟨s, hs, hs2⟩ := (hL.keep (holds_only hG0 hO1 hb)).vr x hx
    conv => whnf
    refine vs_arr1 x rfl rfl rfl hx ?_
    conv => whnf
    refine vs_load1 rfl (by rw [Nat.zero_add]; exact hs) ?_
    conv => whnf
    refine vs_storeN (hb0.only hO1 (by omega)) rfl rfl rfl ?_
    intro w2 hO2 hb2
    conv => whnf
    refine vs_loadNB rfl rfl hb2 ?_
    refine ⟨rfl, ?_⟩
    exact VEnd.mk (fin k 0 s none 0 [] w1 w2 (by decide) hs2 (by decide) (Own.nil _ _ _ _) (chB hB0 hO1) hO2 hC1)
  · conv => whnf
    refine nxt 5 w0 _ (by omega) (by omega) (by omega) h0 fun x hx w1 hO1 hC1 => ?_
    obtain ⟨oa1, c1, ts, hs, hn, hr, hl3⟩ := (hL.keep (holds_only hG0 hO1 hb)).ls x hx
    have hs1 := hO1.size
    conv => whnf
    refine vs_arr1 x rfl rfl rfl hx ?_
    conv => whnf
    refine vs_load1 rfl (by rw [Nat.zero_add]; exact hs) ?_
    conv => whnf
    refine vs_append (sz := 1) (by_ := 16) (B := w.heap.size + 1) (n := 0) (m := ts.length) (xs := []) (news := ts.map .string) rfl rfl rfl rfl rfl rfl (Own.nil _ _ _ _) hr (by simp) (fun u hu => by obtain ⟨y, _, rfl⟩ := List.mem_map.1 hu; rfl) hn (by omega) (by omega) (by unfold maxLen; omega) ?_
    intro o2 c2 w2 ho2 hB2 _
    rw [Nat.zero_add, List.nil_append] at ho2
    conv => whnf
    refine vs_storeN ((hb0.only hO1 (by omega)).below hB2 (by omega)) rfl rfl rfl ?_
    intro w3 hO3 hb3
    conv => whnf
    refine vs_loadNB rfl rfl hb3 ?_
    refine ⟨rfl, ?_⟩
    refine VEnd.mk ?_
    have hh := fin 5 0 ⟨#[]⟩ o2 c2 ts w2 w3 (by decide) (by decide) hl3 ho2 ((chB hB0 hO1).trans (Chg.ofBelow hB2) fun x hx => .inr (by omega)) hO3 (hC1.below hB2 (by omega) (by omega))
    rw [Nat.zero_add]
    exact hh
end Go.Proofs.YthnncehddnfjmaaDoor.Dw

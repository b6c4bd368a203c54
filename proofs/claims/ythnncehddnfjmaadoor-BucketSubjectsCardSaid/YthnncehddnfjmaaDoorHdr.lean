/- What the cards' variables of BucketHashes and BucketSubjects read as. No condition. -/
import Derived.Test.YthnncehddnfjmaaDoorHd3
import Derived.Test.YthnncehddnfjmaaDoorBkr
import Derived.Test.YthnncehddnfjmaaDoorRdg
set_option linter.unusedVariables false
set_option linter.unusedSimpArgs false
namespace Go.Proofs.YthnncehddnfjmaaDoor.Dw
open Go Go.RowKit Go.Proofs.YthnncehddnfjmaaDoor.Vc Go.Proofs.YthnncehddnfjmaaDoor.Dg Go.Proofs.YthnncehddnfjmaaDoor.Ax
/-- an array of one-cell elements -/
theorem arr_at {H : Type} {enc : TypeId × Value → H} {P : Program} {W : World} {name : String} {g : Nat} {t e : TypeId} {n fuel : Nat} {cs : Array Value} {ds : List (DataW H)} {p : List MemPlace} {held : Bool}
    (hg : P.globalNamed name = some g) (hv : W.var? P name = some cs) (ht : P.underlying t = some (.array n e)) (he : P.cellsOf e = 1) (hd : DataW.trod enc P W 0 (fun _ => true) held fuel t cs.toList = some (.agg ds, p)) (k : Nat) (hk : k < n) :
    ∃ v d, W.cell? ⟨g, k, none⟩ = some v ∧ ds[k]? = some d ∧ RdD enc P W e [v] d := by
  obtain ⟨xs, m, rfl, hd, hcl, hxl, hel⟩ := DataW.trod_array ht hd
  injection hd with hd _
  injection hd with hd
  subst hd
  have h1 := hel k hk
  rw [he, Nat.mul_one, List.getElem?_eq_getElem (by omega)] at h1
  rw [World.var?_cell hg hv k, ← Array.getElem?_toList]
  cases hdr : cs.toList.drop k with
  | nil =>
    rw [hdr] at h1
    exfalso
    have hct : P.cellsOf t = n * P.cellsOf e ∨ True := .inr trivial
    have : (cs.toList.drop k).length = 0 := by rw [hdr]; rfl
    rw [List.length_drop] at this
    exact absurd h1 (by
      intro h1
      cases m with
      | zero => simp [DataW.trod] at h1
      | succ m =>
        unfold DataW.trod at h1
        split at h1 <;> simp_all)
  | cons v r =>
    rw [hdr] at h1
    have hv : cs.toList[k]? = some v := by
      have := congrArg (·[0]?) hdr
      simpa [List.getElem?_drop] using this
    exact ⟨v, _, hv, by rw [List.getElem?_map, List.getElem?_eq_getElem (by omega)]; rfl, held, m, _, h1⟩
theorem gTx : Tryd.prog.globalNamed "flagstone/flagstonedraw.texts" = some 3 := by kernel_rfl
theorem tTx : (Tryd.prog.globals[3]?).map (·.type) = some 103 := by kernel_rfl
theorem gVr : Tryd.prog.globalNamed "flagstone/flagstonedraw.versions" = some 1 := by kernel_rfl
theorem tVr : (Tryd.prog.globals[1]?).map (·.type) = some 92 := by kernel_rfl
theorem gLs : Tryd.prog.globalNamed "flagstone/flagstonedraw.lists" = some 2 := by kernel_rfl
theorem tLs : (Tryd.prog.globals[2]?).map (·.type) = some 93 := by kernel_rfl
theorem gPw : Tryd.prog.globalNamed "internal/strconv.uint64pow10" = some 4 := by kernel_rfl
theorem tPw : (Tryd.prog.globals[4]?).map (·.type) = some 125 := by kernel_rfl
/-- each text of a laid list is short -/
def shortD (d : DataW Unit) : Bool := match d with | .lit (.string s) => Nat.ble s.length 100 | _ => false
def fewD (d : DataW Unit) : Bool := match d with | .slice l _ => Nat.ble l.length 3 | .nil => true | _ => false
theorem str_at {P : Program} {W : World} {e : TypeId} {v : Value} {d : DataW Unit} {enc : TypeId × Value → Unit} (he : P.underlying e = some .string) (h : RdD enc P W e [v] d) (hs : shortD d = true) : ∃ s : ByteArray, v = .string s ∧ s.size ≤ 100 := by
  obtain ⟨held, fuel, p, hx⟩ := h
  obtain ⟨s, e1, e2, _⟩ := DataW.trod_string he hx
  injection e2 with e2
  subst e2
  injection e1 with e1
  refine ⟨s, e1, ?_⟩
  have := Nat.le_of_ble_eq_true hs
  simpa using this
theorem lst_at {P : Program} {W : World} {e u : TypeId} {v : Value} {d : DataW Unit} {enc : TypeId × Value → Unit} (he : P.underlying e = some (.slice u)) (hu : P.underlying u = some .string) (h : RdD enc P W e [v] d) (hs : fewD d = true) :
    ∃ (oa : Option Addr) (c : Nat) (ts : List ByteArray), v = .slice oa ts.length c ∧ (oa = none → c = 0) ∧ Row W oa (ts.map .string) ∧ ts.length ≤ 3 := by
  obtain ⟨oa, len, cap, css, ds, hcs, _, _, hn, hcl, hr, hall, hdl, hd, hel⟩ := rdd_slice he h
  have hts : ∃ ts : List ByteArray, css.flatten = ts.map Value.string ∧ ts.length = css.length := by
    clear hr hcl hel
    induction css with
    | nil => exact ⟨[], rfl, rfl⟩
    | cons c r ih =>
      obtain ⟨ts, h1, h2⟩ := ih fun c hc => hall c (by simp [hc])
      obtain ⟨_, d', held, fuel, p, hx⟩ := hall c (by simp)
      obtain ⟨s, e1, _, _⟩ := DataW.trod_string hu hx
      exact ⟨s :: ts, by rw [List.flatten_cons, h1, e1]; rfl, by simp [h2]⟩
  obtain ⟨ts, h1, h2⟩ := hts
  rw [h1] at hr
  injection hcs with hcs
  refine ⟨oa, cap, ts, by rw [hcs, h2, hcl], hn, hr, ?_⟩
  rcases hd with ⟨_, h0⟩ | ⟨rest, e⟩
  · omega
  · subst e
    have := Nat.le_of_ble_eq_true hs
    omega
theorem all_at {f : DataW Unit → Bool} {l : List (DataW Unit)} (h : l.all f = true) {k : Nat} {d : DataW Unit} (hk : l[k]? = some d) : f d = true := List.all_eq_true.1 h d (List.mem_of_getElem? hk)
set_option maxRecDepth 100000 in
theorem lw_of {W : World} (h : laidMetH Tryd.prog [("math/bits.deBruijn32tab", Rows.laid_math_bits_deBruijn32tab), ("math/bits.deBruijn64tab", Rows.laid_math_bits_deBruijn64tab), ("internal/strconv.uint64pow10", Rows.laid_internal_strconv_uint64pow10), ("flagstone/flagstonedraw.texts", Rows.laid_flagstone_flagstonedraw_texts), ("flagstone/flagstonedraw.versions", Rows.laid_flagstone_flagstonedraw_versions), ("flagstone/flagstonedraw.lists", Rows.laid_flagstone_flagstonedraw_lists), ("flagstone/flagstonelaw13.halves", Rows.laid_flagstone_flagstonelaw13_halves)] W) : Lw W := by
  rw [MakeChecks.laidMetH_plain _ _ _ (by kernel_rfl)] at h
  obtain ⟨ps, h, _⟩ := h
  obtain ⟨_, _, _, _, _, _, _, _, _, _, h, _⟩ := h
  obtain ⟨_, _, _, _, _, _, _, _, _, _, h, _⟩ := h
  obtain ⟨g1, t1, cs1, f1, p1, q1, hg1, ht1, hv1, hd1, h, _⟩ := h
  obtain ⟨g2, t2, cs2, f2, p2, q2, hg2, ht2, hv2, hd2, h, _⟩ := h
  obtain ⟨g3, t3, cs3, f3, p3, q3, hg3, ht3, hv3, hd3, h, _⟩ := h
  obtain ⟨g4, t4, cs4, f4, p4, q4, hg4, ht4, hv4, hd4, h, _⟩ := h
  obtain rfl := Option.some.inj (gPw.symm.trans hg1)
  obtain rfl := Option.some.inj (tPw.symm.trans ht1)
  obtain rfl := Option.some.inj (gTx.symm.trans hg2)
  obtain rfl := Option.some.inj (tTx.symm.trans ht2)
  obtain rfl := Option.some.inj (gVr.symm.trans hg3)
  obtain rfl := Option.some.inj (tVr.symm.trans ht3)
  obtain rfl := Option.some.inj (gLs.symm.trans hg4)
  obtain rfl := Option.some.inj (tLs.symm.trans ht4)
  refine ⟨⟨fun k hk => ?_, fun k hk => ?_, fun k hk => ?_⟩, Bk.hal_of_vars h, ?_⟩
  · obtain ⟨v, d, h1, h2, h3⟩ := arr_at (e := 9) hg2 hv2 rfl (by kernel_rfl) hd2 k hk
    obtain ⟨s, rfl, hs⟩ := str_at rfl h3 (all_at (by kernel_rfl) h2)
    exact ⟨s, h1, hs⟩
  · obtain ⟨v, d, h1, h2, h3⟩ := arr_at (e := 9) hg3 hv3 rfl (by kernel_rfl) hd3 k hk
    obtain ⟨s, rfl, hs⟩ := str_at rfl h3 (all_at (by kernel_rfl) h2)
    exact ⟨s, h1, hs⟩
  · obtain ⟨v, d, h1, h2, h3⟩ := arr_at (e := 47) hg4 hv4 rfl (by kernel_rfl) hd4 k hk
    obtain ⟨oa, c, ts, rfl, hn, hr, hl⟩ := lst_at (u := 9) rfl rfl h3 (all_at (by kernel_rfl) h2)
    exact ⟨oa, c, ts, h1, hn, hr, hl⟩
  · unfold Lib.TabIs
    rw [hv1]
    have e := Lib.cells_of_tab (n := 20) (e := 81) (k := .u64) (zs := Lib.pow10Tab) rfl rfl (by kernel_rfl) (by kernel_rfl) (show DataW.trod _ _ _ _ _ _ _ _ _ = some (Lib.tabData .u64 Lib.pow10Tab, _) from hd1)
    rw [← e]
/-- a value as argument -/
def vsh : List Sh := [.n .i64, .n .i64, .s, .l 16 [.s]]
theorem i64_lit {n : Int} (h : (Lit.int .i64 n).wf = true) : -9223372036854775808 ≤ n ∧ n ≤ 9223372036854775807 := by
  simpa [Lit.wf, IntKind.min, IntKind.max, IntKind.signed, IntKind.bits] using h
theorem value_row {row : List FV} (h : OkR vsh row) : ∃ (k n : Int) (t : ByteArray) (x : List (List FV)), row = [.v (.int .i64 k), .v (.int .i64 n), .v (.string t), .lst 1 x] ∧ (-9223372036854775808 ≤ n ∧ n ≤ 9223372036854775807) ∧ t.size ≤ 140737488351232 := by
  obtain ⟨a, r, rfl, ha, h⟩ := h.cons_inv
  obtain ⟨b, r, rfl, hb, h⟩ := h.cons_inv
  obtain ⟨c, r, rfl, hc, h⟩ := h.cons_inv
  obtain ⟨d, r, rfl, hd, h⟩ := h.cons_inv
  obtain rfl := h.nil_inv
  obtain ⟨rows, rfl, _, _⟩ := hd.l_inv
  cases ha with
  | n ha =>
  cases hb with
  | n hb =>
  cases hc with
  | s t ht => exact ⟨_, _, _, _, rfl, i64_lit hb, ht⟩
theorem recs_bv (l : List UInt8) : recs (fun c : UInt8 => [Value.int .u8 (c.toNat : Int)]) l = bvals l := by
  induction l with
  | nil => rfl
  | cons a r ih => show [Value.int .u8 (a.toNat : Int)] ++ recs _ r = _ :: _; rw [ih]; rfl
theorem rd_bysW {H : Type} {enc : TypeId × Value → H} {P : Program} {w : World} {t e : TypeId} {cs : List Value} (ht : P.underlying t = some (.slice e)) (he : P.underlying e = some (.int .u8)) (h : Rd enc P w t cs) :
    ∃ (oa : Option Addr) (l : List UInt8) (cap : Nat), cs = [.slice oa l.length cap] ∧ True ∧ ARep 0 loc0 (Here w) w (bsw l) (.slice oa l.length cap) := by
  obtain ⟨oa, l, cap, hcs, hlc, hn, hr⟩ := rd_bytes ht he h
  refine ⟨oa, l, cap, hcs, trivial, .lst (frep_flat (enc := enB) (c := fun c : UInt8 => [Value.int .u8 (c.toNat : Int)]) (fun _ => rfl) (fun _ => rfl) (fun a v hv => by rw [List.mem_singleton.1 hv]; rfl) hlc hn (by rw [recs_bv]; exact hr) (fun b hb => hb) (by decide))⟩
end Go.Proofs.YthnncehddnfjmaaDoor.Dw

/- The sticky functions over abstract values: encodings, and the contracts of the first engine turned. Condition of all: the library's table of spaces holds what it was laid with (GS). -/
import Derived.Test.YtinpgogjkmmjpaaDoorAx8
import Derived.Test.YtinpgogjkmmjpaaDoorSp2
import Derived.Test.YtinpgogjkmmjpaaDoorPlans
set_option linter.unusedVariables false
set_option linter.unusedSimpArgs false
namespace Go.Proofs.YtinpgogjkmmjpaaDoor.Sx
open Go Go.RowKit Go.Proofs.YtinpgogjkmmjpaaDoor.Vc Go.Proofs.YtinpgogjkmmjpaaDoor.Ax Go.Proofs.YtinpgogjkmmjpaaDoor.Ky Go.Proofs.YtinpgogjkmmjpaaDoor.Id Go.Proofs.YtinpgogjkmmjpaaDoor.Sp

abbrev sv (s : ByteArray) : AV := .v (.string s)
abbrev iv (n : Int) : AV := .v (.int .i64 n)
abbrev bv (b : Bool) : AV := .v (.bool b)
def lkF (k : Lk) : List FV := [.v (.string k.a), .v (.string k.b), .v (.int .i64 k.t)]
def slF (s : Sl) : List FV := [.v (.string s.id), .v (.string s.layer), .v (.string s.exp), .v (.int .i64 s.arm), .v (.int .i64 s.from_), .v (.int .i64 s.to_), .v (.int .i64 s.fin)]
abbrev lksA (l : List Lk) : AV := .lst 3 (l.map lkF)
abbrev slsA (l : List Sl) : AV := .lst 7 (l.map slF)
def rgA (r : Rg) : AV := .agg [iv r.now, lksA r.links, slsA r.slots]
def slA (s : Sl) : AV := .agg ((slF s).map FV.up)
def spL : List Value := (List.range 256).map fun c => .int .u8 (spT c)
def GS : Glob := ⟨0 + 1, fun g => if g = 0 then some spL else none⟩
theorem asc_of {w : World} (h : GS.holds w) : Asc w := by
  refine ⟨Nat.lt_of_lt_of_le (Nat.lt_succ_self _) h.1, fun c hc => ?_⟩
  have := (h.2 0 spL (by simp [GS])).2 c (.int .u8 (spT c)) (by unfold spL; rw [List.getElem?_map, List.getElem?_range hc]; rfl)
  exact this
abbrev lenOK (n : Nat) : Prop := n ≤ 1099511627776
/-- the size of a text -/
abbrev strOK (n : Nat) : Prop := n ≤ 140737488355328
theorem key1A (s : ByteArray) (h : strOK s.size) : AFn Tryd.prog GS 43 [sv s] 0 [] (Is (bv (keyB s))) := afn_of_ret (l := [.string s]) fun w hG => key1_ok s w (asc_of hG) h
theorem key2A (s : ByteArray) (h : strOK s.size) : AFn Tryd.prog GS 46 [sv s] 0 [] (Is (bv (keyB s))) := afn_of_ret (l := [.string s]) fun w hG => key2_ok s w h
theorem rep1 {n : Nat} {σ : Nat → Ax.Loc} {F : Nat → Prop} {w : World} {a : AV} {vs : List Value} (r : RepL n σ F w [a] vs) : ∃ v, vs = [v] ∧ ARep n σ F w a v := by
  match vs, r with
  | [v], r => exact ⟨v, rfl, r.1⟩
theorem rep2 {n : Nat} {σ : Nat → Ax.Loc} {F : Nat → Prop} {w : World} {a b : AV} {vs : List Value} (r : RepL n σ F w [a, b] vs) : ∃ v u, vs = [v, u] ∧ ARep n σ F w a v ∧ ARep n σ F w b u := by
  match vs, r with
  | [v, u], r => exact ⟨v, u, rfl, r.1, r.2.1⟩
theorem rep3 {n : Nat} {σ : Nat → Ax.Loc} {F : Nat → Prop} {w : World} {a b c : AV} {vs : List Value} (r : RepL n σ F w [a, b, c] vs) : ∃ v u x, vs = [v, u, x] ∧ ARep n σ F w a v ∧ ARep n σ F w b u ∧ ARep n σ F w c x := by
  match vs, r with
  | [v, u, x], r => exact ⟨v, u, x, rfl, r.1, r.2.1, r.2.2.1⟩
theorem lk_src {n : Nat} {σ : Nat → Ax.Loc} {F : Nat → Prop} {w : World} {l : List Lk} {v : Value} (h : ARep n σ F w (lksA l) v) (hF : ∀ b, F b → b < w.heap.size) :
    ∃ oa cap, v = .slice oa l.length cap ∧ l.length ≤ cap ∧ (oa = none → cap = 0) ∧ Row w oa (recs lkc l) := flat_src (sz := 3) (enc := lkF) (c := lkc) (fun _ => rfl) h hF
theorem sl_src {n : Nat} {σ : Nat → Ax.Loc} {F : Nat → Prop} {w : World} {l : List Sl} {v : Value} (h : ARep n σ F w (slsA l) v) (hF : ∀ b, F b → b < w.heap.size) :
    ∃ oa cap, v = .slice oa l.length cap ∧ l.length ≤ cap ∧ (oa = none → cap = 0) ∧ Row w oa (recs slc l) := flat_src (sz := 7) (enc := slF) (c := slc) (fun _ => rfl) h hF
theorem rootA (ls : List Lk) (x : ByteArray) (h : lenOK ls.length) : AFn Tryd.prog GS 45 [lksA ls, sv x] 0 [] (Is (sv (rt ls x))) :=
  afn_flat fun w σ F vs hG hF r => by
    obtain ⟨v, u, rfl, r1, r2⟩ := rep2 r
    obtain ⟨oa, c, rfl, _, _, hr⟩ := lk_src r1 hF
    rw [r2.v_eq]
    exact root_ok oa c ls x w hr h
theorem same1A (ls : List Lk) (x y : ByteArray) (h : lenOK ls.length) : AFn Tryd.prog GS 52 [lksA ls, sv x, sv y] 0 [] (Is (bv (decide (rt ls x = rt ls y)))) :=
  afn_flat fun w σ F vs hG hF r => by
    obtain ⟨v, u, z, rfl, r1, r2, r3⟩ := rep3 r
    obtain ⟨oa, c, rfl, _, _, hr⟩ := lk_src r1 hF
    rw [r2.v_eq, r3.v_eq]
    exact same1_ok oa c ls x y w hr h
theorem same2A (ls : List Lk) (x y : ByteArray) (h : ls.length ≤ 1000000) : AFn Tryd.prog GS 25 [lksA ls, sv x, sv y] 0 [] (Is (bv (decide (rt ls x = rt ls y)))) :=
  afn_flat fun w σ F vs hG hF r => by
    obtain ⟨v, u, z, rfl, r1, r2, r3⟩ := rep3 r
    obtain ⟨oa, c, rfl, _, _, hr⟩ := lk_src r1 hF
    rw [r2.v_eq, r3.v_eq]
    exact same2_ok oa c ls x y w hr h
theorem rg_src {n : Nat} {σ : Nat → Ax.Loc} {F : Nat → Prop} {w : World} {r : Rg} {v : Value} (h : ARep n σ F w (rgA r) v) (hF : ∀ b, F b → b < w.heap.size) : RegV w r v := by
  obtain ⟨us, rfl, h2⟩ := RepL.ofAgg h
  obtain ⟨a, b, c, rfl, r1, r2, r3⟩ := rep3 h2
  obtain ⟨oa, ca, rfl, h1, h2', h3⟩ := lk_src r2 hF
  obtain ⟨ob, cb, rfl, k1, k2, k3⟩ := sl_src r3 hF
  rw [r1.v_eq]
  exact ⟨oa, ca, ob, cb, rfl, h1, h2', h3, k1, k2, k3⟩
theorem valid1A (r : Rg) (h : RegS r) : AFn Tryd.prog GS 20 [rgA r] 0 [] (Is (bv (validB r))) :=
  afn_flat fun w σ F vs hG hF rr => by
    obtain ⟨v, rfl, r1⟩ := rep1 rr
    exact valid1_ok r v w (asc_of hG) (rg_src r1 hF) h
end Go.Proofs.YtinpgogjkmmjpaaDoor.Sx

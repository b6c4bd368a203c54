/- Joined parts of the proof. The law ColumnScans, its walk -/
import Derived.Test.YtmhpfadbmpipkaaGreatDoorPk20
import Derived.Test.YtmhpfadbmpipkaaGreatDoorPk7
import Derived.Test.YtmhpfadbmpipkaaGreatDoorPk2
import Derived.ProofKit
import Derived.Test.YtmhpfadbmpipkaaGreatDoorPk11
import Derived.OpenShut
import Derived.Test.YtmhpfadbmpipkaaGreatDoorPk9
import Derived.Test.YtmhpfadbmpipkaaGreatDoorRows
import Derived.LaidMore
import Derived.Stop.Joined
set_option linter.unusedVariables false
set_option linter.unusedSimpArgs false
set_option maxRecDepth 100000
set_option maxHeartbeats 16000000
namespace Go.Proofs.YtmhpfadbmpipkaaGreatDoor.Cl
open Go Go.RowKit Go.Proofs Go.Proofs.YtmhpfadbmpipkaaGreatDoor.Vc Go.Proofs.YtmhpfadbmpipkaaGreatDoor.Ax Go.Proofs.YtmhpfadbmpipkaaGreatDoor.Ky
attribute [local irreducible] loadVar storeVar Instr.indexAt Instr.index Instr.sliceAt Instr.makeSlice Instr.lookup Instr.mapUpdate Instr.range Instr.next Instr.entry Instr.makeMap Builtin.append_ Builtin.copy_ Builtin.len_ Builtin.min_ Builtin.max_ Builtin.cap_ Builtin.delete_ Builtin.clear_ convert binOp eqGuard Op.unary Calls
section
attribute [local irreducible] best ints en bd txs dsT bdy chb lims evC
abbrev i8v (n : Int) : AV := .v (.int .i8 n)
theorem scanBoth (b : By) (f t : Int) (hb : b.length ≤ 100000) : ∃ (p : List Ev) (n e : Int), p.length ≤ 512 ∧ AFn Tryz.prog GS 16 [bs b, iv f, iv t] 0 [] (Is (.tup [el p, iv n, iv e])) ∧ AFn Tryz.prog GS 17 [bs b, iv f, iv t] 0 [] (Is (.tup [el p, iv n, iv e])) := by
 rcases tabCase b with ⟨l, hok, hv, rfl⟩ | h
 ·have hl := (tbE_0 hv).1
  have h1 := scanA l f t hl hok hv hb
  unfold ScO at h1
  rw [selC_all] at h1
  have := List.length_filter_le (inT f t) l
  exact ⟨sel f t l, _, 0, by unfold sel; omega, h1, scan2A l f t hok hv hb⟩
 ·exact ⟨[], 0, 1, Nat.zero_le _, scanBad1 b f t hb h, scanBad2 b f t hb h⟩
theorem lawScansA (m : By) (f t : Int) (b : By) (hf : -128 ≤ f ∧ f ≤ 127) (ht : -128 ≤ t ∧ t ≤ 127) : AFn Tryz.prog GS 5 [bs m, i8v f, i8v t, bs b] 0 [] (Is (bv true)) := by
 refine afn_of Tryz.func5 rfl mixed (by kernel_rfl) ?_
 conv => whnf
 (refine acall [] (by kernel_rfl) (AFn.up awakeA GS) rfl ?_ ?_; (focus (repeat' (first | rfl | trivial | apply And.intro))))
 conv => whnf
 apply vif_split <;> intro h
 ·conv => whnf
  exact aret [] (by repeat' (first | rfl | trivial | apply And.intro))
 have hm : m.length ≤ 300 := by simp at h; omega
 conv => whnf
 apply vif_split <;> intro h
 ·conv => whnf
  exact aret [] (by repeat' (first | rfl | trivial | apply And.intro))
 have hb : b.length ≤ 500 := by simp at h; omega
 conv => whnf
 (refine acallF [] (by kernel_rfl) (eventsA m (by omega)) ?_ ?_; (focus (repeat' (first | rfl | trivial | apply And.intro))))
 rintro _ _ _ ⟨l, hP, rfl, rfl, rfl⟩
 have hlen := hP.len
 have hall : ∀ e ∈ l, e.ok ∧ evC e = 0 ∧ Sht e := fun e he => (hP.all e he).all
 have hT := table2A l (fun e he => (hall e he).1) (by omega)
 have e1 : tbE l = 0 := by unfold tbE; rw [if_neg (by omega)]; exact evsC_0 fun e he => (hall e he).2.1
 have e2 : tbB l = tab l := by unfold tbB; rw [if_pos e1]
 rw [e1, e2] at hT
 have hsh := tab_len5 (l := l) (by omega) fun e he => (hall e he).2.2
 conv => whnf
 (refine acallF [] (by kernel_rfl) (hT) ?_ ?_; (focus (repeat' (first | rfl | trivial | apply And.intro))))
 rintro _ _ _ ⟨rfl, rfl, rfl⟩
 conv => whnf
 refine aloop ws5_1 0 [11] (fun i : Nat => [(11, iv i)]) (fun _ => []) (fun i => i ≤ 2) (fun i => 2 - i) [] [] 0 (by kernel_rfl) (fun _ => rfl) rfl (Nat.zero_le _) trivial ⟨rfl, trivial⟩ ?_
 intro i hi
 have hi3 : i = 0 ∨ i = 1 ∨ i = 2 := by omega
 rcases hi3 with rfl | rfl | rfl
 ·conv => whnf
  refine AIn.mk' 0 rfl (show 0 < 2 by decide) ?_
  conv => whnf
  refine ARd.at rfl ?_
  conv => whnf
  obtain ⟨p, n, e, hp, hS1, hS2⟩ := scanBoth (tab l) f t (by omega)
  refine AAr.i64 (by omega) ?_
  conv => whnf
  refine AAr.i64 (by omega) ?_
  conv => whnf
  (refine acallF [] (by kernel_rfl) (hS1) ?_ ?_; (focus (repeat' (first | rfl | trivial | apply And.intro))))
  rintro _ _ _ ⟨rfl, rfl, rfl⟩
  conv => whnf
  refine AAr.i64 (by omega) ?_
  conv => whnf
  refine AAr.i64 (by omega) ?_
  conv => whnf
  (refine acallF [] (by kernel_rfl) (hS2) ?_ ?_; (focus (repeat' (first | rfl | trivial | apply And.intro))))
  rintro _ _ _ ⟨rfl, rfl, rfl⟩
  conv => whnf
  apply vif_split <;> intro h
  ·exfalso; simp at h
  conv => whnf
  apply vif_split <;> intro h
  ·exfalso; simp at h
  conv => whnf
  (refine acall [] (by kernel_rfl) (sameEvA p (by omega)) rfl ?_ ?_; (focus (repeat' (first | rfl | trivial | apply And.intro))))
  conv => whnf
  refine AAr.i64 (by omega) ?_
  conv => whnf
  exact aback (0 + 1) [] [] rfl (by decide) (by decide) trivial ⟨rfl, trivial⟩
 ·conv => whnf
  refine AIn.mk' 1 rfl (show 1 < 2 by decide) ?_
  conv => whnf
  refine ARd.at rfl ?_
  conv => whnf
  obtain ⟨p, n, e, hp, hS1, hS2⟩ := scanBoth b f t (by omega)
  refine AAr.i64 (by omega) ?_
  conv => whnf
  refine AAr.i64 (by omega) ?_
  conv => whnf
  (refine acallF [] (by kernel_rfl) (hS1) ?_ ?_; (focus (repeat' (first | rfl | trivial | apply And.intro))))
  rintro _ _ _ ⟨rfl, rfl, rfl⟩
  conv => whnf
  refine AAr.i64 (by omega) ?_
  conv => whnf
  refine AAr.i64 (by omega) ?_
  conv => whnf
  (refine acallF [] (by kernel_rfl) (hS2) ?_ ?_; (focus (repeat' (first | rfl | trivial | apply And.intro))))
  rintro _ _ _ ⟨rfl, rfl, rfl⟩
  conv => whnf
  apply vif_split <;> intro h
  ·exfalso; simp at h
  conv => whnf
  apply vif_split <;> intro h
  ·exfalso; simp at h
  conv => whnf
  (refine acall [] (by kernel_rfl) (sameEvA p (by omega)) rfl ?_ ?_; (focus (repeat' (first | rfl | trivial | apply And.intro))))
  conv => whnf
  refine AAr.i64 (by omega) ?_
  conv => whnf
  exact aback (1 + 1) [] [] rfl (by decide) (by decide) trivial ⟨rfl, trivial⟩
 ·conv => whnf
  exact aret [] (by repeat' (first | rfl | trivial | apply And.intro))
end
end Go.Proofs.YtmhpfadbmpipkaaGreatDoor.Cl
namespace Go.Proofs.YtmhpfadbmpipkaaGreatDoor.Ax
open Go Go.RowKit Go.Proofs.YtmhpfadbmpipkaaGreatDoor.Vc
variable {P : Program} {G : Glob}
def Here (w : World) (b : Nat) : Prop := b < w.heap.size
def loc0 : Nat → Loc := fun _ => ⟨none, 0, 0, 0⟩
theorem ret_of_afn {f : FuncId} {args : List AV} {x : Value} (h : AFn P G f args 0 [] (Is (.v x))) (w : World) (hG : G.holds w) (vs : List Value) (r : RepL 0 loc0 (Here w) w args vs) : Ret P f vs.toArray w fun v w' => v = x ∧ Below w.heap.size w w' := by
 have st : St G w (Mut loc0 []) (Here w) 0 loc0 (Here w) [] w := ⟨hG, Chg.refl _ _, fun b hb => ⟨hb, .inl hb⟩, (fun ell b h => by cases h), (fun ell b g h => by cases h), (fun ell ell' b b' g h => by cases h), (fun ell b h => by cases h)⟩
 refine (h w loc0 (Here w) vs st r).mono fun v w' ⟨a, n', σ', F', H', ⟨ha, _, _⟩, s, _, ra⟩ => ?_
 subst ha
 refine ⟨ra.v_eq, s.chg.os, s.chg.tape, s.chg.output, s.chg.size, fun k hk => s.chg.block k hk fun ⟨_, _, hm, _⟩ => by cases hm⟩
theorem seg_at {α : Type} {c : α → List Value} {k : Nat} (hk : ∀ a, (c a).length = k) {l : List α} {i j : Nat} {a : α} {v : Value} (hi : l[i]? = some a) (hj : (c a)[j]? = some v) : (recs c l)[i * k + j]? = some v := by
 obtain ⟨h, rfl⟩ := List.getElem?_eq_some_iff.1 hi
 exact recs_seg hk l i h j v hj
theorem frep_flat {α : Type} {F : Nat → Prop} {w : World} {sz : Nat} {enc : α → List FV} {c : α → List Value} (he : ∀ x, enc x = (c x).map .v) (hk : ∀ a, (c a).length = sz) (h1 : ∀ a, ∀ v ∈ c a, v.oneCell' = true) {l : List α} {oa : Option Addr} {cap : Nat} (hc : l.length ≤ cap) (hnil : oa = none → cap = 0) (hr : Row w oa (recs c l)) (hF : ∀ b, b < w.heap.size → F b) (hz : 0 < sz) :
  FRep F w (.lst sz (l.map enc)) (.slice oa l.length cap) := by
 have hlen : ∀ row ∈ l.map enc, row.length = sz := fun row hrow => by
  obtain ⟨a, _, rfl⟩ := List.mem_map.1 hrow
  rw [he, List.length_map, hk]
 rcases Nat.eq_zero_or_pos l.length with h0 | h0
 ·have hl : l = [] := List.eq_nil_of_length_eq_zero h0
  subst hl
  exact .lst sz [] oa 0 cap 0 0 rfl hc hnil (fun h => absurd h (Nat.lt_irrefl 0)) (fun row hr => by cases hr) (fun i j hi => absurd hi (Nat.not_lt_zero i)) (fun i j row a v hi => by simp at hi)
 ·rcases hr with hr | ⟨b, o, rfl, hb, hcell⟩
  ·have := recs_len hk l
   rw [hr, List.length_nil] at this
   have := Nat.mul_pos h0 hz
   omega
  ·have row : ∀ i j, i < l.length → j < sz → ∃ a v, l[i]? = some a ∧ (c a)[j]? = some v ∧ w.cell? ⟨b, o + (i * sz + j), none⟩ = some v := fun i j hi hj => by
    have hjl : j < (c l[i]).length := by rw [hk]; exact hj
    exact ⟨l[i], (c l[i])[j], List.getElem?_eq_getElem hi, List.getElem?_eq_getElem hjl, hcell _ _ (seg_at hk (List.getElem?_eq_getElem hi) (List.getElem?_eq_getElem hjl))⟩
   refine .lst sz (l.map enc) _ l.length cap b o (by rw [List.length_map]) hc hnil (fun _ => ⟨rfl, hF b hb⟩) hlen (fun i j hi hj => ?_) (fun i j rw_ a v hi hj hv => ?_)
   ·obtain ⟨a, v, _, h2, h3⟩ := row i j hi hj
    exact ⟨v, h3, h1 a v (List.mem_of_getElem? h2)⟩
   ·rw [List.getElem?_map] at hi
    cases hl : l[i]? with
    | none => rw [hl] at hi; cases hi
    | some x =>
     rw [hl] at hi
     simp only [Option.map_some, Option.some.injEq] at hi
     subst hi
     have hil := (List.getElem?_eq_some_iff.1 hl).1
     have hjs : j < sz := by have := (List.getElem?_eq_some_iff.1 hj).1; rw [he, List.length_map, hk] at this; exact this
     obtain ⟨a', v', h4, h5, h6⟩ := row i j hil hjs
     rw [hl] at h4
     injection h4 with h4
     subst h4
     rw [he, List.getElem?_map, h5] at hj
     simp only [Option.map_some, Option.some.injEq] at hj
     rw [h6] at hv
     injection hv with hv
     subst hv; subst hj
     exact .v _
end Go.Proofs.YtmhpfadbmpipkaaGreatDoor.Ax
namespace Go.Proofs.YtmhpfadbmpipkaaGreatDoor.Vc
open Go Go.RowKit Go.ChangeShapes Go.WideShapes Go.ChangeAt
section
variable {H : Type} {enc : TypeId × Value → H} {P : Program} {w : World} {t : TypeId} {cs : List Value}
def RdD (enc : TypeId × Value → H) (P : Program) (w : World) (t : TypeId) (cs : List Value) (d : DataW H) : Prop := ∃ held fuel p, DataW.trod enc P w 0 (fun _ => true) held fuel t cs = some (d, p)
def Rd (enc : TypeId × Value → H) (P : Program) (w : World) (t : TypeId) (cs : List Value) : Prop := ∃ d, RdD enc P w t cs d
theorem rdd_int {k : IntKind} {d : DataW H} (ht : P.underlying t = some (.int k)) (h : RdD enc P w t cs d) : ∃ n, cs = [.int k n] ∧ d = .lit (.int k n) ∧ (Lit.int k n).wf = true := by
 obtain ⟨held, fuel, p, hx⟩ := h
 obtain ⟨n, h1, h2, h3⟩ := DataW.trod_int ht hx
 injection h2 with h2
 exact ⟨n, h1, h2, h3⟩
theorem rd_int {k : IntKind} (ht : P.underlying t = some (.int k)) (h : Rd enc P w t cs) : ∃ n, cs = [.int k n] ∧ (Lit.int k n).wf = true := by
 obtain ⟨d, h⟩ := h
 obtain ⟨n, h1, _, h2⟩ := rdd_int ht h
 exact ⟨n, h1, h2⟩
theorem flat_get {α : Type} {sz : Nat} : ∀ (css : List (List α)) (k : Nat) (v : α), (∀ c ∈ css, c.length = sz) → css.flatten[k]? = some v →
  ∃ i j c, j < sz ∧ k = i * sz + j ∧ css[i]? = some c ∧ c[j]? = some v := by
 intro css
 induction css with
 | nil => intro k v _ h; simp at h
 | cons c r ih =>
  intro k v hl h
  have hc : c.length = sz := hl c (by simp)
  rw [List.flatten_cons, List.getElem?_append] at h
  split at h
  ·rename_i hk
   exact ⟨0, k, c, by omega, by omega, by simp, h⟩
  ·rename_i hk
   obtain ⟨i, j, c', hj, hk', hi, hv⟩ := ih _ v (fun c hc => hl c (by simp [hc])) h
   refine ⟨i + 1, j, c', hj, ?_, by simpa using hi, hv⟩
   rw [Nat.add_mul]
   omega
theorem cells_get {a : Addr} {n : Nat} {cs : List Value} (h : w.cells? 0 a n = some cs) : cs.length = n ∧ ∀ j v, cs[j]? = some v → w.cell? (a.add j) = some v := by
 unfold World.cells? at h
 rw [if_pos (Nat.zero_le _)] at h
 refine ⟨by rw [mapM_some_length h]; simp, fun j v hj => ?_⟩
 have hlt : j < n := by
  have := (List.getElem?_eq_some_iff.1 hj).1
  rw [mapM_some_length h] at this
  simpa using this
 have := mapM_some_get h j j (by simp [hlt])
 rw [this, hj]
theorem rdd_slice {e : TypeId} {d : DataW H} (ht : P.underlying t = some (.slice e)) (h : RdD enc P w t cs d) :
  ∃ (oa : Option Addr) (len cap : Nat) (css : List (List Value)) (ds : List (DataW H)), cs = [.slice oa len cap] ∧ len ≤ cap ∧ cap ≤ maxLen ∧ (oa = none → cap = 0) ∧ css.length = len ∧ Row w oa css.flatten ∧
   (∀ c ∈ css, c.length = P.cellsOf e ∧ Rd enc P w e c) ∧ ds.length = len ∧ ((d = .nil ∧ len = 0) ∨ ∃ rest, d = .slice ds rest) ∧ ∀ (i : Nat) (c : List Value) (d' : DataW H), css[i]? = some c → ds[i]? = some d' → RdD enc P w e c d' := by
 obtain ⟨held, fuel, pp, hx⟩ := h
 rcases DataW.trod_slice ht hx with ⟨h1, hd⟩ | ⟨a, len, cap, elems, rest, n, _, h1, hd, _, hlc, hcm, hlen, hel, _, _⟩
 ·injection hd with hd
  exact ⟨none, 0, 0, [], [], h1, Nat.le_refl _, Nat.zero_le _, fun _ => rfl, rfl, Row.nil _ _, by simp, rfl, .inl ⟨hd, rfl⟩, fun i c d' h => by simp at h⟩
 ·have each : ∀ i, i < len → ∃ ci, w.cells? 0 (a.add (i * P.cellsOf e)) (P.cellsOf e) = some ci ∧ Rd enc P w e ci ∧ ∀ d', (elems.map (·.1))[i]? = some d' → RdD enc P w e ci d' := by
   intro i hi
   have h1 := hel i hi
   rw [List.getElem?_eq_getElem (by omega)] at h1
   obtain ⟨ci, hc, ht⟩ := Option.bind_eq_some_iff.1 h1
   refine ⟨ci, hc, ⟨_, held, n, _, ht⟩, fun d' hd' => ?_⟩
   rw [List.getElem?_map, List.getElem?_eq_getElem (by omega)] at hd'
   simp only [Option.map_some, Option.some.injEq] at hd'
   subst hd'
   exact ⟨held, n, _, ht⟩
  obtain ⟨css, hcl, hcss⟩ : ∃ css : List (List Value), css.length = len ∧ ∀ (i : Nat) (c : List Value), css[i]? = some c → w.cells? 0 (a.add (i * P.cellsOf e)) (P.cellsOf e) = some c ∧ Rd enc P w e c ∧ ∀ d', (elems.map (·.1))[i]? = some d' → RdD enc P w e c d' := by
   refine ⟨(List.range len).map fun i => (w.cells? 0 (a.add (i * P.cellsOf e)) (P.cellsOf e)).getD [], by simp, fun i c hc => ?_⟩
   have hlt : i < len := by simpa using (List.getElem?_eq_some_iff.1 hc).1
   obtain ⟨ci, h1, h2⟩ := each i hlt
   simp only [List.getElem?_map, List.getElem?_range hlt, Option.map_some, h1, Option.getD_some, Option.some.injEq] at hc
   subst hc
   exact ⟨h1, h2⟩
  have hall : ∀ c ∈ css, c.length = P.cellsOf e ∧ Rd enc P w e c := by
   intro c hc
   obtain ⟨i, hi⟩ := List.mem_iff_getElem?.1 hc
   exact ⟨(cells_get (hcss i c hi).1).1, (hcss i c hi).2.1⟩
  refine ⟨some a, len, cap, css, elems.map (·.1), h1, hlc, hcm, (fun e => by cases e), hcl, ?_, hall, by simp [hlen], .inr ⟨rest.map (·.1), by injection hd⟩, fun i c d' h1 h2 => (hcss i c h1).2.2 d' h2⟩
  by_cases hne : css.flatten = []
  ·exact .inl hne
  ·right
   have cell : ∀ k v, css.flatten[k]? = some v → ∃ i j, j < P.cellsOf e ∧ k = i * P.cellsOf e + j ∧ w.cell? ((a.add (i * P.cellsOf e)).add j) = some v := by
    intro k v hk
    obtain ⟨i, j, c, hj, hkk, hi, hv⟩ := flat_get css k v (fun c hc => (hall c hc).1) hk
    exact ⟨i, j, hj, hkk, (cells_get (hcss i c hi).1).2 j v hv⟩
   have hspot : a.spot = none := by
    obtain ⟨v, hv⟩ : ∃ v, css.flatten[0]? = some v := by
     cases hf : css.flatten with
     | nil => exact absurd hf hne
     | cons v r => exact ⟨v, by simp⟩
    obtain ⟨i, j, hj, hk, hc⟩ := cell 0 v hv
    have hj0 : j = 0 := by omega
    have hi0 : i * P.cellsOf e = 0 := by omega
    rw [hi0, hj0] at hc
    have : (a.add 0).add 0 = a := by simp [Addr.add]
    rw [this] at hc
    cases hs : a.spot with
    | none => rfl
    | some s =>
     unfold World.cell? at hc
     split at hc <;> simp [hs] at hc
   obtain ⟨b, o, s⟩ := a
   simp only at hspot
   subst hspot
   refine ⟨b, o, rfl, ?_, fun k v hk => ?_⟩
   ·obtain ⟨v, hv⟩ : ∃ v, css.flatten[0]? = some v := by
     cases hf : css.flatten with
     | nil => exact absurd hf hne
     | cons v r => exact ⟨v, by simp⟩
    obtain ⟨i, j, _, _, hc⟩ := cell 0 v hv
    rw [add0, add0] at hc
    exact World.block_lt_of_cell? w _ hc
   ·obtain ⟨i, j, _, hkk, hc⟩ := cell k v hk
    rw [add0, add0] at hc
    rw [hkk, ← Nat.add_assoc]
    exact hc
theorem rd_slice {e : TypeId} (ht : P.underlying t = some (.slice e)) (h : Rd enc P w t cs) :
  ∃ (oa : Option Addr) (len cap : Nat) (css : List (List Value)), cs = [.slice oa len cap] ∧ len ≤ cap ∧ cap ≤ maxLen ∧ (oa = none → cap = 0) ∧ css.length = len ∧ Row w oa css.flatten ∧
   ∀ c ∈ css, c.length = P.cellsOf e ∧ Rd enc P w e c := by
 obtain ⟨d, h⟩ := h
 obtain ⟨oa, len, cap, css, _, a, b, c, d, e, f, g, _⟩ := rdd_slice ht h
 exact ⟨oa, len, cap, css, a, b, c, d, e, f, g⟩
theorem rd_top {v : Value} {d : DataW H} {p : List MemPlace} (h : DataW.Trod enc P w 0 (fun _ => true) true t v d p) : Rd enc P w t v.cells.toList := ⟨_, true, h.choose, _, h.choose_spec⟩
theorem val_slice {r : Reach} {b0 : Nat} {e : TypeId} {v : Value} {oa : Option Addr} {n c : Nat} (ht : P.underlying t = some (.slice e)) (hval : Value.okWide P w r b0 t v) (h : v.cells.toList = [.slice oa n c]) : v = .slice oa n c := by
 obtain ⟨a, len, cap, rfl⟩ := okWide_slice ht hval
 simpa [Value.cells] using h
theorem trodAll_stays {W W' : World} (hl : laidOutB P = true) (hb : Below W.heap.size W W') : ∀ (ts : List TypeId) (vs : List Value) (ds : List (DataW H)) (ps : List MemPlace),
  (ts.all fun t => P.readableRec t && Nat.blt t P.types.size) = true → (∀ x ∈ ps, x.block < W.heap.size) → DataW.TrodAll enc P W 0 (fun _ => true) true ts vs ds ps →
  DataW.TrodAll enc P W' 0 (fun b => decide (b < W.heap.size)) true ts vs ds ps := by
 intro ts
 induction ts with
 | nil => intro vs ds ps _ _ h; cases vs <;> cases ds <;> simp_all [DataW.TrodAll]
 | cons t ts ih =>
  intro vs ds ps hrd hlt h
  obtain ⟨v, vs', d, ds', p, q, rfl, rfl, rfl, h1, h2⟩ := trodAll_cons h
  simp only [List.all_cons, Bool.and_eq_true] at hrd
  refine ⟨p, q, Below.trod hl hrd.1.1 (Nat.le_of_ble_eq_true hrd.1.2) h1 hb (fun x hx => hlt x (by simp [hx])), ih _ _ _ hrd.2 (fun x hx => hlt x (by simp [hx])) h2, rfl⟩
end
theorem law_post {H : Type} {enc : TypeId × Value → H} {P : Program} {fn : Func} {s : ChangeSpec} {tb : TypeId} (hl : laidOutB P = true)
  (hrd : (fn.params.toList.all fun t => P.readableRec t && Nat.blt t P.types.size) = true) (hres : fn.resultTypes = #[tb]) (hb : P.underlying tb = some .bool) (hv : s.vars = [])
  (hfn : ∀ ds : List (DataW H), ds.length = fn.params.size → s.fn H ds = { results := [.lit (.bool true)], args := ds })
  {W W' : World} {args : Array Value} {ds gs : List (DataW H)} {before : List MemPlace} (hW : DataW.Whole enc P fn.params.toList s.vars false W args.toList ds gs before) (hB : Below W.heap.size W W') :
  s.post enc P fn false true false false W args (.bool true) W' := by
 have hlt : ∀ x ∈ before, x.block < W.heap.size := fun x hx => hW.lt x hx
 have hW' := hW
 obtain ⟨p, q, hA, hV, rfl, _, _⟩ := hW'
 rw [hv] at hV
 obtain ⟨rfl, rfl⟩ := trodVars_none hV
 have hlen : ds.length = fn.params.size := by
  have : ∀ (ts : List TypeId) (vs : List Value) (ds : List (DataW H)) (ps : List MemPlace), DataW.TrodAll enc P W 0 (fun _ => true) true ts vs ds ps → ds.length = ts.length := by
   intro ts
   induction ts with
   | nil => intro vs ds ps h; cases vs <;> cases ds <;> simp_all [DataW.TrodAll]
   | cons t ts ih =>
    intro vs ds ps h
    obtain ⟨v, vs', d, ds', p, q, rfl, rfl, rfl, _, h2⟩ := trodAll_cons h
    simp [ih _ _ _ h2]
  rw [this _ _ _ _ hA]; simp
 have hspec := hfn ds hlen
 refine ⟨ds, [], p ++ [], [], p, [], hW, ?_, ?_, ?_, World.keptBut_mono (fun x hx => ⟨hx, .inr (.inl (by simpa using hx))⟩) (hB.frame (· ∈ p ++ [])), (fun h => by cases h)⟩
 ·rw [List.append_nil, hspec, hres]
  exact ⟨[], [], ⟨1, by unfold DataW.trod; simp [hb, Value.cells]⟩, rfl, rfl⟩
 ·rw [List.append_nil, hspec]
  exact trodAll_stays hl hB _ _ _ _ hrd (fun x hx => hlt x (by simp [hx])) hA
 ·rw [List.append_nil, hspec, hv]
  rfl
end Go.Proofs.YtmhpfadbmpipkaaGreatDoor.Vc
namespace Go.Proofs.YtmhpfadbmpipkaaGreatDoor.Cl
open Go Go.RowKit Go.Proofs Go.Proofs.YtmhpfadbmpipkaaGreatDoor.Vc Go.Proofs.YtmhpfadbmpipkaaGreatDoor.Ax
section
variable {P : Program} {H : Type} {enc : TypeId × Value → H} {w : World}
theorem rd_lst {α : Type} {en : α → Value} {Q : α → Prop} {t e : TypeId} {cs : List Value} (ht : P.underlying t = some (.slice e)) (one : ∀ c, Rd enc P w e c → ∃ a : α, c = [en a] ∧ Q a) (h1 : ∀ a, (en a).oneCell' = true) (h : Rd enc P w t cs) :
  ∃ (oa : Option Addr) (l : List α) (cap : Nat), cs = [.slice oa l.length cap] ∧ (∀ a ∈ l, Q a) ∧ ARep 0 loc0 (Here w) w (.lst 1 (l.map (Ax.en1 en))) (.slice oa l.length cap) := by
 obtain ⟨oa, len, cap, css, hcs, hlc, hcm, hn, hcl, hr, hall⟩ := rd_slice ht h
 have : ∃ l : List α, l.length = css.length ∧ css.flatten = recs (fun a => [en a]) l ∧ ∀ a ∈ l, Q a := by
  clear hr hcl
  induction css with
  | nil => exact ⟨[], rfl, rfl, fun x h => by cases h⟩
  | cons c r ih =>
   obtain ⟨l, h2, h3, h4⟩ := ih fun c hc => hall c (by simp [hc])
   obtain ⟨x, e, hx⟩ := one c (hall c (by simp)).2
   refine ⟨x :: l, by simp [h2], by rw [List.flatten_cons, h3, e]; rfl, fun y hy => ?_⟩
   rcases List.mem_cons.1 hy with rfl | hy
   ·exact hx
   ·exact h4 y hy
 obtain ⟨l, h2, h3, h4⟩ := this
 rw [h3] at hr
 have e : len = l.length := by omega
 subst e
 exact ⟨oa, l, cap, hcs, h4, .lst (frep_flat (enc := Ax.en1 en) (c := fun a => [en a]) (fun _ => rfl) (fun _ => rfl) (fun a v hv => by rw [List.mem_singleton.1 hv]; exact h1 a) hlc hn hr (fun b hb => hb) (by decide))⟩
theorem u8_of {n : Int} (h : (Lit.int .u8 n).wf = true) : ∃ k : Nat, n = k ∧ k < 256 := by
 have : 0 ≤ n ∧ n ≤ 255 := by simpa [Lit.wf, IntKind.min, IntKind.max, IntKind.signed, IntKind.bits] using h
 exact ⟨n.toNat, by omega, by omega⟩
theorem rd_bys {t e : TypeId} {cs : List Value} (ht : P.underlying t = some (.slice e)) (he : P.underlying e = some (.int .u8)) (h : Rd enc P w t cs) :
  ∃ (oa : Option Addr) (l : By) (cap : Nat), cs = [.slice oa l.length cap] ∧ True ∧ ARep 0 loc0 (Here w) w (bs l) (.slice oa l.length cap) := by
 obtain ⟨oa, l, cap, h1, _, h3⟩ := rd_lst (en := fun c : UInt8 => Value.int .u8 (c.toNat : Int)) (Q := fun _ => True) ht (fun c hc => by
  obtain ⟨n, e, hw⟩ := rd_int he hc
  obtain ⟨k, rfl, hk⟩ := u8_of hw
  exact ⟨UInt8.ofNat k, by rw [e, toNat_ofNat hk], trivial⟩) (fun _ => rfl) h
 exact ⟨oa, l, cap, h1, trivial, h3⟩
end
section
open Go.Proofs.YtmhpfadbmpipkaaGreatDoor.Ky Go.Proofs.YtmhpfadbmpipkaaGreatDoor.Id
theorem i8_of {n : Int} (h : (Lit.int .i8 n).wf = true) : -128 ≤ n ∧ n ≤ 127 := by
 simpa [Lit.wf, IntKind.min, IntKind.max, IntKind.signed, IntKind.bits] using h
theorem gAsc : Tryz.prog.globalNamed "strings.asciiSpace" = some 0 := by kernel_rfl
theorem tAsc : (Tryz.prog.globals[0]?).map (·.type) = some 126 := by kernel_rfl
theorem ascL : (Rows.laid_strings_asciiSpace : DataW Unit) = .agg ((List.range 256).map fun c => .lit (.int .u8 (spT c))) := by kernel_rfl
theorem gs_of {W : World} (h : laidMetH Tryz.prog [("unicode.White_Space", Rows.laid_unicode_White_Space), ("strings.asciiSpace", Rows.laid_strings_asciiSpace)] W) : GS.holds W := by
 rw [MakeChecks.laidMetH_plain _ _ _ (by kernel_rfl)] at h
 obtain ⟨ps, ⟨_, _, _, _, _, _, _, _, _, _, ⟨g0, t0, cs0, f0, p0, q0, hg0, ht0, hv0, hd0, _⟩, _⟩, _, _⟩ := h
 obtain rfl := Option.some.inj (gAsc.symm.trans hg0)
 obtain rfl := Option.some.inj (tAsc.symm.trans ht0)
 rw [ascL] at hd0
 obtain ⟨xs, m, rfl, hd, hcl, hxl, hel⟩ := DataW.trod_array (e := 5) (n := 256) rfl hd0
 injection hd with hd _
 injection hd with hd
 have key : ∀ i, i < 256 → W.cell? ⟨0, i, none⟩ = some (.int .u8 (spT i)) := fun i hi => by
  have h1 := hel i hi
  have hx : xs[i]? = some xs[i] := List.getElem?_eq_getElem (by omega)
  rw [hx] at h1
  obtain ⟨k, e, f, _⟩ := DataW.trod_int (t := 5) (k := .u8) rfl h1
  have hf : (xs.map (·.1))[i]? = some (.lit (.int .u8 k)) := by rw [List.getElem?_map, hx, f]; rfl
  rw [← hd, List.getElem?_map, List.getElem?_range hi] at hf
  simp only [Option.map_some, Option.some.injEq, DataW.lit.injEq, Lit.int.injEq, true_and] at hf
  rw [World.var?_cell hg0 hv0 i, ← Array.getElem?_toList]
  have e1 : Tryz.prog.cellsOf 5 = 1 := by kernel_rfl
  rw [e1, Nat.mul_one] at e
  have : (cs0.toList.drop i)[0]? = some (.int .u8 k) := by
   cases hdr : cs0.toList.drop i with
   | nil => rw [hdr] at e; cases e
   | cons a r => rw [hdr] at e; injection e with e; rw [e]; rfl
  rw [List.getElem?_drop, Nat.add_zero] at this
  rw [this, hf]
 have hsz : 0 < W.heap.size := World.block_lt_of_cell? W _ (key 0 (by decide))
 refine ⟨hsz, fun g cs hg => ?_⟩
 simp only [GS] at hg
 split at hg
 ·rename_i e
  injection hg with hg
  subst e; subst hg
  refine ⟨Nat.lt_succ_self _, fun j v hj => ?_⟩
  unfold spL at hj
  rw [List.getElem?_map] at hj
  rcases Nat.lt_or_ge j 256 with h1 | h1
  ·rw [List.getElem?_range h1] at hj
   simp only [Option.map_some, Option.some.injEq] at hj
   rw [key j h1, hj]
  ·rw [List.getElem?_eq_none (by simpa using h1)] at hj
   cases hj
 ·cases hg
end
end Go.Proofs.YtmhpfadbmpipkaaGreatDoor.Cl

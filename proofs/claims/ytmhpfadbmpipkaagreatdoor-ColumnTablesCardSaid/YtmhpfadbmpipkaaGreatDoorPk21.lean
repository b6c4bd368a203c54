/- Joined parts of the proof. The law ColumnTables, its walk; what a list of events as argument reads as -/
import Derived.Test.YtmhpfadbmpipkaaGreatDoorPk20
import Derived.Test.YtmhpfadbmpipkaaGreatDoorPk7
import Derived.Test.YtmhpfadbmpipkaaGreatDoorPk2
import Derived.ProofKit
import Derived.Test.YtmhpfadbmpipkaaGreatDoorPk11
import Derived.OpenShut
import Derived.Test.YtmhpfadbmpipkaaGreatDoorPk9
import Derived.Test.YtmhpfadbmpipkaaGreatDoorRows
import Derived.LaidMore
import Derived.Stop.Joined
import Derived.Test.YtmhpfadbmpipkaaGreatDoorPk13
set_option linter.unusedVariables false
set_option linter.unusedSimpArgs false
set_option maxRecDepth 100000
set_option maxHeartbeats 16000000
namespace Go.Proofs.YtmhpfadbmpipkaaGreatDoor.Cl
open Go Go.RowKit Go.Proofs Go.Proofs.YtmhpfadbmpipkaaGreatDoor.Vc Go.Proofs.YtmhpfadbmpipkaaGreatDoor.Ax Go.Proofs.YtmhpfadbmpipkaaGreatDoor.Ky
attribute [local irreducible] loadVar storeVar Instr.indexAt Instr.index Instr.sliceAt Instr.makeSlice Instr.lookup Instr.mapUpdate Instr.range Instr.next Instr.entry Instr.makeMap Builtin.append_ Builtin.copy_ Builtin.len_ Builtin.min_ Builtin.max_ Builtin.cap_ Builtin.delete_ Builtin.clear_ convert binOp eqGuard Op.unary Calls
section
attribute [local irreducible] best ints en bd txs dsT bdy chb lims evC
theorem lastEv {l p : List Ev} {t : By} {e : Int} {K : Prop} (h : RTBs t p e) (hf : ∀ p e, RTBs t p e → p = l) (k : p = l → K) : K := k (hf p e h)
theorem lawTablesA (q : List Ev) (m b : By) (at_ how c : Nat) (hq : ∀ e ∈ q, e.ok) (hat : at_ < 65536) (hh : how < 65536) (hc : c < 256) : AFn Tryz.prog GS 3 [el q, bs m, bs b, u16v at_, u16v how, u8v c] 0 [] (Is (bv true)) := by
 refine afn_of Tryz.func3 rfl mixed (by kernel_rfl) ?_
 conv => whnf
 (refine acall [] (by kernel_rfl) (AFn.up awakeA GS) rfl ?_ ?_; (focus (repeat' (first | rfl | trivial | apply And.intro))))
 conv => whnf
 apply vif_split <;> intro h
 ·conv => whnf
  exact aret [] (by repeat' (first | rfl | trivial | apply And.intro))
 have hql : q.length ≤ 60 := by simp at h; omega
 conv => whnf
 apply vif_split <;> intro h
 ·conv => whnf
  exact aret [] (by repeat' (first | rfl | trivial | apply And.intro))
 have hm : m.length ≤ 300 := by simp at h; omega
 conv => whnf
 apply vif_split <;> intro h
 ·conv => whnf
  exact aret [] (by repeat' (first | rfl | trivial | apply And.intro))
 have hb : b.length ≤ 1000 := by simp at h; omega
 conv => whnf
 have q1 := table1A q hq (by omega)
 have q2 := table2A q hq (by omega)
 (refine acallF [] (by kernel_rfl) (q1) ?_ ?_; (focus (repeat' (first | rfl | trivial | apply And.intro))))
 rintro _ _ _ ⟨rfl, rfl, rfl⟩
 conv => whnf
 (refine acallF [] (by kernel_rfl) (q2) ?_ ?_; (focus (repeat' (first | rfl | trivial | apply And.intro))))
 rintro _ _ _ ⟨rfl, rfl, rfl⟩
 conv => whnf
 (refine acallF [] (by kernel_rfl) (eventsA m (by omega)) ?_ ?_; (focus (repeat' (first | rfl | trivial | apply And.intro))))
 rintro _ _ _ ⟨l, hP, rfl, rfl, rfl⟩
 have hlen := hP.len
 have hall : ∀ e ∈ l, e.ok ∧ evC e = 0 ∧ Sht e := fun e he => (hP.all e he).all
 have hT1 := table1A l (fun e he => (hall e he).1) (by omega)
 have hT2 := table2A l (fun e he => (hall e he).1) (by omega)
 have e1 : tbE l = 0 := by unfold tbE; rw [if_neg (by omega)]; exact evsC_0 fun e he => (hall e he).2.1
 have e2 : tbB l = tab l := by unfold tbB; rw [if_pos e1]
 rw [e1, e2] at hT1 hT2
 have hsh := tab_lenC (l := l) (by omega) fun e he => (hall e he).2.2
 have hnc : nC l ≤ 4 := by unfold nC; omega
 have hfull : ∀ p e, RTBs (tab l) p e → p = l := fun p e hR => (hR.2.2.2 l (fun e he => (hall e he).1) e1 rfl).2
 conv => whnf
 (refine acallF [] (by kernel_rfl) (hT1) ?_ ?_; (focus (repeat' (first | rfl | trivial | apply And.intro))))
 rintro _ _ _ ⟨rfl, rfl, rfl⟩
 conv => whnf
 (refine acallF [] (by kernel_rfl) (hT2) ?_ ?_; (focus (repeat' (first | rfl | trivial | apply And.intro))))
 rintro _ _ _ ⟨rfl, rfl, rfl⟩
 generalize tab l = t at *
 generalize tbB q = y at *
 generalize tbE q = d at *
 conv => whnf
 apply vif_split <;> intro h
 ·exfalso; simp at h
 conv => whnf
 refine ABy.of ?_
 conv => whnf
 refine ABy.of ?_
 conv => whnf
 apply vif_split <;> intro h
 ·exfalso; simp [sEq_tx] at h
 conv => whnf
 refine ABy.of ?_
 conv => whnf
 refine ABy.of ?_
 conv => whnf
 apply vif_split <;> intro h
 ·exfalso; simp [sEq_tx] at h
 conv => whnf
 (refine acallF [] (by kernel_rfl) (AFn.up (spoilA t at_ how c (by omega) hat hh hc) GS) ?_ ?_; (focus (repeat' (first | rfl | trivial | apply And.intro))))
 rintro _ _ _ ⟨z, hz, rfl, rfl, rfl⟩
 conv => whnf
 refine aloop ws3_1 0 [23] (fun i : Nat => [(23, iv i)]) (fun _ => []) (fun i => i ≤ 3) (fun i => 3 - i) [] [] 0 (by kernel_rfl) (fun _ => rfl) rfl (Nat.zero_le _) trivial ⟨rfl, trivial⟩ ?_
 intro i hi
 have hi3 : i = 0 ∨ i = 1 ∨ i = 2 ∨ i = 3 := by omega
 rcases hi3 with rfl | rfl | rfl | rfl
 ·conv => whnf
  refine AIn.mk' 0 rfl (show 0 < 3 by decide) ?_
  conv => whnf
  refine ARd.at rfl ?_
  conv => whnf
  (refine acallF [] (by kernel_rfl) (readTableA b (by omega)) ?_ ?_; (focus (repeat' (first | rfl | trivial | apply And.intro))))
  rintro _ _ _ ⟨p, e, hR1, rfl, rfl, rfl⟩
  conv => whnf
  (refine acallF [] (by kernel_rfl) (readTable2A b (by omega)) ?_ ?_; (focus (repeat' (first | rfl | trivial | apply And.intro))))
  rintro _ _ _ ⟨p', e', hR2, rfl, rfl, rfl⟩
  obtain ⟨rfl, rfl⟩ := hR1.two hR2
  have hp := hR1.2.1
  conv => whnf
  apply vif_split <;> intro h
  ·exfalso; simp at h
  conv => whnf
  (refine acall [] (by kernel_rfl) (sameEvA p (by omega)) rfl ?_ ?_; (focus (repeat' (first | rfl | trivial | apply And.intro))))
  conv => whnf
  apply vif_split <;> intro h
  ·conv => whnf
   skip
   refine AAr.i64 (by omega) ?_
   conv => whnf
   exact aback (0 + 1) [] [] rfl (by show 3 - (0 + 1) < 3 - 0; decide) (by decide) trivial ⟨rfl, trivial⟩
  conv => whnf
  refine AAr.i64 (by omega) ?_
  conv => whnf
  exact aback (0 + 1) [] [] rfl (by show 3 - (0 + 1) < 3 - 0; decide) (by decide) trivial ⟨rfl, trivial⟩
 ·conv => whnf
  refine AIn.mk' 1 rfl (show 1 < 3 by decide) ?_
  conv => whnf
  refine ARd.at rfl ?_
  conv => whnf
  (refine acallF [] (by kernel_rfl) (readTableA z (by omega)) ?_ ?_; (focus (repeat' (first | rfl | trivial | apply And.intro))))
  rintro _ _ _ ⟨p, e, hR1, rfl, rfl, rfl⟩
  conv => whnf
  (refine acallF [] (by kernel_rfl) (readTable2A z (by omega)) ?_ ?_; (focus (repeat' (first | rfl | trivial | apply And.intro))))
  rintro _ _ _ ⟨p', e', hR2, rfl, rfl, rfl⟩
  obtain ⟨rfl, rfl⟩ := hR1.two hR2
  have hp := hR1.2.1
  conv => whnf
  apply vif_split <;> intro h
  ·exfalso; simp at h
  conv => whnf
  (refine acall [] (by kernel_rfl) (sameEvA p (by omega)) rfl ?_ ?_; (focus (repeat' (first | rfl | trivial | apply And.intro))))
  conv => whnf
  apply vif_split <;> intro h
  ·conv => whnf
   skip
   refine AAr.i64 (by omega) ?_
   conv => whnf
   exact aback (1 + 1) [] [] rfl (by show 3 - (1 + 1) < 3 - 1; decide) (by decide) trivial ⟨rfl, trivial⟩
  conv => whnf
  refine AAr.i64 (by omega) ?_
  conv => whnf
  exact aback (1 + 1) [] [] rfl (by show 3 - (1 + 1) < 3 - 1; decide) (by decide) trivial ⟨rfl, trivial⟩
 ·conv => whnf
  refine AIn.mk' 2 rfl (show 2 < 3 by decide) ?_
  conv => whnf
  refine ARd.at rfl ?_
  conv => whnf
  (refine acallF [] (by kernel_rfl) (readTableA t (by omega)) ?_ ?_; (focus (repeat' (first | rfl | trivial | apply And.intro))))
  rintro _ _ _ ⟨p, e, hR1, rfl, rfl, rfl⟩
  conv => whnf
  (refine acallF [] (by kernel_rfl) (readTable2A t (by omega)) ?_ ?_; (focus (repeat' (first | rfl | trivial | apply And.intro))))
  rintro _ _ _ ⟨p', e', hR2, rfl, rfl, rfl⟩
  obtain ⟨rfl, rfl⟩ := hR1.two hR2
  have hp := hR1.2.1
  conv => whnf
  apply vif_split <;> intro h
  ·exfalso; simp at h
  conv => whnf
  (refine acall [] (by kernel_rfl) (sameEvA p (by omega)) rfl ?_ ?_; (focus (repeat' (first | rfl | trivial | apply And.intro))))
  conv => whnf
  apply vif_split <;> intro h
  ·conv => whnf
   refine lastEv hR1 hfull (fun h9 => ?_); subst h9; refine acall [] (by kernel_rfl) (sameEvA p (by omega)) rfl ⟨⟨rfl, rfl⟩, ⟨rfl, rfl⟩, trivial⟩ ?_; (conv => whnf)
   refine AAr.i64 (by omega) ?_
   conv => whnf
   exact aback (2 + 1) [] [] rfl (by show 3 - (2 + 1) < 3 - 2; decide) (by decide) trivial ⟨rfl, trivial⟩
  conv => whnf
  refine AAr.i64 (by omega) ?_
  conv => whnf
  exact aback (2 + 1) [] [] rfl (by show 3 - (2 + 1) < 3 - 2; decide) (by decide) trivial ⟨rfl, trivial⟩
 ·conv => whnf
  exact aret [] (by repeat' (first | rfl | trivial | apply And.intro))
end
end Go.Proofs.YtmhpfadbmpipkaaGreatDoor.Cl
namespace Go.Proofs.YtmhpfadbmpipkaaGreatDoor.Ax
open Go Go.RowKit Go.Proofs.YtmhpfadbmpipkaaGreatDoor.Vc
variable {P : Program} {G : Glob}
def Here (w : World) (b : Nat) : Prop := b < w.heap.size
def loc0 : Nat → Loc := fun _ => ⟨none, 0, 0, 0⟩
theorem ret_of_afn {f : FuncId} {args : List AV} {x : Value} (h : AFn P G f args 0 [] (Is (.v x))) (w : World) (hG : G.holds w) (vs : List Value) (r : RepL 0 loc0 (Here w) w args vs) : Ret P f vs.toArray w fun v w' => v = x ∧ Below w.heap.size w w' := by
 have st : St G w (Mut loc0 []) (Here w) 0 loc0 (Here w) [] w := ⟨hG, Chg.refl _ _, fun b hb => ⟨hb, .inl hb⟩, (fun ell b h => by cases h), (fun ell b g h => by cases h), (fun ell ell' b b' g h => by cases h), (fun ell b h => by cases h)⟩
 refine (h w loc0 (Here w) vs st r).mono fun v w' ⟨a, n', σ', F', H', ⟨ha, _, _⟩, s, _, ra⟩ => ?_
 subst ha
 refine ⟨ra.v_eq, s.chg.os, s.chg.tape, s.chg.output, s.chg.size, fun k hk => s.chg.block k hk fun ⟨_, _, hm, _⟩ => by cases hm⟩
theorem seg_at {α : Type} {c : α → List Value} {k : Nat} (hk : ∀ a, (c a).length = k) {l : List α} {i j : Nat} {a : α} {v : Value} (hi : l[i]? = some a) (hj : (c a)[j]? = some v) : (recs c l)[i * k + j]? = some v := by
 obtain ⟨h, rfl⟩ := List.getElem?_eq_some_iff.1 hi
 exact recs_seg hk l i h j v hj
theorem frep_flat {α : Type} {F : Nat → Prop} {w : World} {sz : Nat} {enc : α → List FV} {c : α → List Value} (he : ∀ x, enc x = (c x).map .v) (hk : ∀ a, (c a).length = sz) (h1 : ∀ a, ∀ v ∈ c a, v.oneCell' = true) {l : List α} {oa : Option Addr} {cap : Nat} (hc : l.length ≤ cap) (hnil : oa = none → cap = 0) (hr : Row w oa (recs c l)) (hF : ∀ b, b < w.heap.size → F b) (hz : 0 < sz) :
  FRep F w (.lst sz (l.map enc)) (.slice oa l.length cap) := by
 have hlen : ∀ row ∈ l.map enc, row.length = sz := fun row hrow => by
  obtain ⟨a, _, rfl⟩ := List.mem_map.1 hrow
  rw [he, List.length_map, hk]
 rcases Nat.eq_zero_or_pos l.length with h0 | h0
 ·have hl : l = [] := List.eq_nil_of_length_eq_zero h0
  subst hl
  exact .lst sz [] oa 0 cap 0 0 rfl hc hnil (fun h => absurd h (Nat.lt_irrefl 0)) (fun row hr => by cases hr) (fun i j hi => absurd hi (Nat.not_lt_zero i)) (fun i j row a v hi => by simp at hi)
 ·rcases hr with hr | ⟨b, o, rfl, hb, hcell⟩
  ·have := recs_len hk l
   rw [hr, List.length_nil] at this
   have := Nat.mul_pos h0 hz
   omega
  ·have row : ∀ i j, i < l.length → j < sz → ∃ a v, l[i]? = some a ∧ (c a)[j]? = some v ∧ w.cell? ⟨b, o + (i * sz + j), none⟩ = some v := fun i j hi hj => by
    have hjl : j < (c l[i]).length := by rw [hk]; exact hj
    exact ⟨l[i], (c l[i])[j], List.getElem?_eq_getElem hi, List.getElem?_eq_getElem hjl, hcell _ _ (seg_at hk (List.getElem?_eq_getElem hi) (List.getElem?_eq_getElem hjl))⟩
   refine .lst sz (l.map enc) _ l.length cap b o (by rw [List.length_map]) hc hnil (fun _ => ⟨rfl, hF b hb⟩) hlen (fun i j hi hj => ?_) (fun i j rw_ a v hi hj hv => ?_)
   ·obtain ⟨a, v, _, h2, h3⟩ := row i j hi hj
    exact ⟨v, h3, h1 a v (List.mem_of_getElem? h2)⟩
   ·rw [List.getElem?_map] at hi
    cases hl : l[i]? with
    | none => rw [hl] at hi; cases hi
    | some x =>
     rw [hl] at hi
     simp only [Option.map_some, Option.some.injEq] at hi
     subst hi
     have hil := (List.getElem?_eq_some_iff.1 hl).1
     have hjs : j < sz := by have := (List.getElem?_eq_some_iff.1 hj).1; rw [he, List.length_map, hk] at this; exact this
     obtain ⟨a', v', h4, h5, h6⟩ := row i j hil hjs
     rw [hl] at h4
     injection h4 with h4
     subst h4
     rw [he, List.getElem?_map, h5] at hj
     simp only [Option.map_some, Option.some.injEq] at hj
     rw [h6] at hv
     injection hv with hv
     subst hv; subst hj
     exact .v _
end Go.Proofs.YtmhpfadbmpipkaaGreatDoor.Ax
namespace Go.Proofs.YtmhpfadbmpipkaaGreatDoor.Vc
open Go Go.RowKit Go.ChangeShapes Go.WideShapes Go.ChangeAt
section
variable {H : Type} {enc : TypeId × Value → H} {P : Program} {w : World} {t : TypeId} {cs : List Value}
def RdD (enc : TypeId × Value → H) (P : Program) (w : World) (t : TypeId) (cs : List Value) (d : DataW H) : Prop := ∃ held fuel p, DataW.trod enc P w 0 (fun _ => true) held fuel t cs = some (d, p)
def Rd (enc : TypeId × Value → H) (P : Program) (w : World) (t : TypeId) (cs : List Value) : Prop := ∃ d, RdD enc P w t cs d
theorem rdd_int {k : IntKind} {d : DataW H} (ht : P.underlying t = some (.int k)) (h : RdD enc P w t cs d) : ∃ n, cs = [.int k n] ∧ d = .lit (.int k n) ∧ (Lit.int k n).wf = true := by
 obtain ⟨held, fuel, p, hx⟩ := h
 obtain ⟨n, h1, h2, h3⟩ := DataW.trod_int ht hx
 injection h2 with h2
 exact ⟨n, h1, h2, h3⟩
theorem rd_int {k : IntKind} (ht : P.underlying t = some (.int k)) (h : Rd enc P w t cs) : ∃ n, cs = [.int k n] ∧ (Lit.int k n).wf = true := by
 obtain ⟨d, h⟩ := h
 obtain ⟨n, h1, _, h2⟩ := rdd_int ht h
 exact ⟨n, h1, h2⟩
theorem flat_get {α : Type} {sz : Nat} : ∀ (css : List (List α)) (k : Nat) (v : α), (∀ c ∈ css, c.length = sz) → css.flatten[k]? = some v →
  ∃ i j c, j < sz ∧ k = i * sz + j ∧ css[i]? = some c ∧ c[j]? = some v := by
 intro css
 induction css with
 | nil => intro k v _ h; simp at h
 | cons c r ih =>
  intro k v hl h
  have hc : c.length = sz := hl c (by simp)
  rw [List.flatten_cons, List.getElem?_append] at h
  split at h
  ·rename_i hk
   exact ⟨0, k, c, by omega, by omega, by simp, h⟩
  ·rename_i hk
   obtain ⟨i, j, c', hj, hk', hi, hv⟩ := ih _ v (fun c hc => hl c (by simp [hc])) h
   refine ⟨i + 1, j, c', hj, ?_, by simpa using hi, hv⟩
   rw [Nat.add_mul]
   omega
theorem cells_get {a : Addr} {n : Nat} {cs : List Value} (h : w.cells? 0 a n = some cs) : cs.length = n ∧ ∀ j v, cs[j]? = some v → w.cell? (a.add j) = some v := by
 unfold World.cells? at h
 rw [if_pos (Nat.zero_le _)] at h
 refine ⟨by rw [mapM_some_length h]; simp, fun j v hj => ?_⟩
 have hlt : j < n := by
  have := (List.getElem?_eq_some_iff.1 hj).1
  rw [mapM_some_length h] at this
  simpa using this
 have := mapM_some_get h j j (by simp [hlt])
 rw [this, hj]
theorem rdd_slice {e : TypeId} {d : DataW H} (ht : P.underlying t = some (.slice e)) (h : RdD enc P w t cs d) :
  ∃ (oa : Option Addr) (len cap : Nat) (css : List (List Value)) (ds : List (DataW H)), cs = [.slice oa len cap] ∧ len ≤ cap ∧ cap ≤ maxLen ∧ (oa = none → cap = 0) ∧ css.length = len ∧ Row w oa css.flatten ∧
   (∀ c ∈ css, c.length = P.cellsOf e ∧ Rd enc P w e c) ∧ ds.length = len ∧ ((d = .nil ∧ len = 0) ∨ ∃ rest, d = .slice ds rest) ∧ ∀ (i : Nat) (c : List Value) (d' : DataW H), css[i]? = some c → ds[i]? = some d' → RdD enc P w e c d' := by
 obtain ⟨held, fuel, pp, hx⟩ := h
 rcases DataW.trod_slice ht hx with ⟨h1, hd⟩ | ⟨a, len, cap, elems, rest, n, _, h1, hd, _, hlc, hcm, hlen, hel, _, _⟩
 ·injection hd with hd
  exact ⟨none, 0, 0, [], [], h1, Nat.le_refl _, Nat.zero_le _, fun _ => rfl, rfl, Row.nil _ _, by simp, rfl, .inl ⟨hd, rfl⟩, fun i c d' h => by simp at h⟩
 ·have each : ∀ i, i < len → ∃ ci, w.cells? 0 (a.add (i * P.cellsOf e)) (P.cellsOf e) = some ci ∧ Rd enc P w e ci ∧ ∀ d', (elems.map (·.1))[i]? = some d' → RdD enc P w e ci d' := by
   intro i hi
   have h1 := hel i hi
   rw [List.getElem?_eq_getElem (by omega)] at h1
   obtain ⟨ci, hc, ht⟩ := Option.bind_eq_some_iff.1 h1
   refine ⟨ci, hc, ⟨_, held, n, _, ht⟩, fun d' hd' => ?_⟩
   rw [List.getElem?_map, List.getElem?_eq_getElem (by omega)] at hd'
   simp only [Option.map_some, Option.some.injEq] at hd'
   subst hd'
   exact ⟨held, n, _, ht⟩
  obtain ⟨css, hcl, hcss⟩ : ∃ css : List (List Value), css.length = len ∧ ∀ (i : Nat) (c : List Value), css[i]? = some c → w.cells? 0 (a.add (i * P.cellsOf e)) (P.cellsOf e) = some c ∧ Rd enc P w e c ∧ ∀ d', (elems.map (·.1))[i]? = some d' → RdD enc P w e c d' := by
   refine ⟨(List.range len).map fun i => (w.cells? 0 (a.add (i * P.cellsOf e)) (P.cellsOf e)).getD [], by simp, fun i c hc => ?_⟩
   have hlt : i < len := by simpa using (List.getElem?_eq_some_iff.1 hc).1
   obtain ⟨ci, h1, h2⟩ := each i hlt
   simp only [List.getElem?_map, List.getElem?_range hlt, Option.map_some, h1, Option.getD_some, Option.some.injEq] at hc
   subst hc
   exact ⟨h1, h2⟩
  have hall : ∀ c ∈ css, c.length = P.cellsOf e ∧ Rd enc P w e c := by
   intro c hc
   obtain ⟨i, hi⟩ := List.mem_iff_getElem?.1 hc
   exact ⟨(cells_get (hcss i c hi).1).1, (hcss i c hi).2.1⟩
  refine ⟨some a, len, cap, css, elems.map (·.1), h1, hlc, hcm, (fun e => by cases e), hcl, ?_, hall, by simp [hlen], .inr ⟨rest.map (·.1), by injection hd⟩, fun i c d' h1 h2 => (hcss i c h1).2.2 d' h2⟩
  by_cases hne : css.flatten = []
  ·exact .inl hne
  ·right
   have cell : ∀ k v, css.flatten[k]? = some v → ∃ i j, j < P.cellsOf e ∧ k = i * P.cellsOf e + j ∧ w.cell? ((a.add (i * P.cellsOf e)).add j) = some v := by
    intro k v hk
    obtain ⟨i, j, c, hj, hkk, hi, hv⟩ := flat_get css k v (fun c hc => (hall c hc).1) hk
    exact ⟨i, j, hj, hkk, (cells_get (hcss i c hi).1).2 j v hv⟩
   have hspot : a.spot = none := by
    obtain ⟨v, hv⟩ : ∃ v, css.flatten[0]? = some v := by
     cases hf : css.flatten with
     | nil => exact absurd hf hne
     | cons v r => exact ⟨v, by simp⟩
    obtain ⟨i, j, hj, hk, hc⟩ := cell 0 v hv
    have hj0 : j = 0 := by omega
    have hi0 : i * P.cellsOf e = 0 := by omega
    rw [hi0, hj0] at hc
    have : (a.add 0).add 0 = a := by simp [Addr.add]
    rw [this] at hc
    cases hs : a.spot with
    | none => rfl
    | some s =>
     unfold World.cell? at hc
     split at hc <;> simp [hs] at hc
   obtain ⟨b, o, s⟩ := a
   simp only at hspot
   subst hspot
   refine ⟨b, o, rfl, ?_, fun k v hk => ?_⟩
   ·obtain ⟨v, hv⟩ : ∃ v, css.flatten[0]? = some v := by
     cases hf : css.flatten with
     | nil => exact absurd hf hne
     | cons v r => exact ⟨v, by simp⟩
    obtain ⟨i, j, _, _, hc⟩ := cell 0 v hv
    rw [add0, add0] at hc
    exact World.block_lt_of_cell? w _ hc
   ·obtain ⟨i, j, _, hkk, hc⟩ := cell k v hk
    rw [add0, add0] at hc
    rw [hkk, ← Nat.add_assoc]
    exact hc
theorem rd_slice {e : TypeId} (ht : P.underlying t = some (.slice e)) (h : Rd enc P w t cs) :
  ∃ (oa : Option Addr) (len cap : Nat) (css : List (List Value)), cs = [.slice oa len cap] ∧ len ≤ cap ∧ cap ≤ maxLen ∧ (oa = none → cap = 0) ∧ css.length = len ∧ Row w oa css.flatten ∧
   ∀ c ∈ css, c.length = P.cellsOf e ∧ Rd enc P w e c := by
 obtain ⟨d, h⟩ := h
 obtain ⟨oa, len, cap, css, _, a, b, c, d, e, f, g, _⟩ := rdd_slice ht h
 exact ⟨oa, len, cap, css, a, b, c, d, e, f, g⟩
theorem rd_top {v : Value} {d : DataW H} {p : List MemPlace} (h : DataW.Trod enc P w 0 (fun _ => true) true t v d p) : Rd enc P w t v.cells.toList := ⟨_, true, h.choose, _, h.choose_spec⟩
theorem trodAll_six {base : Nat} {spare : Nat → Bool} {held : Bool} {t0 t1 t2 t3 t4 t5 : TypeId} {args : Array Value} {ds : List (DataW H)} {ps : List MemPlace} (h : DataW.TrodAll enc P w base spare held [t0, t1, t2, t3, t4, t5] args.toList ds ps) :
  ∃ v0 v1 v2 v3 v4 v5 d0 d1 d2 d3 d4 d5 p0 p1 p2 p3 p4 p5, args = #[v0, v1, v2, v3, v4, v5] ∧ ds = [d0, d1, d2, d3, d4, d5] ∧ ps = p0 ++ p1 ++ p2 ++ p3 ++ p4 ++ p5 ∧ DataW.Trod enc P w base spare held t0 v0 d0 p0 ∧ DataW.Trod enc P w base spare held t1 v1 d1 p1 ∧ DataW.Trod enc P w base spare held t2 v2 d2 p2 ∧ DataW.Trod enc P w base spare held t3 v3 d3 p3 ∧ DataW.Trod enc P w base spare held t4 v4 d4 p4 ∧ DataW.Trod enc P w base spare held t5 v5 d5 p5 := by
 obtain ⟨v0, vs0, d0, ds0, p0, q0, hargs, rfl, rfl, h0, r0⟩ := trodAll_cons h
 obtain ⟨v1, vs1, d1, ds1, p1, q1, rfl, rfl, rfl, h1, r1⟩ := trodAll_cons r0
 obtain ⟨v2, vs2, d2, ds2, p2, q2, rfl, rfl, rfl, h2, r2⟩ := trodAll_cons r1
 obtain ⟨v3, vs3, d3, ds3, p3, q3, rfl, rfl, rfl, h3, r3⟩ := trodAll_cons r2
 obtain ⟨v4, vs4, d4, ds4, p4, q4, rfl, rfl, rfl, h4, r4⟩ := trodAll_cons r3
 obtain ⟨v5, vs5, d5, ds5, p5, q5, rfl, rfl, rfl, h5, r5⟩ := trodAll_cons r4
 obtain ⟨rfl, rfl, rfl⟩ := trodAll_nil r5
 exact ⟨v0, v1, v2, v3, v4, v5, d0, d1, d2, d3, d4, d5, p0, p1, p2, p3, p4, p5, by cases args; simp_all, rfl, by simp, h0, h1, h2, h3, h4, h5⟩
theorem val_slice {r : Reach} {b0 : Nat} {e : TypeId} {v : Value} {oa : Option Addr} {n c : Nat} (ht : P.underlying t = some (.slice e)) (hval : Value.okWide P w r b0 t v) (h : v.cells.toList = [.slice oa n c]) : v = .slice oa n c := by
 obtain ⟨a, len, cap, rfl⟩ := okWide_slice ht hval
 simpa [Value.cells] using h
theorem trodAll_stays {W W' : World} (hl : laidOutB P = true) (hb : Below W.heap.size W W') : ∀ (ts : List TypeId) (vs : List Value) (ds : List (DataW H)) (ps : List MemPlace),
  (ts.all fun t => P.readableRec t && Nat.blt t P.types.size) = true → (∀ x ∈ ps, x.block < W.heap.size) → DataW.TrodAll enc P W 0 (fun _ => true) true ts vs ds ps →
  DataW.TrodAll enc P W' 0 (fun b => decide (b < W.heap.size)) true ts vs ds ps := by
 intro ts
 induction ts with
 | nil => intro vs ds ps _ _ h; cases vs <;> cases ds <;> simp_all [DataW.TrodAll]
 | cons t ts ih =>
  intro vs ds ps hrd hlt h
  obtain ⟨v, vs', d, ds', p, q, rfl, rfl, rfl, h1, h2⟩ := trodAll_cons h
  simp only [List.all_cons, Bool.and_eq_true] at hrd
  refine ⟨p, q, Below.trod hl hrd.1.1 (Nat.le_of_ble_eq_true hrd.1.2) h1 hb (fun x hx => hlt x (by simp [hx])), ih _ _ _ hrd.2 (fun x hx => hlt x (by simp [hx])) h2, rfl⟩
end
theorem law_post {H : Type} {enc : TypeId × Value → H} {P : Program} {fn : Func} {s : ChangeSpec} {tb : TypeId} (hl : laidOutB P = true)
  (hrd : (fn.params.toList.all fun t => P.readableRec t && Nat.blt t P.types.size) = true) (hres : fn.resultTypes = #[tb]) (hb : P.underlying tb = some .bool) (hv : s.vars = [])
  (hfn : ∀ ds : List (DataW H), ds.length = fn.params.size → s.fn H ds = { results := [.lit (.bool true)], args := ds })
  {W W' : World} {args : Array Value} {ds gs : List (DataW H)} {before : List MemPlace} (hW : DataW.Whole enc P fn.params.toList s.vars false W args.toList ds gs before) (hB : Below W.heap.size W W') :
  s.post enc P fn false true false false W args (.bool true) W' := by
 have hlt : ∀ x ∈ before, x.block < W.heap.size := fun x hx => hW.lt x hx
 have hW' := hW
 obtain ⟨p, q, hA, hV, rfl, _, _⟩ := hW'
 rw [hv] at hV
 obtain ⟨rfl, rfl⟩ := trodVars_none hV
 have hlen : ds.length = fn.params.size := by
  have : ∀ (ts : List TypeId) (vs : List Value) (ds : List (DataW H)) (ps : List MemPlace), DataW.TrodAll enc P W 0 (fun _ => true) true ts vs ds ps → ds.length = ts.length := by
   intro ts
   induction ts with
   | nil => intro vs ds ps h; cases vs <;> cases ds <;> simp_all [DataW.TrodAll]
   | cons t ts ih =>
    intro vs ds ps h
    obtain ⟨v, vs', d, ds', p, q, rfl, rfl, rfl, _, h2⟩ := trodAll_cons h
    simp [ih _ _ _ h2]
  rw [this _ _ _ _ hA]; simp
 have hspec := hfn ds hlen
 refine ⟨ds, [], p ++ [], [], p, [], hW, ?_, ?_, ?_, World.keptBut_mono (fun x hx => ⟨hx, .inr (.inl (by simpa using hx))⟩) (hB.frame (· ∈ p ++ [])), (fun h => by cases h)⟩
 ·rw [List.append_nil, hspec, hres]
  exact ⟨[], [], ⟨1, by unfold DataW.trod; simp [hb, Value.cells]⟩, rfl, rfl⟩
 ·rw [List.append_nil, hspec]
  exact trodAll_stays hl hB _ _ _ _ hrd (fun x hx => hlt x (by simp [hx])) hA
 ·rw [List.append_nil, hspec, hv]
  rfl
end Go.Proofs.YtmhpfadbmpipkaaGreatDoor.Vc
namespace Go.Proofs.YtmhpfadbmpipkaaGreatDoor.Cl
open Go Go.RowKit Go.Proofs Go.Proofs.YtmhpfadbmpipkaaGreatDoor.Vc Go.Proofs.YtmhpfadbmpipkaaGreatDoor.Ax
section
variable {P : Program} {H : Type} {enc : TypeId × Value → H} {w : World}
theorem rd_lst {α : Type} {en : α → Value} {Q : α → Prop} {t e : TypeId} {cs : List Value} (ht : P.underlying t = some (.slice e)) (one : ∀ c, Rd enc P w e c → ∃ a : α, c = [en a] ∧ Q a) (h1 : ∀ a, (en a).oneCell' = true) (h : Rd enc P w t cs) :
  ∃ (oa : Option Addr) (l : List α) (cap : Nat), cs = [.slice oa l.length cap] ∧ (∀ a ∈ l, Q a) ∧ ARep 0 loc0 (Here w) w (.lst 1 (l.map (Ax.en1 en))) (.slice oa l.length cap) := by
 obtain ⟨oa, len, cap, css, hcs, hlc, hcm, hn, hcl, hr, hall⟩ := rd_slice ht h
 have : ∃ l : List α, l.length = css.length ∧ css.flatten = recs (fun a => [en a]) l ∧ ∀ a ∈ l, Q a := by
  clear hr hcl
  induction css with
  | nil => exact ⟨[], rfl, rfl, fun x h => by cases h⟩
  | cons c r ih =>
   obtain ⟨l, h2, h3, h4⟩ := ih fun c hc => hall c (by simp [hc])
   obtain ⟨x, e, hx⟩ := one c (hall c (by simp)).2
   refine ⟨x :: l, by simp [h2], by rw [List.flatten_cons, h3, e]; rfl, fun y hy => ?_⟩
   rcases List.mem_cons.1 hy with rfl | hy
   ·exact hx
   ·exact h4 y hy
 obtain ⟨l, h2, h3, h4⟩ := this
 rw [h3] at hr
 have e : len = l.length := by omega
 subst e
 exact ⟨oa, l, cap, hcs, h4, .lst (frep_flat (enc := Ax.en1 en) (c := fun a => [en a]) (fun _ => rfl) (fun _ => rfl) (fun a v hv => by rw [List.mem_singleton.1 hv]; exact h1 a) hlc hn hr (fun b hb => hb) (by decide))⟩
theorem u8_of {n : Int} (h : (Lit.int .u8 n).wf = true) : ∃ k : Nat, n = k ∧ k < 256 := by
 have : 0 ≤ n ∧ n ≤ 255 := by simpa [Lit.wf, IntKind.min, IntKind.max, IntKind.signed, IntKind.bits] using h
 exact ⟨n.toNat, by omega, by omega⟩
theorem u16_of {n : Int} (h : (Lit.int .u16 n).wf = true) : ∃ k : Nat, n = k ∧ k < 65536 := by
 have : 0 ≤ n ∧ n ≤ 65535 := by simpa [Lit.wf, IntKind.min, IntKind.max, IntKind.signed, IntKind.bits] using h
 exact ⟨n.toNat, by omega, by omega⟩
theorem rd_bys {t e : TypeId} {cs : List Value} (ht : P.underlying t = some (.slice e)) (he : P.underlying e = some (.int .u8)) (h : Rd enc P w t cs) :
  ∃ (oa : Option Addr) (l : By) (cap : Nat), cs = [.slice oa l.length cap] ∧ True ∧ ARep 0 loc0 (Here w) w (bs l) (.slice oa l.length cap) := by
 obtain ⟨oa, l, cap, h1, _, h3⟩ := rd_lst (en := fun c : UInt8 => Value.int .u8 (c.toNat : Int)) (Q := fun _ => True) ht (fun c hc => by
  obtain ⟨n, e, hw⟩ := rd_int he hc
  obtain ⟨k, rfl, hk⟩ := u8_of hw
  exact ⟨UInt8.ofNat k, by rw [e, toNat_ofNat hk], trivial⟩) (fun _ => rfl) h
 exact ⟨oa, l, cap, h1, trivial, h3⟩
end
section
open Go.Proofs.YtmhpfadbmpipkaaGreatDoor.Ky Go.Proofs.YtmhpfadbmpipkaaGreatDoor.Id
theorem gAsc : Tryz.prog.globalNamed "strings.asciiSpace" = some 0 := by kernel_rfl
theorem tAsc : (Tryz.prog.globals[0]?).map (·.type) = some 126 := by kernel_rfl
theorem ascL : (Rows.laid_strings_asciiSpace : DataW Unit) = .agg ((List.range 256).map fun c => .lit (.int .u8 (spT c))) := by kernel_rfl
theorem gs_of {W : World} (h : laidMetH Tryz.prog [("unicode.White_Space", Rows.laid_unicode_White_Space), ("strings.asciiSpace", Rows.laid_strings_asciiSpace)] W) : GS.holds W := by
 rw [MakeChecks.laidMetH_plain _ _ _ (by kernel_rfl)] at h
 obtain ⟨ps, ⟨_, _, _, _, _, _, _, _, _, _, ⟨g0, t0, cs0, f0, p0, q0, hg0, ht0, hv0, hd0, _⟩, _⟩, _, _⟩ := h
 obtain rfl := Option.some.inj (gAsc.symm.trans hg0)
 obtain rfl := Option.some.inj (tAsc.symm.trans ht0)
 rw [ascL] at hd0
 obtain ⟨xs, m, rfl, hd, hcl, hxl, hel⟩ := DataW.trod_array (e := 5) (n := 256) rfl hd0
 injection hd with hd _
 injection hd with hd
 have key : ∀ i, i < 256 → W.cell? ⟨0, i, none⟩ = some (.int .u8 (spT i)) := fun i hi => by
  have h1 := hel i hi
  have hx : xs[i]? = some xs[i] := List.getElem?_eq_getElem (by omega)
  rw [hx] at h1
  obtain ⟨k, e, f, _⟩ := DataW.trod_int (t := 5) (k := .u8) rfl h1
  have hf : (xs.map (·.1))[i]? = some (.lit (.int .u8 k)) := by rw [List.getElem?_map, hx, f]; rfl
  rw [← hd, List.getElem?_map, List.getElem?_range hi] at hf
  simp only [Option.map_some, Option.some.injEq, DataW.lit.injEq, Lit.int.injEq, true_and] at hf
  rw [World.var?_cell hg0 hv0 i, ← Array.getElem?_toList]
  have e1 : Tryz.prog.cellsOf 5 = 1 := by kernel_rfl
  rw [e1, Nat.mul_one] at e
  have : (cs0.toList.drop i)[0]? = some (.int .u8 k) := by
   cases hdr : cs0.toList.drop i with
   | nil => rw [hdr] at e; cases e
   | cons a r => rw [hdr] at e; injection e with e; rw [e]; rfl
  rw [List.getElem?_drop, Nat.add_zero] at this
  rw [this, hf]
 have hsz : 0 < W.heap.size := World.block_lt_of_cell? W _ (key 0 (by decide))
 refine ⟨hsz, fun g cs hg => ?_⟩
 simp only [GS] at hg
 split at hg
 ·rename_i e
  injection hg with hg
  subst e; subst hg
  refine ⟨Nat.lt_succ_self _, fun j v hj => ?_⟩
  unfold spL at hj
  rw [List.getElem?_map] at hj
  rcases Nat.lt_or_ge j 256 with h1 | h1
  ·rw [List.getElem?_range h1] at hj
   simp only [Option.map_some, Option.some.injEq] at hj
   rw [key j h1, hj]
  ·rw [List.getElem?_eq_none (by simpa using h1)] at hj
   cases hj
 ·cases hg
end
end Go.Proofs.YtmhpfadbmpipkaaGreatDoor.Cl
namespace Go.Proofs.YtmhpfadbmpipkaaGreatDoor.Vc
open Go Go.RowKit Go.Proofs.YtmhpfadbmpipkaaGreatDoor.Ax
section
variable {H : Type} {enc : TypeId × Value → H} {w : World}
theorem each_ok {P : Program} : ∀ {ts : List TypeId} {ds : List (DataW H)} {B : Nat}, (∀ x ∈ DataW.weightsEach P ts ds, x ≤ B) → ∀ (j : Nat) t d, ts[j]? = some t → ds[j]? = some d → ∀ x ∈ d.weights P t, x ≤ B := by
 intro ts
 induction ts with
 | nil => intro ds B _ j t d h; simp at h
 | cons t ts ih =>
  intro ds B h j u d h1 h2
  cases ds with
  | nil => simp at h2
  | cons e ds =>
   simp only [DataW.weightsEach, List.mem_append] at h
   cases j with
   | zero =>
    simp only [List.getElem?_cons_zero, Option.some.injEq] at h1 h2
    subst h1; subst h2
    exact fun x hx => h x (.inl hx)
   | succ j => exact ih (fun x hx => h x (.inr hx)) j u d (by simpa using h1) (by simpa using h2)
theorem strW_ok {P : Program} {t : TypeId} {s : ByteArray} (h : ∀ x ∈ (DataW.lit (.string s.data.toList) : DataW H).weights P t, x ≤ reachBytes) : s.size ≤ 140737488355328 := by
 have h1 := h s.data.toList.length (by simp [DataW.weights])
 have h2 : s.data.toList.length = s.size := by simp
 have h3 : reachBytes = 140737488351232 := rfl
 omega
theorem rows_of {P : Program} {α : Type} {c : α → List Value} {ok : α → Prop} {e : TypeId} (one : ∀ cs (d : DataW H), RdD enc P w e cs d → (∀ x ∈ d.weights P e, x ≤ reachBytes) → ∃ k : α, cs = c k ∧ ok k) :
  ∀ (css : List (List Value)) (ds : List (DataW H)), ds.length = css.length → (∀ (i : Nat) c d', css[i]? = some c → ds[i]? = some d' → RdD enc P w e c d') → (∀ x ∈ DataW.weightsAll P e ds, x ≤ reachBytes) → ∃ l : List α, l.length = css.length ∧ css.flatten = recs c l ∧ ∀ k ∈ l, ok k := by
 intro css
 induction css with
 | nil => intro ds _ _ _; exact ⟨[], rfl, rfl, fun k h => by cases h⟩
 | cons a css ih =>
  intro ds hl h hB
  cases ds with
  | nil => simp at hl
  | cons d ds =>
   simp only [DataW.weightsAll, List.mem_append] at hB
   obtain ⟨k, e1, hk⟩ := one a d (h 0 a d rfl rfl) fun x hx => hB x (.inl hx)
   obtain ⟨l, h1, h2, h3⟩ := ih ds (by simpa using hl) (fun i c d' hc hd => h (i + 1) c d' (by simpa using hc) (by simpa using hd)) fun x hx => hB x (.inr hx)
   refine ⟨k :: l, by simp [h1], by rw [List.flatten_cons, h2, e1]; rfl, fun y hy => ?_⟩
   rcases List.mem_cons.1 hy with rfl | hy
   ·exact hk
   ·exact h3 y hy
theorem slice_w {P : Program} {t e : TypeId} {d : DataW H} {ds : List (DataW H)} {len : Nat} (hu : P.underlying t = some (.slice e)) (hdl : ds.length = len) (hd : (d = .nil ∧ len = 0) ∨ ∃ rest, d = .slice ds rest) (hB : ∀ x ∈ d.weights P t, x ≤ reachBytes) :
  ∀ x ∈ DataW.weightsAll P e ds, x ≤ reachBytes := by
 rcases hd with ⟨_, h0⟩ | ⟨rest, rfl⟩
 ·have : ds = [] := List.eq_nil_of_length_eq_zero (by omega)
  subst this
  intro x hx; simp [DataW.weightsAll] at hx
 ·intro x hx
  refine hB x ?_
  simp only [DataW.weights, hu, List.mem_cons, List.mem_append]
  exact .inr (.inl hx)
end
end Go.Proofs.YtmhpfadbmpipkaaGreatDoor.Vc
namespace Go.Proofs.YtmhpfadbmpipkaaGreatDoor.Cl
open Go Go.RowKit Go.Proofs.YtmhpfadbmpipkaaGreatDoor.Vc Go.Proofs.YtmhpfadbmpipkaaGreatDoor.Ax
section
variable {H : Type} {enc : TypeId × Value → H} {w : World}
def evc (e : Ev) : List Value := [.string ⟨e.client.toArray⟩, .int .i64 e.seq, .int .i64 e.kind, .int .i64 e.time, .string ⟨e.id.toArray⟩, .string ⟨e.name.toArray⟩, .string ⟨e.other.toArray⟩, .int .i64 e.ver, .int .i64 e.arm, .int .i64 e.val]
theorem i64_lit {n : Int} (h : (Lit.int .i64 n).wf = true) : I64 n := by
 have : -9223372036854775808 ≤ n ∧ n ≤ 9223372036854775807 := by simpa [Lit.wf, IntKind.min, IntKind.max, IntKind.signed, IntKind.bits] using h
 exact this
theorem rdd_ev {cs : List Value} {d : DataW H} (h : RdD enc Tryz.prog w 38 cs d) (hB : ∀ x ∈ d.weights Tryz.prog 38, x ≤ reachBytes) : ∃ e : Ev, cs = evc e ∧ e.ok := by
 obtain ⟨held, fuel, p, h⟩ := h
 obtain ⟨xs, n, rfl, hd, hcl, hxl, hel⟩ := DataW.trod_struct rfl h
 injection hd with hd
 subst hd
 have h0 := hel 0 _ rfl
 have h1 := hel 1 _ rfl
 have h2 := hel 2 _ rfl
 have h3 := hel 3 _ rfl
 have h4 := hel 4 _ rfl
 have h5 := hel 5 _ rfl
 have h6 := hel 6 _ rfl
 have h7 := hel 7 _ rfl
 have h8 := hel 8 _ rfl
 have h9 := hel 9 _ rfl
 have hcl' : cs.length = 10 := hcl
 have hxl' : xs.length = 10 := hxl
 match cs, hcl', xs, hxl' with
 | [c0, c1, c2, c3, c4, c5, c6, c7, c8, c9], _, [x0, x1, x2, x3, x4, x5, x6, x7, x8, x9], _ =>
  obtain ⟨k0, e0, f0, _⟩ := DataW.trod_string (t := 9) rfl (show DataW.trod _ _ _ _ _ _ _ 9 [c0] = some x0 from h0)
  obtain ⟨k1, e1, f1, w1⟩ := DataW.trod_int (t := 3) (k := .i64) rfl (show DataW.trod _ _ _ _ _ _ _ 3 [c1] = some x1 from h1)
  obtain ⟨k2, e2, f2, w2⟩ := DataW.trod_int (t := 3) (k := .i64) rfl (show DataW.trod _ _ _ _ _ _ _ 3 [c2] = some x2 from h2)
  obtain ⟨k3, e3, f3, w3⟩ := DataW.trod_int (t := 3) (k := .i64) rfl (show DataW.trod _ _ _ _ _ _ _ 3 [c3] = some x3 from h3)
  obtain ⟨k4, e4, f4, _⟩ := DataW.trod_string (t := 9) rfl (show DataW.trod _ _ _ _ _ _ _ 9 [c4] = some x4 from h4)
  obtain ⟨k5, e5, f5, _⟩ := DataW.trod_string (t := 9) rfl (show DataW.trod _ _ _ _ _ _ _ 9 [c5] = some x5 from h5)
  obtain ⟨k6, e6, f6, _⟩ := DataW.trod_string (t := 9) rfl (show DataW.trod _ _ _ _ _ _ _ 9 [c6] = some x6 from h6)
  obtain ⟨k7, e7, f7, w7⟩ := DataW.trod_int (t := 3) (k := .i64) rfl (show DataW.trod _ _ _ _ _ _ _ 3 [c7] = some x7 from h7)
  obtain ⟨k8, e8, f8, w8⟩ := DataW.trod_int (t := 3) (k := .i64) rfl (show DataW.trod _ _ _ _ _ _ _ 3 [c8] = some x8 from h8)
  obtain ⟨k9, e9, f9, w9⟩ := DataW.trod_int (t := 3) (k := .i64) rfl (show DataW.trod _ _ _ _ _ _ _ 3 [c9] = some x9 from h9)
  subst f0; subst f1; subst f2; subst f3; subst f4; subst f5; subst f6; subst f7; subst f8; subst f9
  have hE : ∀ x ∈ DataW.weightsEach Tryz.prog [9, 3, 3, 3, 9, 9, 9, 3, 3, 3] [(.lit (.string k0.data.toList) : DataW H), (.lit (.int .i64 k1) : DataW H), (.lit (.int .i64 k2) : DataW H), (.lit (.int .i64 k3) : DataW H), (.lit (.string k4.data.toList) : DataW H), (.lit (.string k5.data.toList) : DataW H), (.lit (.string k6.data.toList) : DataW H), (.lit (.int .i64 k7) : DataW H), (.lit (.int .i64 k8) : DataW H), (.lit (.int .i64 k9) : DataW H)], x ≤ reachBytes := hB
  have z0 := strW_ok (each_ok hE 0 _ _ rfl rfl)
  have z4 := strW_ok (each_ok hE 4 _ _ rfl rfl)
  have z5 := strW_ok (each_ok hE 5 _ _ rfl rfl)
  have z6 := strW_ok (each_ok hE 6 _ _ rfl rfl)
  refine ⟨⟨k0.data.toList, k1, k2, k3, k4.data.toList, k5.data.toList, k6.data.toList, k7, k8, k9⟩, ?_, ⟨i64_lit w1, i64_lit w2, i64_lit w3, i64_lit w7, i64_lit w8, i64_lit w9, by simpa using z0, by simpa using z4, by simpa using z5, by simpa using z6⟩⟩
  injection e0 with e0; injection e1 with e1; injection e2 with e2; injection e3 with e3; injection e4 with e4; injection e5 with e5; injection e6 with e6; injection e7 with e7; injection e8 with e8; injection e9 with e9
  rw [e0, e1, e2, e3, e4, e5, e6, e7, e8, e9]; rfl
theorem evc_len (e : Ev) : (evc e).length = 10 := rfl
theorem rdd_evs {cs : List Value} {d : DataW H} (h : RdD enc Tryz.prog w 22 cs d) (hB : ∀ x ∈ d.weights Tryz.prog 22, x ≤ reachBytes) :
  ∃ (oa : Option Addr) (l : List Ev) (cap : Nat), cs = [.slice oa l.length cap] ∧ (∀ e ∈ l, e.ok) ∧ ARep 0 loc0 (Here w) w (el l) (.slice oa l.length cap) := by
 obtain ⟨oa, len, cap, css, ds, h1, hlc, hcm, hn, hcl, hr, _, hdl, hd, hel⟩ := rdd_slice (e := 38) rfl h
 obtain ⟨l, h2, h3, h4⟩ := rows_of (c := evc) (fun cs d => rdd_ev) css ds (by omega) hel (slice_w (e := 38) rfl hdl hd hB)
 rw [h3] at hr
 have e : len = l.length := by omega
 subst e
 refine ⟨oa, l, cap, h1, h4, .lst (frep_flat (c := evc) (fun _ => rfl) evc_len (fun a v hv => ?_) hlc hn hr (fun b hb => hb) (by decide))⟩
 simp only [evc, List.mem_cons, List.not_mem_nil, or_false] at hv
 rcases hv with rfl | rfl | rfl | rfl | rfl | rfl | rfl | rfl | rfl | rfl <;> rfl
end
end Go.Proofs.YtmhpfadbmpipkaaGreatDoor.Cl

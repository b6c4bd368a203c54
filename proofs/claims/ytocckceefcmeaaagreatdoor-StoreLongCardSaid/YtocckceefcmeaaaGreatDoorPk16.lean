/- Joined parts of the proof. Lists of texts in plain Lean: sorted without repetitions, how they are written, and what is known of a reading if the by -/
import Derived.Test.YtocckceefcmeaaaGreatDoorPk15
import Derived.Sort.Walk0
import Derived.Test.YtocckceefcmeaaaGreatDoorPk12
import Derived.Test.YtocckceefcmeaaaGreatDoorPk10
import Derived.Test.YtocckceefcmeaaaGreatDoorPk11
set_option linter.unusedVariables false
set_option linter.unusedSimpArgs false
set_option maxRecDepth 100000
set_option maxHeartbeats 16000000
namespace Go.Proofs.YtocckceefcmeaaaGreatDoor.Cl
def putT (s : By) : By := num (s.length : Int) ++ s
def ixT (d l : Tx) : Li := l.map fun s => ((idxT d s : Nat) : Int)
def txs (l : Tx) : By := num ((dsT l).length : Int) ++ (dsT l).flatMap putT ++ ints (ixT (dsT l) l)
def TOK (l : Tx) : Prop := ∀ s ∈ l, s.length ≤ 200
theorem ixT_all (d l : Tx) (hl : ∀ x ∈ l, x ∈ d) (hd : d.length ≤ 1000000) : AllI (ixT d l) := fun x hx => by
 obtain ⟨s, hs, e⟩ := List.mem_map.1 hx
 have := (idxT_lt (hl s hs)).1
 rw [← e]; exact i64_nat (by omega)
theorem ixT_len (d l : Tx) : (ixT d l).length = l.length := List.length_map _
theorem putT_len (s : By) (h : s.length ≤ 200) : (putT s).length ≤ 210 ∧ 0 < (putT s).length := by
 have := num_len (s.length : Int)
 unfold putT
 rw [List.length_append]; omega
theorem TOK.ds {l : Tx} (h : TOK l) : TOK (dsT l) := fun s hs => h s ((dsT_mem l s).1 hs)
theorem TOK.take {l : Tx} (h : TOK l) (k : Nat) : TOK (l.take k) := fun s hs => h s (List.mem_of_mem_take hs)
theorem keys_len (d : Tx) (h : TOK d) : (d.flatMap putT).length ≤ 210 * d.length := fm_len putT 210 d fun s hs => (putT_len s (h s hs)).1
theorem txs_len (l : Tx) (h : TOK l) (hl : l.length ≤ 512) : (txs l).length ≤ 5134 + 210 * l.length := by
 have h1 := keys_len (dsT l) h.ds
 have h2 := dsT_len l
 have h3 := (num_len ((dsT l).length : Int)).2
 have h4 := ints_short (ixT (dsT l) l) (by rw [ixT_len]; exact hl)
 unfold txs
 simp only [List.length_append]
 omega
def txT (b : By) (e : Int) : By × Nat × Int :=
 let c := cnT b e 200 4
 if c.2.2 = 0 then (if ((b.drop c.2.1).length : Int) < c.1 then ([], c.2.1, 16) else ((b.drop c.2.1).take c.1.toNat, c.2.1 + c.1.toNat, 0)) else ([], c.2.1, c.2.2)
theorem txT_def (b : By) (e : Int) : txT b e = if (cnT b e 200 4).2.2 = 0 then (if ((b.drop (cnT b e 200 4).2.1).length : Int) < (cnT b e 200 4).1 then ([], (cnT b e 200 4).2.1, 16) else ((b.drop (cnT b e 200 4).2.1).take (cnT b e 200 4).1.toNat, (cnT b e 200 4).2.1 + (cnT b e 200 4).1.toNat, 0)) else ([], (cnT b e 200 4).2.1, (cnT b e 200 4).2.2) := rfl
theorem txT_ok (b : By) (e : Int) : (txT b e).1.length ≤ 200 ∧ (txT b e).2.1 ≤ b.length ∧ ((txT b e).2.2 = 0 → e = 0 ∧ b = putT (txT b e).1 ++ b.drop (txT b e).2.1 ∧ (txT b e).2.1 = (putT (txT b e).1).length) ∧ ((txT b e).2.2 ≠ 0 → (txT b e).1 = []) := by
 have hr := cnT_rng b e 200 4 (by decide) (by decide)
 have o := rnT_ok b e
 rw [txT_def]
 generalize cnT b e 200 4 = c at *
 obtain ⟨x, k, e'⟩ := c
 simp only at hr ⊢
 obtain ⟨h1, h2, h3, h4⟩ := hr
 by_cases he : e' = 0
 ·rw [if_pos he]
  have h5 := h4 he
  have o3 := o.2.2.1 h5.1
  rw [← h5.2, ← h3] at o3
  have hk : k ≤ b.length := by rw [h3]; exact o.2.1
  by_cases hs : ((b.drop k).length : Int) < x
  ·rw [if_pos hs]
   exact ⟨by simp, hk, fun h => by simp at h, fun _ => rfl⟩
  ·rw [if_neg hs]
   have hl : (b.drop k).length = b.length - k := List.length_drop
   have hx : ((x.toNat : Nat) : Int) = x := by omega
   have ht : ((b.drop k).take x.toNat).length = x.toNat := by rw [List.length_take]; omega
   have hp : putT ((b.drop k).take x.toNat) = num x ++ (b.drop k).take x.toNat := by unfold putT; rw [ht, hx]
   refine ⟨by simp only [ht]; omega, by simp only; omega, fun _ => ⟨o3.1, ?_, ?_⟩, fun h => absurd rfl h⟩
   ·simp only
    rw [hp, ← List.drop_drop, List.append_assoc, List.take_append_drop]
    exact o3.2.1
   ·simp only
    rw [hp, List.length_append, ht, ← o3.2.2]
 ·rw [if_neg he]
  exact ⟨by simp, by simp only; rw [h3]; exact o.2.1, fun h => absurd h he, fun _ => rfl⟩
theorem cnT_of {b : By} {e most em : Int} {n : Nat} (h1 : (rnT b e).1 = (n : Int)) (h2 : (rnT b e).2.2 = 0) (hm : (n : Int) ≤ most) : cnT b e most em = ((n : Int), (rnT b e).2.1, 0) := by
 rw [cnT_def, h1, h2]
 have a1 : ¬ ((n : Int) < 0) := by omega
 have a2 : ¬ (most < (n : Int)) := by omega
 simp only [a1, a2, if_true, if_false]
theorem txT_put {s b r : By} (hs : s.length ≤ 200) (h : b = putT s ++ r) : txT b 0 = (s, (putT s).length, 0) := by
 have hb : b = num (s.length : Int) ++ (s ++ r) := by rw [h]; unfold putT; rw [List.append_assoc]
 have r1 := rd1 (b := b) (e := 0) (i64_nat (by omega : s.length ≤ 9223372036854775807)) rfl hb
 have o3 := (rnT_ok b 0).2.2.1 r1.2.1
 rw [r1.1] at o3
 have hc : cnT b 0 200 4 = ((s.length : Int), (rnT b 0).2.1, 0) := cnT_of r1.1 r1.2.1 (by omega)
 rw [txT_def, hc]
 simp only [if_true]
 rw [r1.2.2, if_neg (by rw [List.length_append]; omega), Int.toNat_natCast, List.take_left' rfl, o3.2.2]
 unfold putT
 rw [List.length_append]
def QT (l0 : Tx) (r : By) (ks : Tx) (b' : By) : Prop := ∃ rest, dsT l0 = ks ++ rest ∧ b' = rest.flatMap putT ++ (ints (ixT (dsT l0) l0) ++ r)
theorem QT.step {l0 : Tx} {r : By} {ks : Tx} {b' : By} (ht : TOK l0) (hlt : ks.length < (dsT l0).length) (h : QT l0 r ks b') : (txT b' 0).2.2 = 0 ∧ QT l0 r (ks ++ [(txT b' 0).1]) (b'.drop (txT b' 0).2.1) := by
 obtain ⟨rest, h1, h2⟩ := h
 cases rest with
 | nil => rw [h1] at hlt; simp at hlt
 | cons y rest =>
  have hy : y.length ≤ 200 := ht.ds y (by rw [h1]; simp)
  have := txT_put (b := b') (r := rest.flatMap putT ++ (ints (ixT (dsT l0) l0) ++ r)) hy (by rw [h2]; simp)
  rw [this]
  refine ⟨rfl, rest, by rw [h1]; simp, ?_⟩
  rw [h2]
  simp only [List.flatMap_cons, List.append_assoc]
  rw [List.drop_left' rfl]
theorem QT.fin {l0 : Tx} {r : By} {ks : Tx} {b' : By} (hlen : ks.length = (dsT l0).length) (h : QT l0 r ks b') : ks = dsT l0 ∧ b' = ints (ixT (dsT l0) l0) ++ r := by
 obtain ⟨rest, h1, h2⟩ := h
 have hr : rest = [] := by
  rw [h1, List.length_append] at hlen
  exact List.eq_nil_of_length_eq_zero (by omega)
 subst hr
 exact ⟨by rw [h1]; simp, by rw [h2]; simp⟩
def GT (b : By) (Q : Tx → By → Prop) : Prop := ∀ l0 r, l0.length ≤ 512 → TOK l0 → b = txs l0 ++ r → Q l0 r
theorem gt_head (b : By) : GT b fun l0 r => (cnT b 0 512 5).2.2 = 0 ∧ (cnT b 0 512 5).1 = ((dsT l0).length : Int) ∧ QT l0 r [] (b.drop (cnT b 0 512 5).2.1) := fun l0 r hl ht h => by
 have hd := dsT_len l0
 have hb : b = num ((dsT l0).length : Int) ++ ((dsT l0).flatMap putT ++ (ints (ixT (dsT l0) l0) ++ r)) := by rw [h]; unfold txs; simp only [List.append_assoc]
 have r1 := rd1 (b := b) (e := 0) (i64_nat (by omega : (dsT l0).length ≤ 9223372036854775807)) rfl hb
 have hc : cnT b 0 512 5 = (((dsT l0).length : Int), (rnT b 0).2.1, 0) := cnT_of r1.1 r1.2.1 (by omega)
 rw [hc]
 exact ⟨rfl, rfl, dsT l0, rfl, r1.2.2⟩
def lkT (ks : Tx) (il : Li) : Tx := il.map fun i => ks.getD i.toNat []
theorem lkT_len (ks : Tx) (il : Li) : (lkT ks il).length = il.length := List.length_map _
theorem lkT_ix {d l : Tx} (h : ∀ x ∈ l, x ∈ d) : lkT d (ixT d l) = l := by
 induction l with
 | nil => rfl
 | cons x r ih =>
  have h1 := (idxT_lt (h x (by simp))).2
  have h2 := ih fun y hy => h y (by simp [hy])
  unfold lkT ixT at *
  simp only [List.map_cons, Int.toNat_natCast, List.getD_eq_getElem?_getD, h1, Option.getD_some]
  simp only [List.getD_eq_getElem?_getD] at h2
  rw [h2]
theorem lkT_ok {ks : Tx} (h : TOK ks) (il : Li) : TOK (lkT ks il) := fun s hs => by
 obtain ⟨i, _, e⟩ := List.mem_map.1 hs
 rw [← e, List.getD_eq_getElem?_getD]
 cases hk : ks[i.toNat]? with
 | none => simp
 | some x => simpa using h x (List.mem_of_getElem? hk)
theorem lkT_snoc {ks : Tx} {il : Li} {k i : Nat} {x : By} (hk : k < il.length) (hi : il[k] = (i : Int)) (hx : ks[i]? = some x) : lkT ks (il.take (k + 1)) = lkT ks (il.take k) ++ [x] := by
 unfold lkT
 rw [List.take_succ_eq_append_getElem hk, List.map_append, hi]
 simp only [List.map_cons, List.map_nil, Int.toNat_natCast, List.getD_eq_getElem?_getD, hx, Option.getD_some]
def RTs (b : By) (l : Tx) (n : Nat) (e : Int) : Prop := TOK l ∧ l.length ≤ 512 ∧ ((e = 0 ∧ n = (txs l).length ∧ b.take (txs l).length = txs l) ∨ (e = 1 ∧ l = [] ∧ n = 0)) ∧ GT b fun l0 _ => e = 0 ∧ l = l0
theorem RTs.bad {b : By} (h : GT b fun _ _ => False) : RTs b [] 0 1 := ⟨fun _ h => (by cases h), Nat.zero_le _, .inr ⟨rfl, rfl, rfl⟩, fun l0 r ha hl hb => (h l0 r ha hl hb).elim⟩
theorem RTs.two (b : By) {l : Tx} {n : Nat} {e : Int} (h1 : RTs b l n e) {l' : Tx} {n' : Nat} {e' : Int} (h2 : RTs b l' n' e') : l = l' ∧ n = n' ∧ e = e' := by
 obtain ⟨a1, a2, a3, a4⟩ := h1
 obtain ⟨b1, b2, b3, b4⟩ := h2
 rcases a3 with ⟨rfl, rfl, p1⟩ | ⟨rfl, rfl, rfl⟩
 ·have := b4 l (b.drop (txs l).length) a2 a1 (by conv => lhs; rw [← List.take_append_drop (txs l).length b, p1])
  obtain ⟨rfl, rfl⟩ := this
  rcases b3 with ⟨_, rfl, _⟩ | ⟨h, _⟩
  ·exact ⟨rfl, rfl, rfl⟩
  ·omega
 ·rcases b3 with ⟨rfl, rfl, p1⟩ | ⟨rfl, rfl, rfl⟩
  ·have := a4 l' (b.drop (txs l').length) b2 b1 (by conv => lhs; rw [← List.take_append_drop (txs l').length b, p1])
   omega
  ·exact ⟨rfl, rfl, rfl⟩
attribute [local irreducible] loadVar storeVar Instr.indexAt Instr.index Instr.sliceAt Instr.makeSlice Instr.lookup Instr.mapUpdate Instr.range Instr.next Instr.entry Instr.makeMap Builtin.append_ Builtin.copy_ Builtin.len_ Builtin.min_ Builtin.max_ Builtin.cap_ Builtin.delete_ Builtin.clear_ convert binOp eqGuard Op.unary Calls
section
open Go Go.RowKit Go.Proofs Go.Proofs.YtocckceefcmeaaaGreatDoor.Vc Go.Proofs.YtocckceefcmeaaaGreatDoor.Ax
theorem app_s {l : Nat} (h : l ≤ 4194304) : l ≤ 140737488355328 ∧ l ≤ maxLen := ⟨by omega, by unfold maxLen; omega⟩
theorem putTA (b s : By) (hb : b.length ≤ 2000000) (hs : s.length ≤ 200) : AFn Tryz.prog GC 156 [bs b, tv s] 0 [] (Own1 5 1 ((b ++ putT s).map enB)) := by
 have hl := (num_len (s.length : Int)).2
 refine afn_of Tryz.func156 rfl mixed (by kernel_rfl) ?_
 conv=>whnf
 (refine acallF [] (by kernel_rfl) (groupsA (s.length : Int) (i64_nat (by omega))) ?_ ?_; (focus trivial))
 rintro _ _ _ ⟨rfl, rfl, rfl⟩
 conv=>whnf
 refine VReq.mk (app_s (by rw [List.length_map]; show _ + s.length ≤ _; omega)) ?_
 conv=>whnf
 have h := ownA b (putT s) (by have := putT_len s hs; omega)
 refine acallF [1] (by kernel_rfl) h ⟨⟨rfl, rfl⟩, ⟨rfl, rfl, by unfold putT; rw [List.map_append]⟩, trivial⟩ ?_
 rintro _ _ _ ⟨rfl, rfl, rfl⟩
 conv=>whnf
 exact aend (.own 0) 1 _ [(0, .lab 2)] [] ⟨rfl, rfl, rfl⟩ rfl (by trivial) (by trivial)
theorem cloneTA (l : Tx) (hl : l ≠ []) (hs : l.length ≤ 100000) : AFn Tryz.prog GC 153 [tl l] 0 [] (Own1 9 1 (l.map enT)) := by
 have h0 : 0 < l.length := List.length_pos_iff.2 hl
 refine afn_of Tryz.func153 rfl mixed (by kernel_rfl) ?_
 conv=>whnf
 refine ⟨fun b hb => ?_⟩
 rw [hb (lmZ h0)]
 conv=>whnf
 (repeat' ((first | refine And.intro ?_ ?_ | (apply vif_split <;> intro h <;> try simp only [bl] at h) | refine AAr.i64 (by first | omega | ((try simp only [List.length_map] at *); omega)) ?_ | refine AIn.mk' _ rfl (by first | omega | (simp only [ln]; omega) | (simp only [ln] at *; omega)) ?_ | refine ARd.mapAt (by assumption) ?_ | refine ARd.set (by (try simp only [ln] at *); omega) ?_ | refine ARd.map (by first | omega | (simp only [List.length_map] at *; omega)) ?_ | refine VReq.mk (by first | decide | omega) ?_ | refine AEq.mk (by kernel_rfl) rfl rfl ?_ | refine VReq.mk (app_ok (by (try simp only [ln] at *); omega) (by kernel_rfl)) ?_) <;> conv=>whnf))
 exact aend (.own 0) 1 _ [(0, .lab 1)] [] ⟨rfl, rfl, rfl⟩ rfl (by trivial) (by trivial)
theorem sEq_self (s : ByteArray) : (!sEq s s) = false := by rw [sEqD]; simp
theorem nan3A (s : By) : AFn Tryz.prog GC 200 [tv s] 0 [] (Is (bv false)) := by
 refine afn_of Tryz.func200 rfl mixed (by kernel_rfl) ?_
 conv=>whnf
 exact aret [] (congrArg Value.bool (sEq_self _))
theorem lessTA (x y : By) : AFn Tryz.prog GC 174 [tv x, tv y] 0 [] (Is (bv (decide (x < y)))) := by
 have e := sLt_by x y
 refine afn_of Tryz.func174 rfl mixed (by kernel_rfl) ?_
 conv=>whnf
 (refine acall [] (by kernel_rfl) (nan3A x) rfl ?_ ?_; (focus trivial))
 conv=>whnf
 rw [← e]
 (repeat' ((first | refine And.intro ?_ ?_ | (apply vif_split <;> intro h <;> try simp only [bl] at h) | refine AAr.i64 (by first | omega | ((try simp only [List.length_map] at *); omega)) ?_ | refine AIn.mk' _ rfl (by first | omega | (simp only [ln]; omega) | (simp only [ln] at *; omega)) ?_ | refine ARd.mapAt (by assumption) ?_ | refine ARd.set (by (try simp only [ln] at *); omega) ?_ | refine ARd.map (by first | omega | (simp only [List.length_map] at *; omega)) ?_ | refine VReq.mk (by first | decide | omega) ?_ | refine AEq.mk (by kernel_rfl) rfl rfl ?_ | refine VReq.mk (app_ok (by (try simp only [ln] at *); omega) (by kernel_rfl)) ?_) <;> conv=>whnf))
 all_goals first
  | exact aret [] (by trivial)
  | exact aret [] (congrArg Value.bool (by assumption))
theorem searchTA (d : Tx) (x : By) (hd : SST d) (hx : x ∈ d) (hs : d.length ≤ 1000000) : AFn Tryz.prog GC 157 [tl d, tv x] 0 [] (Is (.tup [iv (idxT d x), bv true])) := by
 have hi := idxT_lt hx
 refine afn_of Tryz.func157 rfl mixed (by kernel_rfl) ?_
 conv=>whnf
 refine aloop ws157_1 0 [7, 8] (fun x : Nat × Nat => [(7, iv x.1), (8, iv x.2)]) (fun _ => []) (fun y => y.1 ≤ idxT d x ∧ idxT d x ≤ y.2 ∧ y.2 ≤ d.length) (fun y => y.2 - y.1) [] [] (0, d.length) (by kernel_rfl) (fun _ => rfl) rfl ⟨Nat.zero_le _, Nat.le_of_lt hi.1, Nat.le_refl _⟩ trivial ⟨rfl, congrArg (fun n : Nat => Value.int .i64 (n : Int)) (List.length_map _), trivial⟩ ?_
 rintro ⟨i, j⟩ ⟨h1, h2, h3⟩
 change i ≤ idxT d x at h1
 change idxT d x ≤ j at h2
 change j ≤ d.length at h3
 conv=>whnf
 apply vif_split <;> intro h
 ·have hlt : i < j := by simp at h; omega
  conv=>whnf
  (repeat' ((first | refine And.intro ?_ ?_ | (apply vif_split <;> intro h <;> try simp only [bl] at h) | refine AAr.i64 (by first | omega | ((try simp only [List.length_map] at *); omega)) ?_ | refine AIn.mk' _ rfl (by first | omega | (simp only [ln]; omega) | (simp only [ln] at *; omega)) ?_ | refine ARd.mapAt (by assumption) ?_ | refine ARd.set (by (try simp only [ln] at *); omega) ?_ | refine ARd.map (by first | omega | (simp only [List.length_map] at *; omega)) ?_ | refine VReq.mk (by first | decide | omega) ?_ | refine AEq.mk (by kernel_rfl) rfl rfl ?_ | refine VReq.mk (app_ok (by (try simp only [ln] at *); omega) (by kernel_rfl)) ?_) <;> conv=>whnf))
  refine AAr.to (y := ((i + j : Nat) : Int)) (by rw [← Int.natCast_add]; exact wr_u64 (by omega)) ?_
  conv=>whnf
  refine VReq.mk (by decide) ?_
  rw [shrk1]
  conv=>whnf
  refine AAr.i64 (by omega) ?_
  conv=>whnf
  have hm : (i + j) / 2 < d.length := by omega
  (repeat' ((first | refine And.intro ?_ ?_ | (apply vif_split <;> intro h <;> try simp only [bl] at h) | refine AAr.i64 (by first | omega | ((try simp only [List.length_map] at *); omega)) ?_ | refine AIn.mk' _ rfl (by first | omega | (simp only [ln]; omega) | (simp only [ln] at *; omega)) ?_ | refine ARd.mapAt (by assumption) ?_ | refine ARd.set (by (try simp only [ln] at *); omega) ?_ | refine ARd.map (by first | omega | (simp only [List.length_map] at *; omega)) ?_ | refine VReq.mk (by first | decide | omega) ?_ | refine AEq.mk (by kernel_rfl) rfl rfl ?_ | refine VReq.mk (app_ok (by (try simp only [ln] at *); omega) (by kernel_rfl)) ?_) <;> conv=>whnf))
  (refine acall [] (by kernel_rfl) (lessTA d[(i + j) / 2] x) rfl ?_ ?_; (focus trivial))
  conv=>whnf
  have hat := List.getElem?_eq_getElem hm
  apply vif_split <;> intro h
  ·conv=>whnf
   refine AAr.i64 (by omega) ?_
   conv=>whnf
   have hlt2 : d[(i + j) / 2] < x := of_decide_eq_true h
   have hc : (i + j) / 2 < idxT d x := by
    rcases Nat.lt_trichotomy ((i + j) / 2) (idxT d x) with h4 | h4 | h4
    ·exact h4
    ·have := hi.2; rw [← h4, hat] at this; injection this with this; rw [this] at hlt2; exact (tlt_irr _ hlt2).elim
    ·exact (tlt_asym hlt2 (ssT_lt hd h4 hi.2 hat)).elim
   exact aback ((i + j) / 2 + 1, j) [] [] rfl (by show j - ((i + j) / 2 + 1) < j - i; omega) ⟨hc, h2, h3⟩ trivial ⟨rfl, rfl, trivial⟩
  ·conv=>whnf
   have hlt2 : ¬ d[(i + j) / 2] < x := of_decide_eq_false h
   have hc : idxT d x ≤ (i + j) / 2 := by
    rcases Nat.lt_or_ge ((i + j) / 2) (idxT d x) with h4 | h4
    ·exact absurd (ssT_lt hd h4 hat hi.2) hlt2
    ·exact h4
   exact aback (i, (i + j) / 2) [] [] rfl (by show (i + j) / 2 - i < j - i; omega) ⟨h1, hc, by show (i + j) / 2 ≤ _; omega⟩ trivial ⟨rfl, rfl, trivial⟩
 ·have hij : i = idxT d x := by simp at h; omega
  have hil : i < d.length := by omega
  have hat : d[i]? = some x := by rw [hij]; exact hi.2
  rw [← hij]
  conv=>whnf
  (repeat' ((first | refine And.intro ?_ ?_ | (apply vif_split <;> intro h <;> try simp only [bl] at h) | refine AAr.i64 (by first | omega | ((try simp only [List.length_map] at *); omega)) ?_ | refine AIn.mk' _ rfl (by first | omega | (simp only [ln]; omega) | (simp only [ln] at *; omega)) ?_ | refine ARd.mapAt (by assumption) ?_ | refine ARd.set (by (try simp only [ln] at *); omega) ?_ | refine ARd.map (by first | omega | (simp only [List.length_map] at *; omega)) ?_ | refine VReq.mk (by first | decide | omega) ?_ | refine AEq.mk (by kernel_rfl) rfl rfl ?_ | refine VReq.mk (app_ok (by (try simp only [ln] at *); omega) (by kernel_rfl)) ?_) <;> conv=>whnf))
  all_goals first
   | (exfalso; omega)
   | (exfalso; simp only [List.length_map] at h; omega)
   | (exfalso; simp at h; done)
   | exact aret [] (by trivial)
end
section
open Go Go.RowKit Go.Proofs Go.Proofs.YtocckceefcmeaaaGreatDoor.Vc Go.Proofs.YtocckceefcmeaaaGreatDoor.Ax
attribute [local irreducible] best ints en bd
theorem keys_take {d : Tx} {i : Nat} (h : i < d.length) : (d.take (i + 1)).flatMap putT = (d.take i).flatMap putT ++ putT d[i] := by
 rw [List.take_succ_eq_append_getElem h, List.flatMap_append, List.flatMap_cons, List.flatMap_nil, List.append_nil]
theorem key_at (l x : Tx) {k : Nat} (h : k < (dsT l).length) : (dsT l ++ x)[0 + k]? = some (dsT l)[k] := by rw [Nat.zero_add, List.getElem?_append_left h, List.getElem?_eq_getElem h]
theorem ixT_take {d l : Tx} {k : Nat} (h : k < l.length) : ixT d (l.take (k + 1)) = ixT d (l.take k) ++ [((idxT d l[k] : Nat) : Int)] := by
 unfold ixT
 rw [List.take_succ_eq_append_getElem h, List.map_append]; rfl
theorem textsNA (l : Tx) (hne : l ≠ []) (hs : l.length ≤ 512) (ht : TOK l) : AFn Tryz.prog GC 121 [tl l] 0 [] (Is (bs (txs l))) := by
 have hdl := dsT_len l
 have hkl := fun k => keys_len ((dsT l).take k) (ht.ds.take k)
 have n1 := (num_len ((dsT l).length : Int)).2
 refine afn_of Tryz.func121 rfl mixed (by kernel_rfl) ?_
 conv=>whnf
 (refine acallF [] (by kernel_rfl) (cloneTA l hne (by omega)) ?_ ?_; (focus trivial))
 rintro _ _ _ ⟨rfl, rfl, rfl⟩
 conv=>whnf
 refine acallM [0] [] (by kernel_rfl) (sortTA l hne (by omega)) rfl (by trivial) (by trivial) ?_
 rintro _ _ _ ⟨rfl, rfl, rfl⟩
 refine ⟨rfl, ?_⟩
 conv=>whnf
 refine acallM [0] [] (by kernel_rfl) (compactTA l hne (by omega)) rfl (by trivial) (by trivial) ?_
 rintro _ _ _ ⟨rfl, rfl, rfl⟩
 refine ⟨rfl, ?_⟩
 conv=>whnf
 (refine acallF [0] (by kernel_rfl) (putA [] ((dsT l).length : Int) (i64_nat (by omega)) (by simp)) ?_ ?_; (focus trivial))
 rintro _ _ _ ⟨rfl, rfl, rfl⟩
 conv=>whnf
 refine aloop ws121_1 3 [4, 23] (fun k : Nat => [(4, .own 2), (23, iv k)]) (fun k => [(0, .fz 1 ((dsT l ++ List.replicate (l.length - (dsT l).length) []).map enT)), (2, .rows 5 1 ((num ((dsT l).length : Int) ++ ((dsT l).take k).flatMap putT).map enB))]) (fun k => k ≤ (dsT l).length) (fun k => (dsT l).length - k) [(2, .lab 1)] [] 0 (by kernel_rfl) (fun _ => rfl) rfl (Nat.zero_le _) ⟨⟨rfl, rfl⟩, ⟨rfl, rfl, by simp⟩, trivial⟩ ⟨rfl, rfl, trivial⟩ ?_
 rintro k hk
 have hkk := hkl k
 rw [List.length_take] at hkk
 conv=>whnf
 apply vif_split <;> intro h
 ·have hlt : k < (dsT l).length := by simp at h; omega
  have hmem : (dsT l)[k] ∈ dsT l := List.getElem_mem hlt
  conv=>whnf
  refine AIn.mk' k rfl hlt ?_
  conv=>whnf
  refine ARd.mapAt (key_at l _ hlt) ?_
  conv=>whnf
  refine acallF [2] (by kernel_rfl) (putTA (num ((dsT l).length : Int) ++ ((dsT l).take k).flatMap putT) (dsT l)[k] (by rw [List.length_append]; omega) (ht.ds _ hmem)) ⟨⟨rfl, rfl, rfl⟩, rfl, trivial⟩ ?_
  rintro _ _ _ ⟨rfl, rfl, rfl⟩
  conv=>whnf
  refine AAr.i64 (by omega) ?_
  conv=>whnf
  refine aback (k + 1) [(2, .lab 3)] [] rfl (by show (dsT l).length - (k + 1) < (dsT l).length - k; omega) hlt ⟨⟨rfl, rfl⟩, ⟨rfl, rfl, ?_⟩, trivial⟩ ⟨rfl, rfl, trivial⟩
  rw [keys_take hlt, ← List.append_assoc]
 ·have : k = (dsT l).length := by simp at h; omega
  subst this
  rw [List.take_length]
  conv=>whnf
  refine aloop ws121_2 4 [7, 33] (fun k : Nat => [(7, .own 3), (33, iv k)]) (fun k => [(0, .fz 1 ((dsT l ++ List.replicate (l.length - (dsT l).length) []).map enT)), (2, .rows 5 1 ((num ((dsT l).length : Int) ++ (dsT l).flatMap putT).map enB)), (3, .rows 3 1 ((ixT (dsT l) (l.take k)).map enI))]) (fun k => k ≤ l.length) (fun k => l.length - k) [(3, .nil)] [] 0 (by kernel_rfl) (fun _ => rfl) rfl (Nat.zero_le _) ⟨⟨rfl, rfl⟩, ⟨rfl, rfl, rfl⟩, rfl, trivial⟩ ⟨trivial, rfl, trivial⟩ ?_
  rintro k hk
  conv=>whnf
  apply vif_split <;> intro h
  ·have hlt : k < l.length := by simp at h; omega
   have hmem : l[k] ∈ dsT l := (dsT_mem l _).2 (List.getElem_mem hlt)
   have hil := (idxT_lt hmem).1
   conv=>whnf
   (repeat' ((first | refine And.intro ?_ ?_ | (apply vif_split <;> intro h <;> try simp only [bl] at h) | refine AAr.i64 (by first | omega | ((try simp only [List.length_map] at *); omega)) ?_ | refine AIn.mk' _ rfl (by first | omega | (simp only [ln]; omega) | (simp only [ln] at *; omega)) ?_ | refine ARd.mapAt (by assumption) ?_ | refine ARd.set (by (try simp only [ln] at *); omega) ?_ | refine ARd.map (by first | omega | (simp only [List.length_map] at *; omega)) ?_ | refine VReq.mk (by first | decide | omega) ?_ | refine AEq.mk (by kernel_rfl) rfl rfl ?_ | refine VReq.mk (app_ok (by (try simp only [ln] at *); omega) (by kernel_rfl)) ?_) <;> conv=>whnf))
   refine acall [] (by kernel_rfl) (searchTA (dsT l) l[k] (dsT_ss l) hmem (by omega)) rfl ⟨⟨rfl, take_dsT l _⟩, rfl, trivial⟩ ?_
   conv=>whnf
   refine VReq.mk (app_ok (by rw [List.length_map, ixT_len, List.length_take]; show _ + 1 ≤ _; omega) (by kernel_rfl)) ?_
   conv=>whnf
   refine AAr.i64 (by omega) ?_
   conv=>whnf
   refine aback (k + 1) [(3, .lab 5)] [] rfl (by show l.length - (k + 1) < l.length - k; omega) hlt ⟨⟨rfl, rfl⟩, ⟨rfl, rfl, rfl⟩, ⟨rfl, rfl, ?_⟩, trivial⟩ ⟨rfl, rfl, trivial⟩
   rw [ixT_take hlt, List.map_append]
   rfl
  ·have : k = l.length := by simp at h; omega
   subst this
   rw [List.take_length]
   conv=>whnf
   have hkk2 := keys_len (dsT l) ht.ds
   have hib := ints_short (ixT (dsT l) l) (by rw [ixT_len]; exact hs)
   (refine acallF [3] (by kernel_rfl) (intsA (ixT (dsT l) l) (ixT_all _ _ (fun x hx => (dsT_mem l x).2 hx) (by omega)) (by rw [ixT_len]; exact hs)) ?_ ?_; (focus trivial))
   rintro _ _ _ ⟨rfl, rfl, rfl⟩
   conv=>whnf
   refine VReq.mk (app_ok (by simp only [List.length_map, List.length_append]; omega) (by kernel_rfl)) ?_
   conv=>whnf
   refine aret [4] ⟨rfl, rfl, ?_⟩
   unfold txs
   simp only [List.map_append]
theorem cloneT0A : AFn Tryz.prog GC 153 [tl []] 0 [] (fun a n H => (a = .v (.slice none 0 0) ∧ n = 0 ∧ H = []) ∨ (a = .own 0 ∧ n = 1 ∧ H = [(0, .rows 9 1 [])])) := by
 refine afn_of Tryz.func153 rfl mixed (by kernel_rfl) ?_
 conv=>whnf
 refine ⟨fun b _ => ?_⟩
 cases b
 ·conv=>whnf
  (repeat' ((first | refine And.intro ?_ ?_ | (apply vif_split <;> intro h <;> try simp only [bl] at h) | refine AAr.i64 (by first | omega | ((try simp only [List.length_map] at *); omega)) ?_ | refine AIn.mk' _ rfl (by first | omega | (simp only [ln]; omega) | (simp only [ln] at *; omega)) ?_ | refine ARd.mapAt (by assumption) ?_ | refine ARd.set (by (try simp only [ln] at *); omega) ?_ | refine ARd.map (by first | omega | (simp only [List.length_map] at *; omega)) ?_ | refine VReq.mk (by first | decide | omega) ?_ | refine AEq.mk (by kernel_rfl) rfl rfl ?_ | refine VReq.mk (app_ok (by (try simp only [ln] at *); omega) (by kernel_rfl)) ?_) <;> conv=>whnf))
  exact aend (.own 0) 1 _ [(0, .lab 1)] [] (.inr ⟨rfl, rfl, rfl⟩) rfl (by trivial) (by trivial)
 ·conv=>whnf
  exact aend (.v (.slice none 0 0)) 0 [] [] [] (.inl ⟨rfl, rfl, rfl⟩) rfl (by trivial) (by trivial)
theorem len0A : AFn Tryz.prog GC 173 [uv 0] 0 [] (Is (iv 0)) := by
 have h : AFn Tryz.prog GC 199 [uv 0] 0 [] (Is (iv 0)) := len64A 0 (by decide)
 refine afn_of Tryz.func173 rfl mixed (by kernel_rfl) ?_
 conv=>whnf
 (refine acall [] (by kernel_rfl) (h) rfl ?_ ?_; (focus trivial))
 conv=>whnf
 exact aret [] (by trivial)
theorem ins0A : AFn Tryz.prog GC 190 [tl [], iv 0, iv 0] 0 [] (Is (.tup [])) := by
 refine afn_of Tryz.func190 rfl mixed (by kernel_rfl) ?_
 conv=>whnf
 refine AAr.i64 (by decide) ?_
 conv=>whnf
 refine aloop ws190_1 0 [6] (fun i : Nat => [(6, iv i)]) (fun _ => []) (fun i => i = 1) (fun _ => 0) [] [] 1 (by kernel_rfl) (fun _ => rfl) rfl rfl trivial ⟨rfl, trivial⟩ ?_
 rintro i rfl
 conv=>whnf
 exact aret [] (by trivial)
theorem pdq0A : AFn Tryz.prog GC 172 [tl [], iv 0, iv 0, iv 0] 0 [] (Is (.tup [])) := by
 refine afn_of Tryz.func172 rfl mixed (by kernel_rfl) ?_
 conv=>whnf
 refine aloop ws172_1 0 [1, 2, 3, 8, 9] (fun _ : Nat => [(1, iv 0), (2, iv 0), (3, iv 0), (8, bv true), (9, bv true)]) (fun _ => []) (fun _ => True) (fun _ => 0) [] [] 0 (by kernel_rfl) (fun _ => rfl) rfl trivial trivial (by trivial) ?_
 rintro i _
 conv=>whnf
 refine AAr.i64 (by decide) ?_
 conv=>whnf
 (refine acall [] (by kernel_rfl) (ins0A) rfl ?_ ?_; (focus trivial))
 conv=>whnf
 exact aret [] (by trivial)
theorem sortT0A : AFn Tryz.prog GC 154 [tl []] 0 [] (Is (.tup [])) := by
 refine afn_of Tryz.func154 rfl mixed (by kernel_rfl) ?_
 conv=>whnf
 refine AAr.to (y := 0) rfl ?_
 conv=>whnf
 (refine acall [] (by kernel_rfl) (len0A) rfl ?_ ?_; (focus trivial))
 conv=>whnf
 (refine acall [] (by kernel_rfl) (pdq0A) rfl ?_ ?_; (focus trivial))
 conv=>whnf
 exact aret [] (by trivial)
theorem compactT0A : AFn Tryz.prog GC 155 [tl []] 0 [] (Is (tl [])) := by
 refine afn_of Tryz.func155 rfl mixed (by kernel_rfl) ?_
 conv=>whnf
 exact aret [] (by trivial)
theorem txs_nil : txs [] = num 0 ++ ints [] := by
 unfold txs
 simp [dsT, ixT]
theorem textsEA : AFn Tryz.prog GC 121 [tl []] 0 [] (Is (bs (txs []))) := by
 refine afn_of Tryz.func121 rfl mixed (by kernel_rfl) ?_
 conv=>whnf
 (refine acallF [] (by kernel_rfl) (cloneT0A) ?_ ?_; (focus trivial))
 rintro _ _ _ (⟨rfl, rfl, rfl⟩ | ⟨rfl, rfl, rfl⟩)
 ·skip
  conv=>whnf
  (refine acallF [] (by kernel_rfl) (sortT0A) ?_ ?_; (focus trivial))
  rintro _ _ _ ⟨rfl, rfl, rfl⟩
  conv=>whnf
  (refine acallF [] (by kernel_rfl) (compactT0A) ?_ ?_; (focus trivial))
  rintro _ _ _ ⟨rfl, rfl, rfl⟩
  conv=>whnf
  (refine acallF [] (by kernel_rfl) (putA [] 0 (by unfold I64; omega) (by simp)) ?_ ?_; (focus trivial))
  rintro _ _ _ ⟨rfl, rfl, rfl⟩
  conv=>whnf
  refine aloop ws121_1 (0 + 2) [4, 23] (fun k : Nat => [(4, .own (0 + 1)), (23, iv k)]) (fun _ => [(0 + 1, .rows 5 1 ((num 0).map enB))]) (fun k => k = 0) (fun _ => 0) [(0 + 1, .lab 0)] [] 0 (by kernel_rfl) (fun _ => rfl) rfl rfl ⟨⟨rfl, rfl, rfl⟩, trivial⟩ ⟨rfl, rfl, trivial⟩ ?_
  rintro k rfl
  conv=>whnf
  refine aloop ws121_2 (0 + 2) [7, 33] (fun k : Nat => [(7, .v (.slice none 0 0)), (33, iv k)]) (fun _ => [(0 + 1, .rows 5 1 ((num 0).map enB))]) (fun k => k = 0) (fun _ => 0) [] [] 0 (by kernel_rfl) (fun _ => rfl) rfl rfl ⟨⟨rfl, rfl, rfl⟩, trivial⟩ ⟨rfl, rfl, trivial⟩ ?_
  rintro k rfl
  conv=>whnf
  (refine acallF [] (by kernel_rfl) (intsA [] AllI.nil (by simp)) ?_ ?_; (focus trivial))
  rintro _ _ _ ⟨rfl, rfl, rfl⟩
  conv=>whnf
  have hib := ints_short [] (by simp)
  have hn := (num_len 0).2
  refine VReq.mk (app_ok (by simp only [List.length_map]; omega) (by kernel_rfl)) ?_
  conv=>whnf
  refine aret [0 + 2] ⟨rfl, rfl, ?_⟩
  rw [txs_nil, List.map_append]
 ·skip
  conv=>whnf
  (refine acallF [0] (by kernel_rfl) (sortT0A) ?_ ?_; (focus trivial))
  rintro _ _ _ ⟨rfl, rfl, rfl⟩
  conv=>whnf
  (refine acallF [] (by kernel_rfl) (compactT0A) ?_ ?_; (focus trivial))
  rintro _ _ _ ⟨rfl, rfl, rfl⟩
  conv=>whnf
  (refine acallF [] (by kernel_rfl) (putA [] 0 (by unfold I64; omega) (by simp)) ?_ ?_; (focus trivial))
  rintro _ _ _ ⟨rfl, rfl, rfl⟩
  conv=>whnf
  refine aloop ws121_1 (1 + 2) [4, 23] (fun k : Nat => [(4, .own (1 + 1)), (23, iv k)]) (fun _ => [(1 + 1, .rows 5 1 ((num 0).map enB))]) (fun k => k = 0) (fun _ => 0) [(1 + 1, .lab 1)] [] 0 (by kernel_rfl) (fun _ => rfl) rfl rfl ⟨⟨rfl, rfl, rfl⟩, trivial⟩ ⟨rfl, rfl, trivial⟩ ?_
  rintro k rfl
  conv=>whnf
  refine aloop ws121_2 (1 + 2) [7, 33] (fun k : Nat => [(7, .v (.slice none 0 0)), (33, iv k)]) (fun _ => [(1 + 1, .rows 5 1 ((num 0).map enB))]) (fun k => k = 0) (fun _ => 0) [] [] 0 (by kernel_rfl) (fun _ => rfl) rfl rfl ⟨⟨rfl, rfl, rfl⟩, trivial⟩ ⟨rfl, rfl, trivial⟩ ?_
  rintro k rfl
  conv=>whnf
  (refine acallF [] (by kernel_rfl) (intsA [] AllI.nil (by simp)) ?_ ?_; (focus trivial))
  rintro _ _ _ ⟨rfl, rfl, rfl⟩
  conv=>whnf
  have hib := ints_short [] (by simp)
  have hn := (num_len 0).2
  refine VReq.mk (app_ok (by simp only [List.length_map]; omega) (by kernel_rfl)) ?_
  conv=>whnf
  refine aret [1 + 2] ⟨rfl, rfl, ?_⟩
  rw [txs_nil, List.map_append]
theorem textsA (l : Tx) (hs : l.length ≤ 512) (ht : TOK l) : AFn Tryz.prog GC 121 [tl l] 0 [] (Is (bs (txs l))) := by
 by_cases h : l = []
 ·subst h; exact textsEA
 ·exact textsNA l h hs ht
end
section
open Go Go.RowKit Go.Proofs Go.Proofs.YtocckceefcmeaaaGreatDoor.Vc Go.Proofs.YtocckceefcmeaaaGreatDoor.Ax
theorem takeA (b : By) (n : Nat) (hn : n ≤ 200) : AFn Tryz.prog GC 72 [.ptr 0 0, iv n] 1 [(0, rdB b 0)] (fun a m H => a = bs (if n ≤ b.length then b.take n else []) ∧ m = 1 ∧ H = [(0, rdB (if n ≤ b.length then b.drop n else b) (if n ≤ b.length then 0 else 16))]) := by
 refine afn_of Tryz.func72 rfl mixed (by kernel_rfl) ?_
 conv=>whnf
 apply vif_split <;> intro h
 ·have hl : ¬ n ≤ b.length := by simp at h; omega
  simp only [hl, if_false]
  conv=>whnf
  exact aend (bs []) 1 [(0, rdB b 16)] [] [] ⟨rfl, rfl, rfl⟩ rfl (by trivial) (by trivial)
 have hl : n ≤ b.length := by simp at h; omega
 simp only [hl, if_true]
 conv=>whnf
 refine VReq.mk ⟨Int.le_refl _, by rw [List.length_map]; omega⟩ ?_
 refine ABd.mk' 0 n rfl rfl (Nat.zero_le _) (by rw [List.length_map]; exact hl) ?_
 conv=>whnf
 refine ABd.mk' n b.length rfl (by rw [List.length_map]) hl (by rw [List.length_map]; exact Nat.le_refl _) ?_
 conv=>whnf
 exact aend (bs (b.take n)) 1 [(0, rdB (b.drop n) 0)] [] [] ⟨rfl, rfl, rfl⟩ rfl ⟨⟨rfl, ⟨rfl, List.map_drop.symm⟩, rfl, trivial⟩, trivial⟩ ⟨rfl, List.map_take.symm⟩
theorem takeEA (b : By) (e : Int) (he : e ≠ 0) : AFn Tryz.prog GC 72 [.ptr 0 0, iv 0] 1 [(0, rdB b e)] (fun a m H => a = bs [] ∧ m = 1 ∧ H = [(0, rdB b e)]) := by
 refine afn_of Tryz.func72 rfl mixed (by kernel_rfl) ?_
 have hq : (e == 0) = false := by simpa using he
 conv=>whnf
 rw [hq]
 conv=>whnf
 apply vif_split <;> intro h
 rotate_left 1
 ·exfalso; simp at h; exact he h
 conv=>whnf
 exact aend (bs []) 1 [(0, rdB b e)] [] [] ⟨rfl, rfl, rfl⟩ rfl (by trivial) (by trivial)
theorem textA (b : By) (e : Int) (hb : b.length ≤ 3000000) : AFn Tryz.prog GC 34 [.ptr 0 0, iv 200] 1 [(0, rdB b e)] (fun a n H => a = tv (txT b e).1 ∧ n = 1 ∧ H = [(0, rdB (b.drop (txT b e).2.1) (txT b e).2.2)]) := by
 have hL := lengthA b e 200 4 hb (by decide) (by decide)
 have hr := cnT_rng b e 200 4 (by decide) (by decide)
 have hz : (cnT b e 200 4).2.2 ≠ 0 → (cnT b e 200 4).1 = 0 := fun h => by rw [cnT_def] at h ⊢; simp only at h ⊢; rw [if_neg h]
 have hd := txT_def b e
 generalize cnT b e 200 4 = c at *
 obtain ⟨x, k, e'⟩ := c
 simp only at hL hr hz hd
 obtain ⟨n, rfl⟩ : ∃ n : Nat, x = (n : Int) := ⟨x.toNat, by omega⟩
 have hn : n ≤ 200 := by omega
 rw [Int.toNat_natCast] at hd
 by_cases he : e' = 0
 ·subst he
  rw [if_pos rfl] at hd
  have hT := takeA (b.drop k) n hn
  by_cases h : n ≤ (b.drop k).length
  ·have h2 : ¬ ((b.drop k).length : Int) < (n : Int) := by omega
   rw [if_neg h2] at hd
   rw [hd]
   simp only [h, if_true] at hT
   refine afn_of Tryz.func34 rfl mixed (by kernel_rfl) ?_
   conv=>whnf
   refine acallM [0] [] (by kernel_rfl) hL rfl (by trivial) (by trivial) ?_
   rintro _ _ _ ⟨rfl, rfl, rfl⟩
   refine ⟨rfl, ?_⟩
   conv=>whnf
   refine acallM [0] [] (by kernel_rfl) hT rfl (by trivial) (by trivial) ?_
   rintro _ _ _ ⟨rfl, rfl, rfl⟩
   refine ⟨rfl, ?_⟩
   conv=>whnf
   refine ABy.of ?_
   conv=>whnf
   exact aend (tv ((b.drop k).take n)) 1 [(0, rdB (b.drop (k + n)) 0)] [] [] ⟨rfl, rfl, rfl⟩ rfl ⟨⟨rfl, ⟨rfl, by rw [List.drop_drop]⟩, rfl, trivial⟩, trivial⟩ (by trivial)
  ·have h2 : ((b.drop k).length : Int) < (n : Int) := by omega
   rw [if_pos h2] at hd
   rw [hd]
   simp only [h, if_false] at hT
   refine afn_of Tryz.func34 rfl mixed (by kernel_rfl) ?_
   conv=>whnf
   refine acallM [0] [] (by kernel_rfl) hL rfl (by trivial) (by trivial) ?_
   rintro _ _ _ ⟨rfl, rfl, rfl⟩
   refine ⟨rfl, ?_⟩
   conv=>whnf
   refine acallM [0] [] (by kernel_rfl) hT rfl (by trivial) (by trivial) ?_
   rintro _ _ _ ⟨rfl, rfl, rfl⟩
   refine ⟨rfl, ?_⟩
   conv=>whnf
   refine ABy.of (s := []) ?_
   conv=>whnf
   exact aend (tv []) 1 [(0, rdB (b.drop k) 16)] [] [] ⟨rfl, rfl, rfl⟩ rfl (by trivial) (by trivial)
 ·have h0 := hz he
  have hn0 : n = 0 := by omega
  subst hn0
  rw [if_neg he] at hd
  rw [hd]
  refine afn_of Tryz.func34 rfl mixed (by kernel_rfl) ?_
  conv=>whnf
  refine acallM [0] [] (by kernel_rfl) hL rfl (by trivial) (by trivial) ?_
  rintro _ _ _ ⟨rfl, rfl, rfl⟩
  refine ⟨rfl, ?_⟩
  conv=>whnf
  refine acallM [0] [] (by kernel_rfl) (takeEA (b.drop k) e' he) rfl (by trivial) (by trivial) ?_
  rintro _ _ _ ⟨rfl, rfl, rfl⟩
  refine ⟨rfl, ?_⟩
  conv=>whnf
  refine ABy.of (s := []) ?_
  conv=>whnf
  exact aend (tv []) 1 [(0, rdB (b.drop k) e')] [] [] ⟨rfl, rfl, rfl⟩ rfl (by trivial) (by trivial)
end
section
open Go Go.RowKit Go.Proofs Go.Proofs.YtocckceefcmeaaaGreatDoor.Vc Go.Proofs.YtocckceefcmeaaaGreatDoor.Ax
attribute [local irreducible] best ints en bd
def RTa (b : By) (a : AV) (m : Nat) (H : AHeap) : Prop := ∃ l n e, RTs b l n e ∧ a = .tup [tl l, iv (n : Nat), iv e] ∧ m = 0 ∧ H = []
structure TX where
 ks : Tx
 b : By
def KI (b : By) (n : Nat) (e : Int) (x : TX) : Prop := x.ks.length ≤ n ∧ TOK x.ks ∧ (e = 0 → b = num (n : Int) ++ x.ks.flatMap putT ++ x.b) ∧ GT b fun l0 r => e = 0 ∧ (dsT l0).length = n ∧ QT l0 r x.ks x.b
theorem readTextsA (b : By) (hb : b.length ≤ 100000) : AFn Tryz.prog GC 137 [bs b] 0 [] (RTa b) := by
 have hC := countA b 0 512 (by omega) (by decide)
 have hcr := cnT_rng b 0 512 5 (by decide) (by decide)
 have hhead := gt_head b
 have ho := rnT_ok b 0
 have hz : (cnT b 0 512 5).2.2 ≠ 0 → (cnT b 0 512 5).1 = 0 := fun h => by rw [cnT_def] at h ⊢; simp only at h ⊢; rw [if_neg h]
 rw [← hcr.2.2.1] at ho
 generalize cnT b 0 512 5 = c at *
 obtain ⟨x, k, e⟩ := c
 simp only at hC hcr hhead hz ho
 obtain ⟨n, rfl⟩ : ∃ n : Nat, x = (n : Int) := ⟨x.toNat, by omega⟩
 have hn : n ≤ 512 := by omega
 have hk0 : KI b n e ⟨[], b.drop k⟩ := ⟨Nat.zero_le _, fun _ h => (by cases h), fun he => by
  have := hcr.2.2.2 he
  have h3 := (ho.2.2.1 this.1).2.1
  rw [← this.2] at h3
  simpa using h3, fun l0 r hl ht hb => by
  have := hhead l0 r hl ht hb
  exact ⟨this.1, by omega, this.2.2⟩⟩
 have hbl : (b.drop k).length ≤ 100000 := drop_le hb
 generalize b.drop k = b1' at *
 clear hhead hcr ho
 refine afn_of Tryz.func137 rfl mixed (by kernel_rfl) ?_
 conv=>whnf
 (refine acallF [] (by kernel_rfl) (newA b (by omega)) ?_ ?_; (focus trivial))
 rintro _ _ _ ⟨rfl, rfl, rfl⟩
 conv=>whnf
 refine acallM [0] [] (by kernel_rfl) hC rfl (by trivial) (by trivial) ?_
 rintro _ _ _ ⟨rfl, rfl, rfl⟩
 refine ⟨rfl, ?_⟩
 conv=>whnf
 (refine acallF [] (by kernel_rfl) (putA [] (n : Int) (i64_nat (by omega)) (by simp)) ?_ ?_; (focus trivial))
 rintro _ _ _ ⟨rfl, rfl, rfl⟩
 conv=>whnf
 refine aloop ws137_1 3 [7, 8, 25] (fun x : TX => [(7, iv ((num (n : Int) ++ x.ks.flatMap putT).length : Nat)), (8, .own 2), (25, iv x.ks.length)]) (fun x => [(2, .rows 9 1 (x.ks.map enT)), (0, rdB x.b e)]) (fun x => x.b.length ≤ 100000 ∧ KI b n e x) (fun x => n - x.ks.length) [(2, .nil)] [] ⟨[], b1'⟩ (by kernel_rfl) (fun _ => rfl) rfl ⟨hbl, hk0⟩ ⟨rfl, (by trivial), trivial⟩ ⟨congrArg (fun n : Nat => Value.int .i64 (n : Int)) (by simp), trivial, rfl, trivial⟩ ?_
 rintro ⟨ks, b'⟩ ⟨hb', hK⟩
 change b'.length ≤ 100000 at hb'
 obtain ⟨k1, k2, k3, k4⟩ := hK
 change ks.length ≤ n at k1
 change TOK ks at k2
 change e = 0 → b = num (n : Int) ++ ks.flatMap putT ++ b' at k3
 change GT b fun l0 r => e = 0 ∧ (dsT l0).length = n ∧ QT l0 r ks b' at k4
 have hkl := keys_len ks k2
 have hnl := (num_len (n : Int)).2
 conv=>whnf
 apply vif_split <;> intro h
 ·have hlt : ks.length < n := by simp at h; omega
  have he : e = 0 := Classical.byContradiction fun he => by have := hz he; omega
  subst he
  have hT := textA b' 0 (by omega)
  have hto := txT_ok b' 0
  have hstep : GT b fun l0 r => (txT b' 0).2.2 = 0 ∧ QT l0 r (ks ++ [(txT b' 0).1]) (b'.drop (txT b' 0).2.1) := fun l0 r hl ht hbb => by
   have := k4 l0 r hl ht hbb
   exact this.2.2.step ht (by omega)
  generalize txT b' 0 = t at *
  obtain ⟨s, j, f⟩ := t
  simp only at hT hto hstep
  conv=>whnf
  refine acallM [0] [] (by kernel_rfl) hT rfl (by trivial) (by trivial) ?_
  rintro _ _ _ ⟨rfl, rfl, rfl⟩
  refine ⟨rfl, ?_⟩
  conv=>whnf
  refine acallM [0] [] (by kernel_rfl) (errA (b'.drop j) f) rfl (by trivial) (by trivial) ?_
  rintro _ _ _ ⟨rfl, rfl, rfl⟩
  refine ⟨rfl, ?_⟩
  conv=>whnf
  apply vif_split <;> intro h
  ·have hf : f ≠ 0 := by simpa using h
   conv=>whnf
   refine acallM [0] [] (by kernel_rfl) (errA (b'.drop j) f) rfl (by trivial) (by trivial) ?_
   rintro _ _ _ ⟨rfl, rfl, rfl⟩
   refine ⟨rfl, ?_⟩
   conv=>whnf
   apply vif_split <;> intro h
   rotate_left 1
   ·exfalso; simp at h; exact hf h
   conv=>whnf
   exact aend (.tup [tl [], iv (0 : Nat), iv 1]) 0 [] [] [] ⟨[], 0, 1, RTs.bad fun l0 r ha hl h => hf (hstep l0 r ha hl h).1, rfl, rfl, rfl⟩ rfl trivial (by trivial)
  have hf : f = 0 := by simpa using h
  subst hf
  conv=>whnf
  have hto3 := hto.2.2.1 rfl
  refine VReq.mk (app_ok (by simp only [List.length_map, List.length_append, List.length_cons, List.length_nil]; omega) (by kernel_rfl)) ?_
  conv=>whnf
  have hs2 := hto.1
  (refine acallF [] (by kernel_rfl) (putTA [] s (by simp) hs2) ?_ ?_; (focus trivial))
  rintro _ _ _ ⟨rfl, rfl, rfl⟩
  conv=>whnf
  have hpl := putT_len s hs2
  refine AAr.i64 (by simp only [List.length_map, List.length_append, List.length_nil]; omega) ?_
  conv=>whnf
  refine AAr.i64 (by simp only; omega) ?_
  conv=>whnf
  have hbd : (b'.drop j).length ≤ 100000 := drop_le hb'
  have hfm : (ks ++ [s]).flatMap putT = ks.flatMap putT ++ putT s := by simp
  refine aback ⟨ks ++ [s], b'.drop j⟩ [(2, .lab 4)] [] rfl (by show n - (ks ++ [s]).length < n - ks.length; rw [List.length_append]; simp only [List.length_cons, List.length_nil]; omega) ⟨hbd, by show (ks ++ [s]).length ≤ n; rw [List.length_append]; simp only [List.length_cons, List.length_nil]; omega, fun t ht => ?_, fun _ => ?_, fun l0 r hl ht hbb => ?_⟩ ⟨⟨rfl, rfl, (enT_snoc ks s).symm⟩, ⟨rfl, ⟨rfl, rfl⟩, rfl, trivial⟩, trivial⟩ ⟨?_, rfl, ?_, trivial⟩
  ·rcases List.mem_append.1 ht with h | h
   ·exact k2 t h
   ·rw [List.mem_singleton.1 h]; exact hs2
  ·show b = num (n : Int) ++ (ks ++ [s]).flatMap putT ++ b'.drop j
   rw [hfm, k3 rfl, List.append_assoc, List.append_assoc, List.append_assoc, ← hto3.2.1]
  ·exact ⟨rfl, (k4 l0 r hl ht hbb).2.1, (hstep l0 r hl ht hbb).2⟩
  ·refine congrArg (fun n : Int => Value.int .i64 n) ?_
   show _ = ((num (n : Int) ++ (ks ++ [s]).flatMap putT).length : Int)
   rw [hfm]
   simp only [List.length_map, List.length_append, List.nil_append]
   omega
  ·refine congrArg (fun n : Int => Value.int .i64 n) ?_
   show _ = ((ks ++ [s]).length : Int)
   rw [List.length_append]; rfl
 ·have hkn : ks.length = n := by simp at h; omega
  conv=>whnf
  refine acallM [0] [] (by kernel_rfl) (errA b' e) rfl (by trivial) (by trivial) ?_
  rintro _ _ _ ⟨rfl, rfl, rfl⟩
  refine ⟨rfl, ?_⟩
  conv=>whnf
  apply vif_split <;> intro h
  ·have he : e ≠ 0 := by simpa using h
   conv=>whnf
   exact aend (.tup [tl [], iv (0 : Nat), iv 1]) 0 [] [] [] ⟨[], 0, 1, RTs.bad fun l0 r ha hl h => he (k4 l0 r ha hl h).1, rfl, rfl, rfl⟩ rfl trivial (by trivial)
  have he : e = 0 := by simpa using h
  subst he
  have hbe := k3 rfl
  have hbl := congrArg List.length hbe
  simp only [List.length_append] at hbl
  have hdrop : (b.map enB).drop (num (n : Int) ++ ks.flatMap putT).length = b'.map enB := by
   rw [← List.map_drop, hbe, List.drop_left' rfl]
  have hfin : GT b fun l0 r => ks = dsT l0 ∧ b' = ints (ixT (dsT l0) l0) ++ r := fun l0 r hl ht hb => by
   have := k4 l0 r hl ht hb
   exact this.2.2.fin (by omega)
  conv=>whnf
  refine ABd.mk' (num (n : Int) ++ ks.flatMap putT).length b.length rfl (by rw [List.length_map]) (by rw [List.length_append]; omega) (by rw [List.length_map]; exact Nat.le_refl _) ?_
  conv=>whnf
  rw [show cut (some (AV.v (.int .i64 (((num (n : Int) ++ ks.flatMap putT).length : Nat) : Int)))) none (num (n : Int) ++ ks.flatMap putT).length b.length (b.map enB) = b'.map enB from hdrop]
  (refine acallF [] (by kernel_rfl) (readIntsA b' hb') ?_ ?_; (focus trivial))
  rintro _ _ _ ⟨il, m, f, hR, rfl, rfl, rfl⟩
  have hgood : GT b fun l0 r => f = 0 ∧ il = ixT (dsT l0) l0 ∧ ks = dsT l0 := fun l0 r hl ht hb => by
   have h1 := hfin l0 r hl ht hb
   have h2 := dsT_len l0
   have h3 := hR.2.2.2 _ r (ixT_all (dsT l0) l0 (fun x hx => (dsT_mem l0 x).2 hx) (by omega)) (by rw [ixT_len]; exact hl) h1.2
   exact ⟨h3.1, h3.2, h1.1⟩
  have hil := hR.2.1
  have hR1 := hR.1
  clear hdrop hfin hR hC hk0
  conv=>whnf
  apply vif_split <;> intro h
  ·have he : f ≠ 0 := by simpa using h
   conv=>whnf
   exact aend (.tup [tl [], iv (0 : Nat), iv 1]) 0 [] [] [] ⟨[], 0, 1, RTs.bad fun l0 r ha hl h => he (hgood l0 r ha hl h).1, rfl, rfl, rfl⟩ rfl trivial (by trivial)
  conv=>whnf
  refine aloop ws137_2 4 [9, 57] (fun i : Nat => [(9, .own 3), (57, iv i)]) (fun i => [(3, .rows 9 1 ((lkT ks (il.take i)).map enT)), (2, .rows 9 1 (ks.map enT)), (0, rdB b' 0)]) (fun i => i ≤ il.length ∧ ∀ j (h : j < il.length), j < i → 0 ≤ il[j] ∧ il[j] < (ks.length : Int)) (fun i => il.length - i) [(3, .nil)] [] 0 (by kernel_rfl) (fun _ => rfl) rfl ⟨Nat.zero_le _, fun j _ h => absurd h (Nat.not_lt_zero j)⟩ ⟨rfl, ⟨rfl, rfl, rfl⟩, (by trivial), trivial⟩ ⟨trivial, rfl, trivial⟩ ?_
  rintro i ⟨hi, hin⟩
  conv=>whnf
  apply vif_split <;> intro h
  ·have hlt : i < il.length := by simp at h; omega
   have hat := List.getElem?_eq_getElem hlt
   conv=>whnf
   refine AIn.mk' i rfl (lmZ hlt) ?_
   conv=>whnf
   refine ARd.mapAt hat ?_
   conv=>whnf
   have hbad : ¬ (0 ≤ il[i] ∧ il[i] < (ks.length : Int)) → GT b fun _ _ => False := fun hx l0 r hl ht hb => by
    obtain ⟨_, h2, h3⟩ := hgood l0 r hl ht hb
    have hlt' : i < (ixT (dsT l0) l0).length := by rw [← h2]; exact hlt
    have e : il[i] = (ixT (dsT l0) l0)[i]'hlt' := by simp only [h2]
    rw [ixT_len] at hlt'
    have e2 : il[i] = ((idxT (dsT l0) l0[i] : Nat) : Int) := by rw [e]; simp [ixT]
    have := (idxT_lt ((dsT_mem l0 l0[i]).2 (List.getElem_mem hlt'))).1
    exact hx (by rw [h3]; omega)
   have hstep : ∀ q : Nat, il[i] = (q : Int) → ∀ x, ks[q]? = some x → lkT ks (il.take (i + 1)) = lkT ks (il.take i) ++ [x] := fun q hq x hx => lkT_snoc hlt hq hx
   have hnx : (0 ≤ il[i] ∧ il[i] < (ks.length : Int)) → ∀ j (h : j < il.length), j < i + 1 → 0 ≤ il[j] ∧ il[j] < (ks.length : Int) := fun hx j h hj => by
    rcases Nat.lt_or_ge j i with h4 | h4
    ·exact hin j h h4
    ·have : j = i := by omega
     subst this; exact hx
   have hxI : I64 il[i] := hR1 _ (List.getElem_mem hlt)
   generalize il[i] = x at *
   apply vif_split <;> intro h
   ·have hx : x < 0 := by simpa using h
    conv=>whnf
    exact aend (.tup [tl [], iv (0 : Nat), iv 1]) 0 [] [] [] ⟨[], 0, 1, RTs.bad (hbad (by omega)), rfl, rfl, rfl⟩ rfl trivial (by trivial)
   have hx0 : 0 ≤ x := by simpa using h
   conv=>whnf
   apply vif_split <;> intro h
   ·have hx : (ks.length : Int) ≤ x := by simpa using h
    conv=>whnf
    exact aend (.tup [tl [], iv (0 : Nat), iv 1]) 0 [] [] [] ⟨[], 0, 1, RTs.bad (hbad (by omega)), rfl, rfl, rfl⟩ rfl trivial (by trivial)
   have hx1 : x < (ks.length : Int) := by simp at h; omega
   obtain ⟨q, rfl⟩ : ∃ q : Nat, x = (q : Int) := ⟨x.toNat, by omega⟩
   have hq : q < ks.length := by omega
   have hkq := List.getElem?_eq_getElem hq
   conv=>whnf
   refine AIn.mk' q rfl (lmZ hq) ?_
   conv=>whnf
   refine ARd.mapAt hkq ?_
   conv=>whnf
   have e1 := hstep q rfl ks[q] hkq
   have htl : (lkT ks (il.take i)).length ≤ 512 := by rw [lkT_len, List.length_take]; omega
   refine VReq.mk (app_ok (by simp only [List.length_map, List.length_append, List.length_cons, List.length_nil]; omega) (by kernel_rfl)) ?_
   conv=>whnf
   refine AAr.i64 (by omega) ?_
   conv=>whnf
   exact aback (i + 1) [(3, .lab 5)] [] rfl (by show il.length - (i + 1) < il.length - i; omega) ⟨hlt, hnx ⟨hx0, hx1⟩⟩ ⟨⟨rfl, rfl, by rw [e1]; exact (enT_snoc _ _).symm⟩, ⟨rfl, rfl, rfl⟩, ⟨rfl, (by trivial)⟩, trivial⟩ ⟨rfl, rfl, trivial⟩
  ·have hie : i = il.length := by simp at h; omega
   subst hie
   rw [List.take_length]
   have hl5 : (lkT ks il).length ≤ 512 := by rw [lkT_len]; exact hil
   have hok := lkT_ok k2 il
   have hG : GT b fun l0 r => lkT ks il = l0 := fun l0 r hl ht hb => by
    obtain ⟨_, h2, h3⟩ := hgood l0 r hl ht hb
    rw [h2, h3]
    exact lkT_ix fun x hx => (dsT_mem l0 x).2 hx
   generalize lkT ks il = l at *
   conv=>whnf
   have hT := textsA l hl5 hok
   have hpre := prefixA b (txs l)
   (refine acallF [3] (by kernel_rfl) (hT) ?_ ?_; (focus trivial))
   rintro _ _ _ ⟨rfl, rfl, rfl⟩
   conv=>whnf
   (refine acall [] (by kernel_rfl) (hpre) rfl ?_ ?_; (focus trivial))
   conv=>whnf
   apply vif_split <;> intro h
   ·have hp : ¬ b.take (txs l).length = txs l := by simpa using h
    conv=>whnf
    exact aend (.tup [tl [], iv (0 : Nat), iv 1]) 0 [] [] [] ⟨[], 0, 1, RTs.bad fun l0 r ha hl h => hp (by rw [hG l0 r ha hl h, h, List.take_left' rfl]), rfl, rfl, rfl⟩ rfl trivial (by trivial)
   ·have hp : b.take (txs l).length = txs l := by simpa using h
    conv=>whnf
    exact aend (.tup [tl l, iv ((txs l).length : Nat), iv 0]) 0 [] [] [] ⟨l, (txs l).length, 0, ⟨hok, hl5, .inl ⟨rfl, rfl, hp⟩, fun l0 r ha hl h => ⟨rfl, hG l0 r ha hl h⟩⟩, rfl, rfl, rfl⟩ rfl trivial ⟨⟨rfl, rfl⟩, congrArg (fun n : Nat => Value.int .i64 (n : Int)) (List.length_map _), rfl, trivial⟩
end
section
open Go Go.RowKit Go.Proofs Go.Proofs.YtocckceefcmeaaaGreatDoor.Vc Go.Proofs.YtocckceefcmeaaaGreatDoor.Ax
abbrev hdA (g f i n : Int) : AV := .agg [iv g, iv f, iv i, iv n]
theorem u8_shr (n k : Nat) (m : Nat) (hm : m = k) : IntKind.u8.wrap ((n : Int).fdiv (2 ^ m)) = ((bt (n / 2 ^ k)).toNat : Int) := by
 subst hm
 rw [IntKind.wrap_u8, Int.fdiv_eq_ediv_of_nonneg _ (Int.le_of_lt (Int.pow_pos (by decide))), bt_nat]
 have e : ((n : Int) / 2 ^ m) = ((n / 2 ^ m : Nat) : Int) := by simp
 rw [e]; omega
theorem u8_bt (n : Nat) : IntKind.u8.wrap (n : Int) = ((bt n).toNat : Int) := by
 rw [IntKind.wrap_u8, bt_nat]; omega
theorem putHA (G : Glob) (g f i n : Nat) (h1 : g < 4294967296) (h2 : f < 65536) (h3 : i < 256) (h4 : n < 256) : AFn Tryz.prog G 67 [hdA g f i n] 0 [] (Is (bs (hd g f i n))) := by
 refine afn_of Tryz.func67 rfl mixed (by kernel_rfl) ?_
 conv=>whnf
 repeat' (first | (refine VReq.mk (by decide) ?_; conv=>whnf) | (refine AAr.to (u8_shr g 24 _ rfl) ?_; conv=>whnf) | (refine AAr.to (u8_shr g 16 _ rfl) ?_; conv=>whnf) | (refine AAr.to (u8_shr g 8 _ rfl) ?_; conv=>whnf) | (refine AAr.to (u8_shr f 8 _ rfl) ?_; conv=>whnf) | (refine AAr.to (u8_bt _) ?_; conv=>whnf))
 refine aret [1] ⟨rfl, rfl, ?_⟩
 simp only [hd, be, List.range_succ, List.range_zero, List.nil_append, List.map_cons, List.map_nil, List.map_append, List.singleton_append, List.cons_append, enB]
 simp
theorem sumI_rng (a b : Int) (l : By) : 0 ≤ Dg.sumI a b l ∧ Dg.sumI a b l < 18446744073709551616 := by
 unfold Dg.sumI Dg.S4.done Dg.xor
 simp only [bitsOp]
 rw [IntKind.wrap_u64]
 omega
theorem hw_lt (g f i n : Nat) (d : By) : hw g f i n d < 18446744073709551616 ∧ hsh 101 [hd g f i n, d] = (hw g f i n d : Int) := by
 have h := sumI_rng 101 0 (Dg.frame [hd g f i n, d])
 unfold hw hsh
 omega
theorem frame2_len (a b : By) : (Dg.frame [a, b]).length = 16 + a.length + b.length := by
 simp only [Dg.frame, List.length_append, Dg.lenTo_len, List.length_nil]; omega
theorem sectorA (G : Glob) (g f i n : Nat) (d : By) (h1 : g < 4294967296) (h2 : f < 65536) (h3 : i < 256) (h4 : n < 256) (hd_ : d.length ≤ 1000) : AFn Tryz.prog G 29 [hdA g f i n, bs d] 0 [] (Is (bs (sec g f i n d))) := by
 obtain ⟨hH1, hH2⟩ := hw_lt g f i n d
 have hP := putHA G g f i n h1 h2 h3 h4
 have hh := hashA G 101 [hd g f i n, d] (show 2 ≤ 1000 by decide) (by rw [frame2_len, hd_len]; omega)
 have hl := hd_len g f i n
 have hW := putWordA G (hd g f i n) (hw g f i n d) (by omega) hH1
 rw [hH2] at hh
 have hl2 : (hd g f i n ++ be 8 (hw g f i n d)).length = 16 := by rw [List.length_append, be_len, hl]
 have hs : sec g f i n d = hd g f i n ++ be 8 (hw g f i n d) ++ d := rfl
 rw [hs]
 clear hs
 generalize hd g f i n ++ be 8 (hw g f i n d) = x at *
 generalize hw g f i n d = y at *
 generalize hd g f i n = z at *
 refine afn_of Tryz.func29 rfl mixed (by kernel_rfl) ?_
 conv=>whnf
 (refine acallF [] (by kernel_rfl) (hP) ?_ ?_; (focus trivial))
 rintro _ _ _ ⟨rfl, rfl, rfl⟩
 conv=>whnf
 (refine acallF [] (by kernel_rfl) (hP) ?_ ?_; (focus trivial))
 rintro _ _ _ ⟨rfl, rfl, rfl⟩
 conv=>whnf
 (refine acall [1] (by kernel_rfl) (hh) rfl ?_ ?_; (focus trivial))
 conv=>whnf
 refine acallF [] (by kernel_rfl) hW (by trivial) ?_
 rintro _ _ _ ⟨rfl, rfl, rfl⟩
 conv=>whnf
 refine VReq.mk (app_ok (by simp only [List.length_map]; omega) (by kernel_rfl)) ?_
 conv=>whnf
 refine aret [3] ⟨rfl, rfl, ?_⟩
 simp only [List.map_append]
theorem bytesEqA (G : Glob) (a b : By) : AFn Tryz.prog G 36 [bs a, bs b] 0 [] (Is (bv (decide (a = b)))) := by
 refine afn_of Tryz.func36 rfl mixed (by kernel_rfl) ?_
 conv=>whnf
 refine ABy.of ?_
 conv=>whnf
 refine ABy.of ?_
 conv=>whnf
 refine aret [] ?_
 exact congrArg Value.bool (sEq_tx a b)
theorem hG_lt (s : By) : hG s < 4294967296 := by
 unfold hG
 have := beN_lt (s.take 4)
 have h2 : (s.take 4).length ≤ 4 := List.length_take_le ..
 have h3 : 256 ^ (s.take 4).length ≤ 256 ^ 4 := Nat.pow_le_pow_right (by decide) h2
 have h4 : (256 : Nat) ^ 4 = 4294967296 := by decide
 omega
theorem bo_ori (a b : Nat) (ha : a < 4611686018427387904) (hb : b < 4611686018427387904) : bitsOp .or .i64 a b = ((a ||| b : Nat) : Int) := by
 have e : IntKind.i64.bits = 64 := rfl
 have h := Nat.or_lt_two_pow (n := 62) ha hb
 simp only [bitsOp, e, ofInt_nat, BitVec.toNat_or, BitVec.toNat_ofNat]
 rw [Nat.mod_eq_of_lt (by omega), Nat.mod_eq_of_lt (by omega)]
 exact IntWalk.i64_in _ (by omega)
theorem or_hi (c k a : Nat) (ha : a < 2 ^ k) : c * 2 ^ k ||| a = c * 2 ^ k + a := by rw [Nat.or_comm, or_add k c ha, Nat.add_comm]
theorem hG_eq {s : By} (h : s.length = 64) : hG s = (s.getD 0 0).toNat * 16777216 + (s.getD 1 0).toNat * 65536 + (s.getD 2 0).toNat * 256 + (s.getD 3 0).toNat := by
 match s, h with
 | a :: b :: c :: d :: r, _ =>
  simp only [hG, beN, List.take_succ_cons, List.take_zero, List.foldl_cons, List.foldl_nil, List.getD_cons_zero, List.getD_cons_succ]
  omega
theorem hF_eq {s : By} (h : s.length = 64) : hF s = (s.getD 4 0).toNat * 256 + (s.getD 5 0).toNat := by
 match s, h with
 | _ :: _ :: _ :: _ :: a :: b :: r, _ =>
  simp only [hF, beN, List.drop_succ_cons, List.drop_zero, List.take_succ_cons, List.take_zero, List.foldl_cons, List.foldl_nil, List.getD_cons_zero, List.getD_cons_succ]
  omega
theorem gen_bits {a b c d : Nat} (ha : a < 256) (hb : b < 256) (hc : c < 256) (hd : d < 256) : bitsOp .or .i64 (bitsOp .or .i64 (bitsOp .or .i64 ((a * 16777216 : Nat) : Int) ((b * 65536 : Nat) : Int)) ((c * 256 : Nat) : Int)) (d : Int) = ((a * 16777216 + b * 65536 + c * 256 + d : Nat) : Int) := by
 have e1 : a * 16777216 ||| b * 65536 = a * 16777216 + b * 65536 := or_hi a 24 (b * 65536) (by omega)
 have e2 : (a * 16777216 + b * 65536) ||| c * 256 = a * 16777216 + b * 65536 + c * 256 := by
  have := or_hi (a * 256 + b) 16 (c * 256) (by omega)
  rw [show (a * 256 + b) * 2 ^ 16 = a * 16777216 + b * 65536 by omega] at this
  exact this
 have e3 : (a * 16777216 + b * 65536 + c * 256) ||| d = a * 16777216 + b * 65536 + c * 256 + d := by
  have := or_hi (a * 65536 + b * 256 + c) 8 d (by omega)
  rw [show (a * 65536 + b * 256 + c) * 2 ^ 8 = a * 16777216 + b * 65536 + c * 256 by omega] at this
  exact this
 rw [bo_ori _ _ (by omega) (by omega), e1, bo_ori _ _ (by omega) (by omega), e2, bo_ori _ _ (by omega) (by omega), e3]
theorem frm_bits {a b : Nat} (ha : a < 256) (hb : b < 256) : bitsOp .or .i64 ((a * 256 : Nat) : Int) (b : Int) = ((a * 256 + b : Nat) : Int) := by
 rw [bo_ori _ _ (by omega) (by omega), show a * 256 ||| b = a * 256 + b from or_hi a 8 b (by omega)]
theorem shl_bits {a : Nat} (ha : a < 256) (k : Nat) (m e : Nat) (he : e = k) (hm : 2 ^ k = m) (h : m ≤ 16777216) : IntKind.i64.wrap ((a : Int) * 2 ^ e) = ((a * m : Nat) : Int) := by
 subst he
 have : (2 : Int) ^ e = (m : Int) := by rw [← hm]; simp
 rw [this, ← Int.natCast_mul]
 have := Nat.mul_le_mul (show a ≤ 255 by omega) h
 exact IntWalk.i64_in _ (by omega)
theorem readHA (G : Glob) (s : By) : AFn Tryz.prog G 32 [bs s] 0 [] (fun a n H => n = 0 ∧ H = [] ∧ ∃ g f i m : Nat, a = .tup [hdA g f i m, bv (rOk s)] ∧ (rOk s = true → g = hG s ∧ f = hF s ∧ i = hI s ∧ m = hN s)) := by
 refine afn_of Tryz.func32 rfl mixed (by kernel_rfl) ?_
 conv=>whnf
 apply vif_split <;> intro h
 ·have hl : s.length ≠ 64 := by simp at h; omega
  have hr : rOk s = false := by simp [rOk, hl]
  conv=>whnf
  exact aend (.tup [hdA 0 0 0 0, bv false]) 0 [] [] [] ⟨rfl, rfl, 0, 0, 0, 0, by rw [hr]; rfl, fun h => by rw [hr] at h; cases h⟩ rfl trivial (by trivial)
 have hl : s.length = 64 := by simp at h; omega
 have hk : ∀ k, k < 64 → s[k]? = some (s.getD k 0) := fun k hk => by rw [List.getD_eq_getElem?_getD, List.getElem?_eq_getElem (by omega), Option.getD_some]
 have e1 := hG_eq hl
 have e2 := hF_eq hl
 have e3 : hI s = (s.getD 6 0).toNat := rfl
 have e4 : hN s = (s.getD 7 0).toNat := rfl
 have k0 := hk 0 (by decide)
 have k1 := hk 1 (by decide)
 have k2 := hk 2 (by decide)
 have k3 := hk 3 (by decide)
 have k4 := hk 4 (by decide)
 have k5 := hk 5 (by decide)
 have k6 := hk 6 (by decide)
 have k7 := hk 7 (by decide)
 have hr : rOk s = (decide (0 < hG s) && (decide (hI s < hN s) && decide (s = sec (hG s) (hF s) (hI s) (hN s) (s.drop 16)))) := by
  unfold rOk; rw [decide_eq_true hl, Bool.true_and]
 have hgl := hG_lt s
 rw [e1, e2, e3, e4] at hr ⊢
 generalize s.getD 0 0 = a0 at *
 generalize s.getD 1 0 = a1 at *
 generalize s.getD 2 0 = a2 at *
 generalize s.getD 3 0 = a3 at *
 generalize s.getD 4 0 = a4 at *
 generalize s.getD 5 0 = a5 at *
 generalize s.getD 6 0 = a6 at *
 generalize s.getD 7 0 = a7 at *
 have l0 := a0.toNat_lt
 have l1 := a1.toNat_lt
 have l2 := a2.toNat_lt
 have l3 := a3.toNat_lt
 have l4 := a4.toNat_lt
 have l5 := a5.toNat_lt
 have l6 := a6.toNat_lt
 have l7 := a7.toNat_lt
 clear hk
 have q0 : IntKind.i64.wrap ((a0.toNat : Int) * 2 ^ min (Int.toNat 24) IntKind.i64.bits) = _ := shl_bits l0 24 16777216 _ rfl (by decide) (by decide)
 have q1 : IntKind.i64.wrap ((a1.toNat : Int) * 2 ^ min (Int.toNat 16) IntKind.i64.bits) = _ := shl_bits l1 16 65536 _ rfl (by decide) (by decide)
 have q2 : IntKind.i64.wrap ((a2.toNat : Int) * 2 ^ min (Int.toNat 8) IntKind.i64.bits) = _ := shl_bits l2 8 256 _ rfl (by decide) (by decide)
 have q4 : IntKind.i64.wrap ((a4.toNat : Int) * 2 ^ min (Int.toNat 8) IntKind.i64.bits) = _ := shl_bits l4 8 256 _ rfl (by decide) (by decide)
 conv=>whnf
 refine adrawC pln32 [] [(4, 4), (9, 49)] 2 [(4, .ptr 1 0)] [(1, .var 59 [iv ((a0.toNat * 16777216 + a1.toNat * 65536 + a2.toNat * 256 + a3.toNat : Nat) : Int), iv ((a4.toNat * 256 + a5.toNat : Nat) : Int), iv (a6.toNat : Nat), iv (a7.toNat : Nat)]), (0, .var 59 [iv 0, iv 0, iv 0, iv 0])] (by kernel_rfl) (by kernel_rfl) ?_ ?_
 ·conv=>whnf
  repeat' (first
   | (refine AIn.mk' 0 rfl (by rw [List.length_map]; omega) ?_; conv=>whnf) | (refine AIn.mk' 1 rfl (by rw [List.length_map]; omega) ?_; conv=>whnf) | (refine AIn.mk' 2 rfl (by rw [List.length_map]; omega) ?_; conv=>whnf) | (refine AIn.mk' 3 rfl (by rw [List.length_map]; omega) ?_; conv=>whnf) | (refine AIn.mk' 4 rfl (by rw [List.length_map]; omega) ?_; conv=>whnf) | (refine AIn.mk' 5 rfl (by rw [List.length_map]; omega) ?_; conv=>whnf) | (refine AIn.mk' 6 rfl (by rw [List.length_map]; omega) ?_; conv=>whnf) | (refine AIn.mk' 7 rfl (by rw [List.length_map]; omega) ?_; conv=>whnf)
   | (refine ARd.mapAt k0 ?_; conv=>whnf) | (refine ARd.mapAt k1 ?_; conv=>whnf) | (refine ARd.mapAt k2 ?_; conv=>whnf) | (refine ARd.mapAt k3 ?_; conv=>whnf)
   | (refine ARd.mapAt k4 ?_; conv=>whnf) | (refine ARd.mapAt k5 ?_; conv=>whnf) | (refine ARd.mapAt k6 ?_; conv=>whnf) | (refine ARd.mapAt k7 ?_; conv=>whnf)
   | (refine VReq.mk (by decide) ?_; conv=>whnf)
   | (refine AAr.i64 (by omega) ?_; conv=>whnf)
   | (with_reducible refine AAr.to q0 ?_; conv=>whnf)
   | (with_reducible refine AAr.to q1 ?_; conv=>whnf)
   | (with_reducible refine AAr.to q2 ?_; conv=>whnf)
   | (with_reducible refine AAr.to q4 ?_; conv=>whnf))
  refine arbD [(1, .lab 1)] [] ?_ ?_ ?_
  ·rfl
  ·rw [gen_bits l0 l1 l2 l3, frm_bits l4 l5]
   trivial
  ·trivial
 have hf5 : a4.toNat * 256 + a5.toNat < 65536 := by omega
 rw [e1] at hgl
 clear q0 q1 q2 q4 k0 k1 k2 k3 k4 k5 k6 k7 e1 e2 e3 e4
 generalize a0.toNat * 16777216 + a1.toNat * 65536 + a2.toNat * 256 + a3.toNat = g at *
 generalize a4.toNat * 256 + a5.toNat = f at *
 generalize a6.toNat = i at *
 generalize a7.toNat = m at *
 have hd48 : (s.drop 16).length = 48 := by rw [List.length_drop, hl]
 have hS := fun h => sectorA G g f i m (s.drop 16) hgl hf5 l6 l7 h
 have hS := hS (by omega)
 have hs2 : s.length = 64 := hl
 conv=>whnf
 refine adraw pln32 [0] (by kernel_rfl) ?_
 refine aD_pre [0, 1, 2, 3, 4] ?_
 conv=>whnf
 refine ⟨aD_case 54 rfl (fun h => ?_) (fun h => ?_)⟩
 ·have hg0 : 0 < g := by have := of_decide_eq_true h; omega
  refine aD_pre [5, 6, 7, 8, 9, 10, 11] ?_
  conv=>whnf
  refine ⟨aD_case 61 rfl (fun h => ?_) (fun h => ?_)⟩
  ·have him : i < m := by have := of_decide_eq_true h; omega
   have hrr : rOk s = decide (sec g f i m (s.drop 16) = s) := by
    rw [hr, decide_eq_true hg0, decide_eq_true him, Bool.true_and, Bool.true_and]
    exact decide_eq_decide.2 eq_comm
   conv=>whnf
   refine ABd.mk' 16 s.length rfl (by rw [List.length_map]) (by omega) (by rw [List.length_map]; exact Nat.le_refl _) ?_
   conv=>whnf
   refine acallF [] (by kernel_rfl) hS ⟨(by trivial), ⟨rfl, List.map_drop.symm⟩, trivial⟩ ?_
   rintro _ _ _ ⟨rfl, rfl, rfl⟩
   conv=>whnf
   refine acall [] (by kernel_rfl) (bytesEqA G s (sec g f i m (s.drop 16))) rfl (by trivial) ?_
   conv=>whnf
   exact aend (.tup [hdA g f i m, bv (rOk s)]) 0 [] [] [] ⟨rfl, rfl, g, f, i, m, rfl, fun _ => ⟨rfl, rfl, rfl, rfl⟩⟩ rfl trivial ⟨(by trivial), congrArg Value.bool (by rw [hrr]; exact decide_eq_decide.2 eq_comm), trivial⟩
  ·have him : ¬ i < m := by have := of_decide_eq_false h; omega
   have hrr : rOk s = false := by rw [hr, decide_eq_false him, Bool.false_and, Bool.and_false]
   conv=>whnf
   exact aend (.tup [hdA g f i m, bv (rOk s)]) 0 [] [] [] ⟨rfl, rfl, g, f, i, m, rfl, fun _ => ⟨rfl, rfl, rfl, rfl⟩⟩ rfl trivial ⟨(by trivial), congrArg Value.bool hrr.symm, trivial⟩
 ·have hg0 : g = 0 := by have := of_decide_eq_false h; omega
  have hrr : rOk s = false := by rw [hr, decide_eq_false (by omega), Bool.false_and]
  conv=>whnf
  exact aend (.tup [hdA g f i m, bv (rOk s)]) 0 [] [] [] ⟨rfl, rfl, g, f, i, m, rfl, fun _ => ⟨rfl, rfl, rfl, rfl⟩⟩ rfl trivial ⟨(by trivial), congrArg Value.bool hrr.symm, trivial⟩
end
section
open Go Go.RowKit Go.Proofs Go.Proofs.YtocckceefcmeaaaGreatDoor.Vc Go.Proofs.YtocckceefcmeaaaGreatDoor.Ax Go.Proofs.YtocckceefcmeaaaGreatDoor.Ky
def kyB (s : By) : Bool := keyB ⟨s.toArray⟩
def evC (e : Ev) : Int :=
 if ¬ (e.kind = 1 ∨ e.kind = 2 ∨ e.kind = 3) then 7
 else if kyB e.client = false ∨ kyB e.id = false ∨ (e.kind ≠ 3 ∧ kyB e.name = false) ∨ (e.kind = 3 ∧ kyB e.other = false) then 6
 else if e.seq < 1 ∨ 1073741824 < e.seq ∨ e.time < 0 ∨ 1099511627776 < e.time then 3
 else if e.kind = 1 ∧ (e.ver < 0 ∨ 1099511627776 < e.ver ∨ e.arm < 1 ∨ 8 < e.arm) then 3
 else if e.kind = 2 ∧ (e.val < -1099511627776 ∨ 1099511627776 < e.val) then 3
 else if (e.kind = 1 ∧ (e.other ≠ [] ∨ e.val ≠ 0)) ∨ (e.kind = 2 ∧ (e.other ≠ [] ∨ e.ver ≠ 0 ∨ e.arm ≠ 0)) ∨ (e.kind = 3 ∧ (e.name ≠ [] ∨ e.ver ≠ 0 ∨ e.arm ≠ 0 ∨ e.val ≠ 0 ∨ e.other = e.id)) then 15
 else 0
theorem withinA (n a b : Int) : AFn Tryz.prog GS 130 [iv n, iv a, iv b] 0 [] (Is (bv (decide (a ≤ n) && decide (n ≤ b)))) := by
 refine afn_of Tryz.func130 rfl mixed (by kernel_rfl) ?_
 conv=>whnf
 repeat' (apply vif_split <;> intro h <;> (conv=>whnf))
 all_goals (refine aret [] (congrArg Value.bool ?_))
 all_goals (simp_all; try omega)
theorem check1K (k : Int) (client : By) (seq time : Int) (id name other : By) (ver arm val : Int) (z1 : client.length ≤ 140737488355328) (z2 : id.length ≤ 140737488355328) (z3 : name.length ≤ 140737488355328) (z4 : other.length ≤ 140737488355328) : AFn Tryz.prog GS 85 [.agg [tv client, iv seq, iv k, iv time, tv id, tv name, tv other, iv ver, iv arm, iv val]] 0 [] (Is (.v (.int .i64 (evC ⟨client, seq, k, time, id, name, other, ver, arm, val⟩)))) := by
 have k1 := keyG1 ⟨client.toArray⟩ (by show client.length ≤ _; omega)
 have k2 := keyG1 ⟨id.toArray⟩ (by show id.length ≤ _; omega)
 have k3 := keyG1 ⟨name.toArray⟩ (by show name.length ≤ _; omega)
 have k4 := keyG1 ⟨other.toArray⟩ (by show other.length ≤ _; omega)
 unfold evC kyB
 generalize keyB ⟨client.toArray⟩ = b1 at *
 generalize keyB ⟨id.toArray⟩ = b2 at *
 generalize keyB ⟨name.toArray⟩ = b3 at *
 generalize keyB ⟨other.toArray⟩ = b4 at *
 clear z1 z2 z3 z4
 by_cases c1 : k = 1
 ·subst c1
  simp only [true_or, not_true, if_false, true_and, show ¬ (1 : Int) = 2 by decide, show ¬ (1 : Int) = 3 by decide, false_and, or_false, ne_eq, not_false_eq_true]
  refine afn_of Tryz.func85 rfl mixed (by kernel_rfl) ?_
  conv=>whnf
  (refine adraw pln85 [] (by kernel_rfl) ?_; conv=>whnf)
  repeat' (first
   | ((refine acall [] (by kernel_rfl) (k1) rfl ?_ ?_; (focus (trivial; done)); (conv=>whnf)))
   | ((refine acall [] (by kernel_rfl) (k2) rfl ?_ ?_; (focus (trivial; done)); (conv=>whnf)))
   | ((refine acall [] (by kernel_rfl) (k3) rfl ?_ ?_; (focus (trivial; done)); (conv=>whnf)))
   | ((refine acall [] (by kernel_rfl) (k4) rfl ?_ ?_; (focus (trivial; done)); (conv=>whnf)))
   | ((refine acall [] (by kernel_rfl) (withinA seq 1 1073741824) rfl ?_ ?_; (focus (trivial; done)); (conv=>whnf)))
   | ((refine acall [] (by kernel_rfl) (withinA time 0 1099511627776) rfl ?_ ?_; (focus (trivial; done)); (conv=>whnf)))
   | ((refine acall [] (by kernel_rfl) (withinA ver 0 1099511627776) rfl ?_ ?_; (focus (trivial; done)); (conv=>whnf)))
   | ((refine acall [] (by kernel_rfl) (withinA arm 1 8) rfl ?_ ?_; (focus (trivial; done)); (conv=>whnf)))
   | ((refine acall [] (by kernel_rfl) (withinA val (-1099511627776) 1099511627776) rfl ?_ ?_; (focus (trivial; done)); (conv=>whnf)))
   | (apply vif_split <;> intro h <;> (first | (exfalso; simp only [*, Bool.not_true, Bool.not_false, Bool.false_eq_true, Bool.true_eq_false, reduceCtorEq] at *; done) | (conv=>whnf))))
  all_goals (refine aret [] (ciZ ?_))
  all_goals (simp only [cond_true, cond_false, sEq_tx, Bool.not_eq_true', Bool.not_eq_false', decide_eq_true_eq, decide_eq_false_iff_not, beq_iff_eq, bne_iff_ne, beq_eq_false_iff_ne, bne_eq_false_iff_eq, ne_eq, Bool.not_eq_eq_eq_not, Bool.not_true, Bool.not_false, Decidable.not_not, gt_iff_lt, Int.not_lt] at *)
  all_goals (clear k1 k2 k3 k4)
  all_goals first
   | (simp_all; done)
   | (simp_all; omega)
   | ((repeat' split) <;> first | rfl | (exfalso; simp_all; done) | (exfalso; simp_all; omega))
 by_cases c2 : k = 2
 ·subst c2
  simp only [true_or, or_true, not_true, if_false, true_and, show ¬ (2 : Int) = 1 by decide, show ¬ (2 : Int) = 3 by decide, false_and, or_false, false_or, ne_eq, not_false_eq_true]
  refine afn_of Tryz.func85 rfl mixed (by kernel_rfl) ?_
  conv=>whnf
  (refine adraw pln85 [] (by kernel_rfl) ?_; conv=>whnf)
  repeat' (first
   | ((refine acall [] (by kernel_rfl) (k1) rfl ?_ ?_; (focus (trivial; done)); (conv=>whnf)))
   | ((refine acall [] (by kernel_rfl) (k2) rfl ?_ ?_; (focus (trivial; done)); (conv=>whnf)))
   | ((refine acall [] (by kernel_rfl) (k3) rfl ?_ ?_; (focus (trivial; done)); (conv=>whnf)))
   | ((refine acall [] (by kernel_rfl) (k4) rfl ?_ ?_; (focus (trivial; done)); (conv=>whnf)))
   | ((refine acall [] (by kernel_rfl) (withinA seq 1 1073741824) rfl ?_ ?_; (focus (trivial; done)); (conv=>whnf)))
   | ((refine acall [] (by kernel_rfl) (withinA time 0 1099511627776) rfl ?_ ?_; (focus (trivial; done)); (conv=>whnf)))
   | ((refine acall [] (by kernel_rfl) (withinA ver 0 1099511627776) rfl ?_ ?_; (focus (trivial; done)); (conv=>whnf)))
   | ((refine acall [] (by kernel_rfl) (withinA arm 1 8) rfl ?_ ?_; (focus (trivial; done)); (conv=>whnf)))
   | ((refine acall [] (by kernel_rfl) (withinA val (-1099511627776) 1099511627776) rfl ?_ ?_; (focus (trivial; done)); (conv=>whnf)))
   | (apply vif_split <;> intro h <;> (first | (exfalso; simp only [*, Bool.not_true, Bool.not_false, Bool.false_eq_true, Bool.true_eq_false, reduceCtorEq] at *; done) | (conv=>whnf))))
  all_goals (refine aret [] (ciZ ?_))
  all_goals (simp only [cond_true, cond_false, sEq_tx, Bool.not_eq_true', Bool.not_eq_false', decide_eq_true_eq, decide_eq_false_iff_not, beq_iff_eq, bne_iff_ne, beq_eq_false_iff_ne, bne_eq_false_iff_eq, ne_eq, Bool.not_eq_eq_eq_not, Bool.not_true, Bool.not_false, Decidable.not_not, gt_iff_lt, Int.not_lt] at *)
  all_goals (clear k1 k2 k3 k4)
  all_goals first
   | (simp_all; done)
   | (simp_all; omega)
   | ((repeat' split) <;> first | rfl | (exfalso; simp_all; done) | (exfalso; simp_all; omega))
 by_cases c3 : k = 3
 ·subst c3
  simp only [or_true, not_true, if_false, true_and, show ¬ (3 : Int) = 1 by decide, show ¬ (3 : Int) = 2 by decide, false_and, false_or, ne_eq]
  refine afn_of Tryz.func85 rfl mixed (by kernel_rfl) ?_
  conv=>whnf
  (refine adraw pln85 [] (by kernel_rfl) ?_; conv=>whnf)
  repeat' (first
   | ((refine acall [] (by kernel_rfl) (k1) rfl ?_ ?_; (focus (trivial; done)); (conv=>whnf)))
   | ((refine acall [] (by kernel_rfl) (k2) rfl ?_ ?_; (focus (trivial; done)); (conv=>whnf)))
   | ((refine acall [] (by kernel_rfl) (k3) rfl ?_ ?_; (focus (trivial; done)); (conv=>whnf)))
   | ((refine acall [] (by kernel_rfl) (k4) rfl ?_ ?_; (focus (trivial; done)); (conv=>whnf)))
   | ((refine acall [] (by kernel_rfl) (withinA seq 1 1073741824) rfl ?_ ?_; (focus (trivial; done)); (conv=>whnf)))
   | ((refine acall [] (by kernel_rfl) (withinA time 0 1099511627776) rfl ?_ ?_; (focus (trivial; done)); (conv=>whnf)))
   | ((refine acall [] (by kernel_rfl) (withinA ver 0 1099511627776) rfl ?_ ?_; (focus (trivial; done)); (conv=>whnf)))
   | ((refine acall [] (by kernel_rfl) (withinA arm 1 8) rfl ?_ ?_; (focus (trivial; done)); (conv=>whnf)))
   | ((refine acall [] (by kernel_rfl) (withinA val (-1099511627776) 1099511627776) rfl ?_ ?_; (focus (trivial; done)); (conv=>whnf)))
   | (apply vif_split <;> intro h <;> (first | (exfalso; simp only [*, Bool.not_true, Bool.not_false, Bool.false_eq_true, Bool.true_eq_false, reduceCtorEq] at *; done) | (conv=>whnf))))
  all_goals (refine aret [] (ciZ ?_))
  all_goals (simp only [cond_true, cond_false, sEq_tx, Bool.not_eq_true', Bool.not_eq_false', decide_eq_true_eq, decide_eq_false_iff_not, beq_iff_eq, bne_iff_ne, beq_eq_false_iff_ne, bne_eq_false_iff_eq, ne_eq, Bool.not_eq_eq_eq_not, Bool.not_true, Bool.not_false, Decidable.not_not, gt_iff_lt, Int.not_lt] at *)
  all_goals (clear k1 k2 k3 k4)
  all_goals first
   | (simp_all; done)
   | (simp_all; omega)
   | ((repeat' split) <;> first | rfl | (exfalso; simp_all; done) | (exfalso; simp_all; omega))
 have q1 : (k == 1) = false := by simpa using c1
 have q2 : (k == 2) = false := by simpa using c2
 have q3 : (k == 3) = false := by simpa using c3
 refine afn_of Tryz.func85 rfl mixed (by kernel_rfl) ?_
 conv=>whnf
 (refine adraw pln85 [] (by kernel_rfl) ?_; conv=>whnf)
 rw [q1]
 conv=>whnf
 rw [q2]
 conv=>whnf
 rw [q3]
 conv=>whnf
 exact aret [] (ciZ (by simp [c1, c2, c3]))
theorem check1A (e : Ev) (he : e.ok) : AFn Tryz.prog GS 85 [evA e] 0 [] (Is (.v (.int .i64 (evC e)))) :=
 check1K e.kind e.client e.seq e.time e.id e.name e.other e.ver e.arm e.val he.client he.id he.name he.other
end
section
open Go Go.RowKit Go.Proofs Go.Proofs.YtocckceefcmeaaaGreatDoor.Vc Go.Proofs.YtocckceefcmeaaaGreatDoor.Ax
def loT (a : Int) (l : List Ev) : Int := l.foldl (fun a e => min a e.time) a
def hiT (a : Int) (l : List Ev) : Int := l.foldl (fun a e => max a e.time) a
def lims (l : List Ev) : Int × Int := match l with | [] => (0, 0) | e :: _ => (loT e.time l, hiT e.time l)
theorem loT_take {l : List Ev} {i : Nat} (a : Int) (h : i < l.length) : loT a (l.take (i + 1)) = min (loT a (l.take i)) l[i].time := by
 unfold loT; rw [List.take_succ_eq_append_getElem h, List.foldl_append]; rfl
theorem hiT_take {l : List Ev} {i : Nat} (a : Int) (h : i < l.length) : hiT a (l.take (i + 1)) = max (hiT a (l.take i)) l[i].time := by
 unfold hiT; rw [List.take_succ_eq_append_getElem h, List.foldl_append]; rfl
theorem loT_rng {l : List Ev} {a lo hi : Int} (h1 : lo ≤ a ∧ a ≤ hi) (h : ∀ e ∈ l, lo ≤ e.time ∧ e.time ≤ hi) : lo ≤ loT a l ∧ loT a l ≤ hi ∧ lo ≤ hiT a l ∧ hiT a l ≤ hi := by
 unfold loT hiT
 have : ∀ (l : List Ev) (a b : Int), (lo ≤ a ∧ a ≤ hi) → (lo ≤ b ∧ b ≤ hi) → (∀ e ∈ l, lo ≤ e.time ∧ e.time ≤ hi) → lo ≤ l.foldl (fun a e => min a e.time) a ∧ l.foldl (fun a e => min a e.time) a ≤ hi ∧ lo ≤ l.foldl (fun a e => max a e.time) b ∧ l.foldl (fun a e => max a e.time) b ≤ hi := by
  intro l
  induction l with
  | nil => intro a b h1 h2 _; exact ⟨h1.1, h1.2, h2.1, h2.2⟩
  | cons e r ih =>
   intro a b h1 h2 h
   have he := h e List.mem_cons_self
   simp only [List.foldl_cons]
   exact ih _ _ (by omega) (by omega) fun x hx => h x (List.mem_cons_of_mem _ hx)
 exact this l a a h1 h1 h
theorem limits1A (e : Ev) (r : List Ev) (hl : (e :: r).length ≤ 1000000) : AFn Tryz.prog GS 123 [el (e :: r)] 0 [] (Is (.tup [iv (loT e.time (e :: r)), iv (hiT e.time (e :: r))])) := by
 generalize hl0 : e :: r = l at *
 have h0 : l[0]? = some e := by rw [← hl0]; rfl
 have hpos : 0 < l.length := by rw [← hl0]; simp
 refine afn_of Tryz.func123 rfl mixed (by kernel_rfl) ?_
 conv=>whnf
 (refine adraw pln123 [] (by kernel_rfl) ?_; conv=>whnf)
 repeat' (first
  | (refine And.intro ?_ ?_ <;> (conv=>whnf))
  | (refine AIn.mk' 0 rfl (lmZ hpos) ?_; conv=>whnf)
  | (refine ARd.mapAt h0 ?_; conv=>whnf))
 refine aloop ws123_1 0 [4, 5, 18] (fun i : Nat => [(4, iv (loT e.time (l.take i))), (5, iv (hiT e.time (l.take i))), (18, iv i)]) (fun _ => []) (fun i => i ≤ l.length) (fun i => l.length - i) [] [] 0 (by kernel_rfl) (fun _ => rfl) rfl (Nat.zero_le _) trivial ⟨rfl, rfl, rfl, trivial⟩ ?_
 intro i hi
 conv=>whnf
 apply vif_split <;> intro h
 ·have hlt : i < l.length := by simp at h; omega
  conv=>whnf
  refine AIn.mk' i rfl (lmZ hlt) ?_
  conv=>whnf
  refine ARd.mapAt (List.getElem?_eq_getElem hlt) ?_
  conv=>whnf
  (refine adraw pln123 [] (by kernel_rfl) ?_; conv=>whnf)
  refine AAr.i64 (by omega) ?_
  conv=>whnf
  exact aback (i + 1) [] [] rfl (by show l.length - (i + 1) < l.length - i; omega) hlt trivial ⟨ciZ (loT_take _ hlt).symm, ciZ (hiT_take _ hlt).symm, rfl, trivial⟩
 ·have hie : i = l.length := by simp at h; omega
  subst hie
  rw [List.take_length]
  conv=>whnf
  exact aret [] (by trivial)
theorem app_e {n : Nat} (h : n ≤ 100000) : n * 112 ≤ 140737488355328 ∧ n ≤ maxLen := ⟨by omega, by unfold maxLen; omega⟩
theorem cloneEA (l : List Ev) (hl : l ≠ []) (hs : l.length ≤ 10000) : AFn Tryz.prog GS 80 [el l] 0 [] (Own1 95 10 (l.map enE)) := by
 have h0 : 0 < l.length := List.length_pos_iff.2 hl
 refine afn_of Tryz.func80 rfl mixed (by kernel_rfl) ?_
 conv=>whnf
 refine ⟨fun b hb => ?_⟩
 rw [hb (lmZ h0)]
 conv=>whnf
 refine VReq.mk (app_e (by simp only [List.length_map, List.length_nil]; omega)) ?_
 conv=>whnf
 exact aend (.own 0) 1 _ [(0, .lab 1)] [] ⟨rfl, rfl, rfl⟩ rfl (by trivial) (by trivial)
abbrev fV (f : Nat) : FV := .v (.func (.func f) #[] #[])
theorem columnsA : AFn Tryz.prog GS 120 [] 0 [] (Own1 160 2 [[fV 143, .lst 1 [[fV 144], [fV 145], [fV 146]]],
  [fV 147, .v (.slice none 0 0)], [fV 148, .v (.slice none 0 0)], [fV 149, .lst 1 [[fV 150], [fV 151], [fV 152]]]]) := by
 refine afn_of Tryz.func120 rfl mixed (by kernel_rfl) ?_
 conv=>whnf
 exact aend (.own 0) 1 _ [(0, .lab 2)] [] ⟨rfl, rfl, rfl⟩ rfl (by trivial) (by trivial)
end
end Go.Proofs.YtocckceefcmeaaaGreatDoor.Cl

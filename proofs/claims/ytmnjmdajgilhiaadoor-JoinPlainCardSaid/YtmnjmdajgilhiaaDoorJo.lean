/- The walk of the join's root. Condition: sizes. The walks of the join's owner, first, First and Owner. Condition: sizes. -/
import Derived.Test.YtmnjmdajgilhiaaDoorJi
set_option linter.unusedVariables false
set_option linter.unusedSimpArgs false
namespace Go.Proofs.YtmnjmdajgilhiaaDoor.Cl
open Go Go.RowKit Go.Proofs Go.Proofs.YtmnjmdajgilhiaaDoor.Vc Go.Proofs.YtmnjmdajgilhiaaDoor.Ax Go.Proofs.YtmnjmdajgilhiaaDoor.Id
attribute [local irreducible] loadVar storeVar Instr.indexAt Instr.index Instr.sliceAt Instr.makeSlice Instr.lookup Instr.mapUpdate Instr.range Instr.next Instr.entry Instr.makeMap Builtin.append_ Builtin.copy_ Builtin.len_ Builtin.min_ Builtin.max_ Builtin.cap_ Builtin.delete_ Builtin.clear_ convert binOp eqGuard Op.unary Calls
/-- how far the ids of a forest are known -/
structure KI (fr : List Lk) (pos : Nat) (K : ByteArray → Option ByteArray) : Prop where
  sound : ∀ id v, K id = some v → v = rt fr id ∧ id ∈ idsL fr
  done : ∀ j x, j < pos → (idsL fr)[j]? = some x → ∃ v, K x = some v
theorem KI.nil (fr : List Lk) : KI fr 0 fun _ => none := ⟨fun _ _ h => (by cases h), fun _ _ h => absurd h (Nat.not_lt_zero _)⟩
theorem KI.next {fr : List Lk} {pos : Nat} {K : ByteArray → Option ByteArray} (h : KI fr pos K) {x v : ByteArray} (hx : (idsL fr)[pos]? = some x) (hv : K x = some v) : KI fr (pos + 1) K := ⟨h.sound, fun j y hj hy => by
  rcases Nat.lt_or_ge j pos with h1 | h1
  · exact h.done j y h1 hy
  · have : j = pos := by omega
    subst this
    rw [hx] at hy
    injection hy with hy
    subst hy
    exact ⟨v, hv⟩⟩
theorem KI.put {fr : List Lk} {pos : Nat} {K : ByteArray → Option ByteArray} (h : KI fr pos K) {y : ByteArray} (hy : y ∈ idsL fr) : KI fr pos fun k => if k = y then some (rt fr y) else K k := ⟨fun id v hv => by
    by_cases e : id = y
    · simp only [if_pos e, Option.some.injEq] at hv
      subst e
      exact ⟨hv.symm, hy⟩
    · simp only [if_neg e] at hv
      exact h.sound id v hv, fun j x hj hx => by
    by_cases e : x = y
    · exact ⟨_, if_pos e⟩
    · obtain ⟨v, hv⟩ := h.done j x hj hx
      exact ⟨v, by simp only [if_neg e]; exact hv⟩⟩
theorem KI.fin {ls : List Lk} {t : Int} {K : ByteArray → Option ByteArray} (h : KI (frs (unt t ls)) (idsL (frs (unt t ls))).length K) : (fun k => (K k).map Value.string) = kmap ls t := by
  funext id
  unfold kmap
  cases hK : K id with
  | some v =>
    obtain ⟨h1, h2⟩ := h.sound id v hK
    rw [if_pos ((hasB_iff _ _).2 h2), h1, frs_rt]
    rfl
  | none =>
    rw [if_neg]
    · rfl
    · intro hb
      obtain ⟨j, hj⟩ := List.getElem?_of_mem ((hasB_iff _ _).1 hb)
      obtain ⟨v, hv⟩ := h.done j id (List.getElem?_eq_some_iff.1 hj).1 hj
      rw [hK] at hv
      cases hv
/-- the least of a sorted list stands first -/
theorem head_least {g : Tx} (hs : SST g) {z : By} (hz : z ∈ g) (hle : ∀ y ∈ g, ¬ y < z) : g[0]? = some z := by
  cases g with
  | nil => cases hz
  | cons y r =>
    rcases List.mem_cons.1 hz with rfl | hz
    · rfl
    · exact absurd ((List.pairwise_cons.1 hs).1 z hz) (hle y List.mem_cons_self)
theorem mbs_mem {fr : List Lk} {x : ByteArray} (hx : x ∈ idsL fr) (y : By) : y ∈ dsT (mbsL (rt fr) x (idsL fr)) ↔ ba y ∈ idsL fr ∧ rt fr (ba y) = rt fr x := by
  rw [dsT_mem]
  unfold mbsL
  simp only [List.mem_cons, List.mem_map, List.mem_filter, decide_eq_true_eq]
  constructor
  · rintro (rfl | ⟨z, ⟨h1, h2⟩, rfl⟩)
    · rw [ba_ab]; exact ⟨hx, rfl⟩
    · rw [ba_ab]; exact ⟨h1, h2⟩
  · rintro ⟨h1, h2⟩
    exact .inr ⟨ba y, ⟨h1, h2⟩, rfl⟩
theorem mbs_head {fr : List Lk} {x : ByteArray} (hx : x ∈ idsL fr) : (dsT (mbsL (rt fr) x (idsL fr)))[0]? = some (ab (rt fr x)) := by
  refine head_least (dsT_ss _) ((mbs_mem hx _).2 ?_) fun y hy => ?_
  · rw [ba_ab]; exact ⟨rt_in hx, rt_idem fr x⟩
  · have := ((mbs_mem hx y).1 hy).2
    have h := rt_least fr x (ba y) this.symm
    exact h
structure KX where
  i : Nat
  K : ByteArray → Option ByteArray
theorem put_mF (K : ByteArray → Option ByteArray) (y v : ByteArray) : (fun k' => if k' = y then some (Value.string v) else (K k').map Value.string) = fun k => (if k = y then some v else K k).map Value.string := by
  funext k
  split <;> rfl
theorem Tm_put (ls : List Lk) (t : Int) (ts : List Int) (M : ByteArray → Option Value) (hM : M = kmap ls t) : (fun k' => if k' = t then some (FV.fm M) else Tm ls ts k') = Tm ls (t :: ts) := by
  subst hM
  funext k
  unfold Tm
  by_cases e : k = t
  · subst e; simp
  · simp [e]
theorem own_root {ls : List Lk} {t : Int} {id : ByteArray} (h : hasB (idsL (frs (unt t ls))) id = false) : rt (unt t ls) id = id := by
  rw [← frs_rt]
  exact rt_own ((hasB_not _ _).1 h)
section
variable {G : Glob}
set_option maxHeartbeats 8000000 in
set_option maxRecDepth 100000 in
theorem jrootA (ls : List Lk) (ts : List Int) (t : Int) (id : By) (hl : ls.length ≤ 50000) : AFn Tryd.prog G 46 [.ptr 0 0, tv id, iv t] 2 [(0, ppB ls), (1, .imap (Tm ls ts))] (fun a n H => a = sv (rtA ls t id) ∧ n = 2 ∧ H = [(0, ppB ls), (1, .imap (Tm ls (t :: ts)))]) := by
  have hul : (unt t ls).length ≤ ls.length := unt_len t ls
  have hfl : (frs (unt t ls)).length ≤ ls.length := Nat.le_trans (frs_len _) hul
  refine afn_of Tryd.func46 rfl mixed (by kernel_rfl) ?_
  conv => whnf
  refine ⟨fun hno => ?_, fun x hx => ?_⟩
  rotate_left 1
  · have ht : t ∈ ts ∧ x = .fm (kmap ls t) := by
      unfold Tm at hx
      split at hx
      · rename_i h; injection hx with hx; exact ⟨h, hx.symm⟩
      · cases hx
    obtain ⟨ht, rfl⟩ := ht
    conv => whnf
    refine ⟨?_⟩
    cases hb : hasB (idsL (frs (unt t ls))) (ba id) with
    | true =>
      have e : kmap ls t (ba id) = some (.string (rtA ls t id)) := if_pos hb
      skip
      rw [e]
      simp only [Option.getD_some, Option.isSome_some]
      conv => whnf
      exact aend (sv (rtA ls t id)) 2 [(0, ppB ls), (1, .imap (Tm ls (t :: ts)))] [] [] ⟨rfl, rfl, rfl⟩ rfl ⟨(by repeat' (first | rfl | trivial | apply And.intro)), (Tm_mem ht), trivial⟩ (by repeat' (first | rfl | trivial | apply And.intro))
    | false =>
      have e : kmap ls t (ba id) = none := if_neg (by rw [hb]; exact Bool.false_ne_true)
      have e2 : rtA ls t id = ba id := own_root hb
      skip
      rw [e]
      simp only [Option.getD_none, Option.isSome_none]
      conv => whnf
      exact aend (sv (rtA ls t id)) 2 [(0, ppB ls), (1, .imap (Tm ls (t :: ts)))] [] [] ⟨rfl, rfl, rfl⟩ rfl ⟨(by repeat' (first | rfl | trivial | apply And.intro)), (Tm_mem ht), trivial⟩ (by rw [e2]; repeat' (first | rfl | trivial | apply And.intro))
  conv => whnf
  (refine acallF [] (by kernel_rfl) (AFn.frz (until1A ls t (by omega))) ?_ ?_; (focus (repeat' (first | rfl | trivial | apply And.intro))))
  rintro _ _ _ ⟨rfl, rfl, rfl⟩
  conv => whnf
  (refine acallF [] (by kernel_rfl) (AFn.frz (forestA (unt t ls) (by omega))) ?_ ?_; (focus (repeat' (first | rfl | trivial | apply And.intro))))
  rintro _ _ _ ⟨rfl, rfl, rfl⟩
  have hfin : ∀ K, KI (frs (unt t ls)) (idsL (frs (unt t ls))).length K → (fun k => (K k).map Value.string) = kmap ls t := fun K h => h.fin
  have hil := idsL_len (frs (unt t ls))
  generalize hfr : frs (unt t ls) = fr at *
  conv => whnf
  refine aloop ws46_1 3 [38] (fun x : KX => [(38, iv x.i)]) (fun x => [(2, mF x.K), (0, ppB ls), (1, .imap (Tm ls ts))]) (fun x => x.i ≤ fr.length ∧ KI fr (2 * x.i) x.K) (fun x => fr.length - x.i) [] [] ⟨0, fun _ => none⟩ (by kernel_rfl) (fun _ => rfl) rfl ⟨Nat.zero_le _, KI.nil fr⟩ (by repeat' (first | rfl | trivial | apply And.intro)) (by repeat' (first | rfl | trivial | apply And.intro)) ?_
  rintro ⟨i, K⟩ ⟨hi, hK⟩
  change i ≤ fr.length at hi
  change KI fr (2 * i) K at hK
  conv => whnf
  refine vif_split (fun h => ?_) (fun h => ?_)
  rotate_left 1
  · have hie : i = fr.length := by simp at h; omega
    subst hie
    have hKf := hfin K (by rw [hil]; exact hK)
    subst hfr
    conv => whnf
    refine ⟨?_⟩
    cases hb : hasB (idsL (frs (unt t ls))) (ba id) with
    | true =>
      have e : kmap ls t (ba id) = some (.string (rtA ls t id)) := if_pos hb
      (have hM : (fun k => (K k).map Value.string) (ba id) = kmap ls t (ba id) := congrFun hKf (ba id)); dsimp only at hM; try dsimp only; rw [hM]
      rw [e]
      simp only [Option.getD_some, Option.isSome_some]
      conv => whnf
      exact aend (sv (rtA ls t id)) 2 [(0, ppB ls), (1, .imap (Tm ls (t :: ts)))] [] [] ⟨rfl, rfl, rfl⟩ rfl ⟨(by repeat' (first | rfl | trivial | apply And.intro)), (Tm_put ls t ts _ hKf), trivial⟩ (by repeat' (first | rfl | trivial | apply And.intro))
    | false =>
      have e : kmap ls t (ba id) = none := if_neg (by rw [hb]; exact Bool.false_ne_true)
      have e2 : rtA ls t id = ba id := own_root hb
      (have hM : (fun k => (K k).map Value.string) (ba id) = kmap ls t (ba id) := congrFun hKf (ba id)); dsimp only at hM; try dsimp only; rw [hM]
      rw [e]
      simp only [Option.getD_none, Option.isSome_none]
      conv => whnf
      exact aend (sv (rtA ls t id)) 2 [(0, ppB ls), (1, .imap (Tm ls (t :: ts)))] [] [] ⟨rfl, rfl, rfl⟩ rfl ⟨(by repeat' (first | rfl | trivial | apply And.intro)), (Tm_put ls t ts _ hKf), trivial⟩ (by rw [e2]; repeat' (first | rfl | trivial | apply And.intro))
  have hlt : i < fr.length := by simp at h; omega
  have hat := idsL_at fr i hlt
  conv => whnf
  refine AIn.mk' i rfl (by rw [List.length_map]; exact hlt) ?_
  conv => whnf
  refine ARd.mapAt (List.getElem?_eq_getElem hlt) ?_
  conv => whnf
  generalize fr[i] = k at *
  refine aloop ws46_2 5 [48] (fun x : KX => [(48, iv x.i)]) (fun x => [(4, .rows 9 1 [[.v (.string k.a)], [.v (.string k.b)]]), (2, mF x.K), (0, ppB ls), (1, .imap (Tm ls ts))]) (fun x => x.i ≤ 2 ∧ KI fr (2 * i + x.i) x.K) (fun x => 2 - x.i) [] [] ⟨0, K⟩ (by kernel_rfl) (fun _ => rfl) rfl ⟨Nat.zero_le _, hK⟩ (by repeat' (first | rfl | trivial | apply And.intro)) (by repeat' (first | rfl | trivial | apply And.intro)) ?_
  clear hK
  rintro ⟨j, K⟩ ⟨hj, hK⟩
  change j ≤ 2 at hj
  change KI fr (2 * i + j) K at hK
  have hj3 : j = 0 ∨ j = 1 ∨ j = 2 := by omega
  rcases hj3 with rfl | rfl | rfl
  · conv => whnf
    refine AIn.mk' 0 rfl (show 0 < 2 by decide) ?_
    conv => whnf
    refine ARd.at rfl ?_
    conv => whnf
    refine ⟨?_⟩
    have hxm : k.a ∈ idsL fr := List.mem_of_getElem? hat.1
    cases hKx : K k.a with
    | some v =>
      simp only [hKx, Option.map_some, Option.getD_some, Option.isSome_some]
      conv => whnf
      refine AAr.i64 (by (try dsimp only); omega) ?_
      conv => whnf
      exact aback ⟨0 + 1, K⟩ [] [] rfl (by show 2 - (0 + 1) < 2 - 0; decide) ⟨(by decide : 0 + 1 ≤ 2), hK.next hat.1 hKx⟩ (by repeat' (first | rfl | trivial | apply And.intro)) (by repeat' (first | rfl | trivial | apply And.intro))
    | none =>
      simp only [hKx, Option.map_none, Option.getD_none, Option.isSome_none]
      conv => whnf
      have hgm := mbs_mem hxm
      have hgh := mbs_head hxm
      have hgl := dsT_len (mbsL (rt fr) k.a (idsL fr))
      have hgl2 : (mbsL (rt fr) k.a (idsL fr)).length ≤ 1 + (idsL fr).length := by
        unfold mbsL
        have := List.length_filter_le (fun x => decide (rt fr x = rt fr k.a)) (idsL fr)
        simp only [List.length_cons, List.length_map]
        omega
      have hg5 : (dsT (mbsL (rt fr) k.a (idsL fr))).length ≤ 200000 := by omega
      (refine acallF [] (by kernel_rfl) (membersA fr k.a (by omega)) ?_ ?_; (focus (repeat' (first | rfl | trivial | apply And.intro))))
      rintro _ _ _ ⟨rfl, rfl, rfl⟩
      generalize dsT (mbsL (rt fr) k.a (idsL fr)) = g at *
      conv => whnf
      refine aloop ws46_3 5 [64] (fun x : KX => [(64, iv x.i)]) (fun x => [(4, .rows 9 1 [[.v (.string k.a)], [.v (.string k.b)]]), (2, mF x.K), (0, ppB ls), (1, .imap (Tm ls ts))]) (fun x => x.i ≤ g.length ∧ KI fr (2 * i + 0) x.K ∧ ∀ r y, r < x.i → g[r]? = some y → ∃ v, x.K (ba y) = some v) (fun x => g.length - x.i) [] [] ⟨0, K⟩ (by kernel_rfl) (fun _ => rfl) rfl ⟨Nat.zero_le _, hK, fun r y h => absurd h (Nat.not_lt_zero r)⟩ (by repeat' (first | rfl | trivial | apply And.intro)) (by repeat' (first | rfl | trivial | apply And.intro)) ?_
      clear hK hKx
      rintro ⟨q, K⟩ ⟨hq, hK, hr⟩
      change q ≤ g.length at hq
      change KI fr (2 * i + 0) K at hK
      change ∀ r y, r < q → g[r]? = some y → ∃ v, K (ba y) = some v at hr
      conv => whnf
      refine vif_split (fun h => ?_) (fun h => ?_)
      · have hlq : q < g.length := by simp at h; omega
        have hgq := List.getElem?_eq_getElem hlq
        have hyg := (hgm g[q]).1 (List.getElem_mem hlq)
        generalize g[q] = y at *
        conv => whnf
        refine AIn.mk' q rfl (by rw [List.length_map]; exact hlq) ?_
        conv => whnf
        refine ARd.mapAt hgq ?_
        conv => whnf
        refine AIn.mk' 0 rfl (by rw [List.length_map]; omega) ?_
        conv => whnf
        refine ARd.mapAt hgh ?_
        conv => whnf
        refine AAr.i64 (by (try dsimp only); omega) ?_
        conv => whnf
        refine aback ⟨q + 1, fun k' => if k' = ba y then some (rt fr (ba y)) else K k'⟩ [] [] rfl (by show g.length - (q + 1) < g.length - q; omega) ⟨hlq, hK.put hyg.1, fun r z hr1 hz => ?_⟩ ⟨(by repeat' (first | rfl | trivial | apply And.intro)), ?_, (by repeat' (first | rfl | trivial | apply And.intro)), (by repeat' (first | rfl | trivial | apply And.intro)), trivial⟩ (by repeat' (first | rfl | trivial | apply And.intro))
        · change r < q + 1 at hr1
          show ∃ v, (if ba z = ba y then some (rt fr (ba y)) else K (ba z)) = some v
          by_cases e : ba z = ba y
          · exact ⟨_, if_pos e⟩
          · rw [if_neg e]
            refine hr r z ?_ hz
            rcases Nat.lt_or_ge r q with h1 | h1
            · exact h1
            · have : r = q := by omega
              subst this
              rw [hgq] at hz
              injection hz with hz
              exact absurd (by rw [hz]) e
        · rw [hyg.2]
          exact (put_mF K (ba y) (ba (ab (rt fr k.a)))).trans (by rw [ba_ab])
      · have hqe : q = g.length := by simp at h; omega
        subst hqe
        obtain ⟨r, hr1⟩ := List.getElem?_of_mem ((hgm (ab k.a)).2 (by rw [ba_ab]; exact ⟨hxm, rfl⟩))
        obtain ⟨v, hv⟩ := hr r _ (List.getElem?_eq_some_iff.1 hr1).1 hr1
        rw [ba_ab] at hv
        conv => whnf
        refine AAr.i64 (by (try dsimp only); omega) ?_
        conv => whnf
        exact aback ⟨0 + 1, K⟩ [] [] rfl (by show 2 - (0 + 1) < 2 - 0; decide) ⟨(by decide : 0 + 1 ≤ 2), hK.next hat.1 hv⟩ (by repeat' (first | rfl | trivial | apply And.intro)) (by repeat' (first | rfl | trivial | apply And.intro))
  · conv => whnf
    refine AIn.mk' 1 rfl (show 1 < 2 by decide) ?_
    conv => whnf
    refine ARd.at rfl ?_
    conv => whnf
    refine ⟨?_⟩
    have hxm : k.b ∈ idsL fr := List.mem_of_getElem? hat.2
    cases hKx : K k.b with
    | some v =>
      simp only [hKx, Option.map_some, Option.getD_some, Option.isSome_some]
      conv => whnf
      refine AAr.i64 (by (try dsimp only); omega) ?_
      conv => whnf
      exact aback ⟨1 + 1, K⟩ [] [] rfl (by show 2 - (1 + 1) < 2 - 1; decide) ⟨(by decide : 1 + 1 ≤ 2), hK.next hat.2 hKx⟩ (by repeat' (first | rfl | trivial | apply And.intro)) (by repeat' (first | rfl | trivial | apply And.intro))
    | none =>
      simp only [hKx, Option.map_none, Option.getD_none, Option.isSome_none]
      conv => whnf
      have hgm := mbs_mem hxm
      have hgh := mbs_head hxm
      have hgl := dsT_len (mbsL (rt fr) k.b (idsL fr))
      have hgl2 : (mbsL (rt fr) k.b (idsL fr)).length ≤ 1 + (idsL fr).length := by
        unfold mbsL
        have := List.length_filter_le (fun x => decide (rt fr x = rt fr k.b)) (idsL fr)
        simp only [List.length_cons, List.length_map]
        omega
      have hg5 : (dsT (mbsL (rt fr) k.b (idsL fr))).length ≤ 200000 := by omega
      (refine acallF [] (by kernel_rfl) (membersA fr k.b (by omega)) ?_ ?_; (focus (repeat' (first | rfl | trivial | apply And.intro))))
      rintro _ _ _ ⟨rfl, rfl, rfl⟩
      generalize dsT (mbsL (rt fr) k.b (idsL fr)) = g at *
      conv => whnf
      refine aloop ws46_3 5 [64] (fun x : KX => [(64, iv x.i)]) (fun x => [(4, .rows 9 1 [[.v (.string k.a)], [.v (.string k.b)]]), (2, mF x.K), (0, ppB ls), (1, .imap (Tm ls ts))]) (fun x => x.i ≤ g.length ∧ KI fr (2 * i + 1) x.K ∧ ∀ r y, r < x.i → g[r]? = some y → ∃ v, x.K (ba y) = some v) (fun x => g.length - x.i) [] [] ⟨0, K⟩ (by kernel_rfl) (fun _ => rfl) rfl ⟨Nat.zero_le _, hK, fun r y h => absurd h (Nat.not_lt_zero r)⟩ (by repeat' (first | rfl | trivial | apply And.intro)) (by repeat' (first | rfl | trivial | apply And.intro)) ?_
      clear hK hKx
      rintro ⟨q, K⟩ ⟨hq, hK, hr⟩
      change q ≤ g.length at hq
      change KI fr (2 * i + 1) K at hK
      change ∀ r y, r < q → g[r]? = some y → ∃ v, K (ba y) = some v at hr
      conv => whnf
      refine vif_split (fun h => ?_) (fun h => ?_)
      · have hlq : q < g.length := by simp at h; omega
        have hgq := List.getElem?_eq_getElem hlq
        have hyg := (hgm g[q]).1 (List.getElem_mem hlq)
        generalize g[q] = y at *
        conv => whnf
        refine AIn.mk' q rfl (by rw [List.length_map]; exact hlq) ?_
        conv => whnf
        refine ARd.mapAt hgq ?_
        conv => whnf
        refine AIn.mk' 0 rfl (by rw [List.length_map]; omega) ?_
        conv => whnf
        refine ARd.mapAt hgh ?_
        conv => whnf
        refine AAr.i64 (by (try dsimp only); omega) ?_
        conv => whnf
        refine aback ⟨q + 1, fun k' => if k' = ba y then some (rt fr (ba y)) else K k'⟩ [] [] rfl (by show g.length - (q + 1) < g.length - q; omega) ⟨hlq, hK.put hyg.1, fun r z hr1 hz => ?_⟩ ⟨(by repeat' (first | rfl | trivial | apply And.intro)), ?_, (by repeat' (first | rfl | trivial | apply And.intro)), (by repeat' (first | rfl | trivial | apply And.intro)), trivial⟩ (by repeat' (first | rfl | trivial | apply And.intro))
        · change r < q + 1 at hr1
          show ∃ v, (if ba z = ba y then some (rt fr (ba y)) else K (ba z)) = some v
          by_cases e : ba z = ba y
          · exact ⟨_, if_pos e⟩
          · rw [if_neg e]
            refine hr r z ?_ hz
            rcases Nat.lt_or_ge r q with h1 | h1
            · exact h1
            · have : r = q := by omega
              subst this
              rw [hgq] at hz
              injection hz with hz
              exact absurd (by rw [hz]) e
        · rw [hyg.2]
          exact (put_mF K (ba y) (ba (ab (rt fr k.b)))).trans (by rw [ba_ab])
      · have hqe : q = g.length := by simp at h; omega
        subst hqe
        obtain ⟨r, hr1⟩ := List.getElem?_of_mem ((hgm (ab k.b)).2 (by rw [ba_ab]; exact ⟨hxm, rfl⟩))
        obtain ⟨v, hv⟩ := hr r _ (List.getElem?_eq_some_iff.1 hr1).1 hr1
        rw [ba_ab] at hv
        conv => whnf
        refine AAr.i64 (by (try dsimp only); omega) ?_
        conv => whnf
        exact aback ⟨1 + 1, K⟩ [] [] rfl (by show 2 - (1 + 1) < 2 - 1; decide) ⟨(by decide : 1 + 1 ≤ 2), hK.next hat.2 hv⟩ (by repeat' (first | rfl | trivial | apply And.intro)) (by repeat' (first | rfl | trivial | apply And.intro))
  · conv => whnf
    refine AAr.i64 (by (try dsimp only); omega) ?_
    conv => whnf
    exact aback ⟨i + 1, K⟩ [] [] rfl (by show fr.length - (i + 1) < fr.length - i; omega) ⟨hlt, hK⟩ (by repeat' (first | rfl | trivial | apply And.intro)) (by repeat' (first | rfl | trivial | apply And.intro))
end
end Go.Proofs.YtmnjmdajgilhiaaDoor.Cl

namespace Go.Proofs.YtmnjmdajgilhiaaDoor.Cl
open Go Go.RowKit Go.Proofs Go.Proofs.YtmnjmdajgilhiaaDoor.Vc Go.Proofs.YtmnjmdajgilhiaaDoor.Ax Go.Proofs.YtmnjmdajgilhiaaDoor.Id
attribute [local irreducible] loadVar storeVar Instr.indexAt Instr.index Instr.sliceAt Instr.makeSlice Instr.lookup Instr.mapUpdate Instr.range Instr.next Instr.entry Instr.makeMap Builtin.append_ Builtin.copy_ Builtin.len_ Builtin.min_ Builtin.max_ Builtin.cap_ Builtin.delete_ Builtin.clear_ convert binOp eqGuard Op.unary Calls
theorem rtA_id (ls : List Lk) (t : Int) (id : By) : rt (unt t ls) (ba id) = rtA ls t id := rfl
/-- the times asked for by a list of events -/
def tsN (name : By) (ts : List Int) (e : Ev) : List Int := if e.name = name then e.time :: ts else ts
def tsF (name : By) (ts : List Int) (l : List Ev) : List Int := l.foldl (tsN name) ts
theorem tsF_snoc (name : By) (ts : List Int) (l : List Ev) (e : Ev) : tsF name ts (l ++ [e]) = tsN name (tsF name ts l) e := by unfold tsF; rw [List.foldl_append]; rfl
section
variable {G : Glob}
set_option maxHeartbeats 4000000 in
set_option maxRecDepth 100000 in
theorem ownerA (ls : List Lk) (ts : List Int) (xs : List Ex) (id : By) (t : Int) (hl : ls.length ≤ 50000) (hx : xs.length ≤ 100000) : AFn Tryd.prog G 42 [.ptr 0 0, exL xs, tv id, iv t] 2 [(0, ppB ls), (1, .imap (Tm ls ts))] (fun a n H => a = iv (owI ls xs id t) ∧ n = 2 ∧ H = [(0, ppB ls), (1, .imap (Tm ls (t :: ts)))]) := by
  refine afn_of Tryd.func42 rfl mixed (by kernel_rfl) ?_
  conv => whnf
  refine acallM [0, 1] [] (by kernel_rfl) (jrootA ls ts t id hl) rfl (by repeat' (first | rfl | trivial | apply And.intro)) (by repeat' (first | rfl | trivial | apply And.intro)) ?_
  rintro _ _ _ ⟨rfl, rfl, rfl⟩
  refine ⟨rfl, ?_⟩
  conv => whnf
  refine aloop ws42_1 2 [18] (fun i : Nat => [(18, iv i)]) (fun i => [(0, ppB ls), (1, .imap (Tm ls (t :: ts)))]) (fun i => i ≤ xs.length ∧ ∀ j (h : j < xs.length), j < i → owP ls t id xs[j] = false) (fun i => xs.length - i) [] [] 0 (by kernel_rfl) (fun _ => rfl) rfl ⟨Nat.zero_le _, fun j _ h => absurd h (Nat.not_lt_zero j)⟩ (by repeat' (first | rfl | trivial | apply And.intro)) (by repeat' (first | rfl | trivial | apply And.intro)) ?_
  rintro i ⟨hi, hno⟩
  conv => whnf
  refine vif_split (fun h => ?_) (fun h => ?_)
  rotate_left 1
  · have hie : i = xs.length := by simp at h; omega
    subst hie
    have e : owI ls xs id t = -1 := by unfold owI; rw [owO_none fun j h => hno j h h]
    conv => whnf
    exact aend (iv (owI ls xs id t)) 2 _ [] [] ⟨rfl, rfl, rfl⟩ rfl (by repeat' (first | rfl | trivial | apply And.intro)) (by rw [e]; repeat' (first | rfl | trivial | apply And.intro))
  have hlt : i < xs.length := by simp at h; omega
  have hP : owP ls t id xs[i] = (decide (xs[i].time ≤ t) && decide (rtA ls t xs[i].id = rtA ls t id)) := rfl
  have hg := List.getElem?_eq_getElem hlt
  have hsome : owP ls t id xs[i] = true → owI ls xs id t = (i : Int) := fun h => by unfold owI; rw [owO_some hlt h fun j hj => hno j (by omega) hj]
  have hnext : owP ls t id xs[i] = false → i + 1 ≤ xs.length ∧ ∀ j (h : j < xs.length), j < i + 1 → owP ls t id xs[j] = false := fun h0 => ⟨hlt, fun j h hj => by
    rcases Nat.lt_or_ge j i with h1 | h1
    · exact hno j h h1
    · have : j = i := by omega
      subst this
      exact h0⟩
  generalize xs[i] = x at *
  conv => whnf
  refine AIn.mk' i rfl (by rw [List.length_map]; exact hlt) ?_
  conv => whnf
  refine ARd.mapAt hg ?_
  conv => whnf
  refine vif_split (fun h1 => ?_) (fun h1 => ?_)
  rotate_left 1
  · conv => whnf
    refine AAr.i64 (by omega) ?_
    conv => whnf
    exact aback (i + 1) [] [] rfl (by show xs.length - (i + 1) < xs.length - i; omega) (hnext (by rw [hP, decide_eq_false (by simpa using h1)]; rfl)) (by repeat' (first | rfl | trivial | apply And.intro)) (by repeat' (first | rfl | trivial | apply And.intro))
  conv => whnf
  refine acallM [0, 1] [] (by kernel_rfl) (jrootA ls (t :: ts) t x.id hl) rfl (by repeat' (first | rfl | trivial | apply And.intro)) (by repeat' (first | rfl | trivial | apply And.intro)) ?_
  rintro _ _ _ ⟨rfl, rfl, rfl⟩
  refine ⟨rfl, ?_⟩
  rw [Tm_two]
  conv => whnf
  refine vif_split (fun h2 => ?_) (fun h2 => ?_)
  · have h3 := (sEq_iff _ _).1 h2
    have e := hsome (by rw [hP, decide_eq_true (by simpa using h1), decide_eq_true h3]; rfl)
    conv => whnf
    exact aend (iv (owI ls xs id t)) 2 _ [] [] ⟨rfl, rfl, rfl⟩ rfl (by repeat' (first | rfl | trivial | apply And.intro)) (by rw [e]; repeat' (first | rfl | trivial | apply And.intro))
  · have h3 : ¬ rtA ls t x.id = rtA ls t id := fun e => by rw [(sEq_iff _ _).2 e] at h2; cases h2
    conv => whnf
    refine AAr.i64 (by omega) ?_
    conv => whnf
    exact aback (i + 1) [] [] rfl (by show xs.length - (i + 1) < xs.length - i; omega) (hnext (by rw [hP, decide_eq_false h3, Bool.and_false])) (by repeat' (first | rfl | trivial | apply And.intro)) (by repeat' (first | rfl | trivial | apply And.intro))
set_option maxHeartbeats 4000000 in
set_option maxRecDepth 100000 in
theorem ownerOA (ls : List Lk) (ts : List Int) (xs : List Ex) (id : By) (t : Int) (hl : ls.length ≤ 50000) (hx : xs.length ≤ 100000) : AFn Tryd.prog G 42 [.ptr 0 0, .own 2, tv id, iv t] 3 [(0, ppB ls), (1, .imap (Tm ls ts)), (2, .rows 40 6 (xs.map exF))] (fun a n H => a = iv (owI ls xs id t) ∧ n = 3 ∧ H = [(0, ppB ls), (1, .imap (Tm ls (t :: ts))), (2, .rows 40 6 (xs.map exF))]) := by
  refine afn_of Tryd.func42 rfl mixed (by kernel_rfl) ?_
  conv => whnf
  refine acallM [0, 1] [] (by kernel_rfl) (jrootA ls ts t id hl) rfl (by repeat' (first | rfl | trivial | apply And.intro)) (by repeat' (first | rfl | trivial | apply And.intro)) ?_
  rintro _ _ _ ⟨rfl, rfl, rfl⟩
  refine ⟨rfl, ?_⟩
  conv => whnf
  refine aloop ws42_1 3 [18] (fun i : Nat => [(18, iv i)]) (fun i => [(0, ppB ls), (1, .imap (Tm ls (t :: ts))), (2, .rows 40 6 (xs.map exF))]) (fun i => i ≤ xs.length ∧ ∀ j (h : j < xs.length), j < i → owP ls t id xs[j] = false) (fun i => xs.length - i) [] [] 0 (by kernel_rfl) (fun _ => rfl) rfl ⟨Nat.zero_le _, fun j _ h => absurd h (Nat.not_lt_zero j)⟩ (by repeat' (first | rfl | trivial | apply And.intro)) (by repeat' (first | rfl | trivial | apply And.intro)) ?_
  rintro i ⟨hi, hno⟩
  conv => whnf
  refine vif_split (fun h => ?_) (fun h => ?_)
  rotate_left 1
  · have hie : i = xs.length := by simp at h; omega
    subst hie
    have e : owI ls xs id t = -1 := by unfold owI; rw [owO_none fun j h => hno j h h]
    conv => whnf
    exact aend (iv (owI ls xs id t)) 3 _ [] [] ⟨rfl, rfl, rfl⟩ rfl (by repeat' (first | rfl | trivial | apply And.intro)) (by rw [e]; repeat' (first | rfl | trivial | apply And.intro))
  have hlt : i < xs.length := by simp at h; omega
  have hP : owP ls t id xs[i] = (decide (xs[i].time ≤ t) && decide (rtA ls t xs[i].id = rtA ls t id)) := rfl
  have hg := List.getElem?_eq_getElem hlt
  have hsome : owP ls t id xs[i] = true → owI ls xs id t = (i : Int) := fun h => by unfold owI; rw [owO_some hlt h fun j hj => hno j (by omega) hj]
  have hnext : owP ls t id xs[i] = false → i + 1 ≤ xs.length ∧ ∀ j (h : j < xs.length), j < i + 1 → owP ls t id xs[j] = false := fun h0 => ⟨hlt, fun j h hj => by
    rcases Nat.lt_or_ge j i with h1 | h1
    · exact hno j h h1
    · have : j = i := by omega
      subst this
      exact h0⟩
  generalize xs[i] = x at *
  conv => whnf
  refine AIn.mk' i rfl (by rw [List.length_map]; exact hlt) ?_
  conv => whnf
  refine ARd.mapAt hg ?_
  conv => whnf
  refine vif_split (fun h1 => ?_) (fun h1 => ?_)
  rotate_left 1
  · conv => whnf
    refine AAr.i64 (by omega) ?_
    conv => whnf
    exact aback (i + 1) [] [] rfl (by show xs.length - (i + 1) < xs.length - i; omega) (hnext (by rw [hP, decide_eq_false (by simpa using h1)]; rfl)) (by repeat' (first | rfl | trivial | apply And.intro)) (by repeat' (first | rfl | trivial | apply And.intro))
  conv => whnf
  refine acallM [0, 1] [] (by kernel_rfl) (jrootA ls (t :: ts) t x.id hl) rfl (by repeat' (first | rfl | trivial | apply And.intro)) (by repeat' (first | rfl | trivial | apply And.intro)) ?_
  rintro _ _ _ ⟨rfl, rfl, rfl⟩
  refine ⟨rfl, ?_⟩
  rw [Tm_two]
  conv => whnf
  refine vif_split (fun h2 => ?_) (fun h2 => ?_)
  · have h3 := (sEq_iff _ _).1 h2
    have e := hsome (by rw [hP, decide_eq_true (by simpa using h1), decide_eq_true h3]; rfl)
    conv => whnf
    exact aend (iv (owI ls xs id t)) 3 _ [] [] ⟨rfl, rfl, rfl⟩ rfl (by repeat' (first | rfl | trivial | apply And.intro)) (by rw [e]; repeat' (first | rfl | trivial | apply And.intro))
  · have h3 : ¬ rtA ls t x.id = rtA ls t id := fun e => by rw [(sEq_iff _ _).2 e] at h2; cases h2
    conv => whnf
    refine AAr.i64 (by omega) ?_
    conv => whnf
    exact aback (i + 1) [] [] rfl (by show xs.length - (i + 1) < xs.length - i; omega) (hnext (by rw [hP, decide_eq_false h3, Bool.and_false])) (by repeat' (first | rfl | trivial | apply And.intro)) (by repeat' (first | rfl | trivial | apply And.intro))
set_option maxHeartbeats 8000000 in
set_option maxRecDepth 100000 in
theorem jfirstA (ls : List Lk) (ts : List Int) (l : List Ev) (name : By) (hls : ls.length ≤ 50000) (hl : l.length ≤ 50000) : AFn Tryd.prog G 39 [.ptr 0 0, el l, tv name] 2 [(0, ppB ls), (1, .imap (Tm ls ts))] (fun a n H => a = exL (fstX ls name (ofK 1 l)) ∧ n = 2 ∧ H = [(0, ppB ls), (1, .imap (Tm ls (tsF name ts (ofK 1 l))))]) := by
  refine afnY_of Tryd.func39 rfl mixed (by kernel_rfl) ?_
  conv => whnf
  (refine acallF [] (by kernel_rfl) (jofA G l 1) ?_ ?_; (focus (repeat' (first | rfl | trivial | apply And.intro))))
  rintro _ _ _ ⟨rfl, rfl, rfl⟩
  have hol := ofK_le 1 l
  conv => whnf
  refine arange (jofI G l 1 (by omega)) 6 (fun i => [(0, ppB ls), (1, .imap (Tm ls (tsF name ts ((ofK 1 l).take i)))), (2, .var 71 [.ptr 0 0]), (3, .var 9 [tv name]), (4, .var 37 [.own 5]), (5, .rows 40 6 ((fstX ls name ((ofK 1 l).take i)).map exF))]) [(5, .nil)] [] rfl (by kernel_rfl) rfl (fun x hx => rng_1 x hx) rfl (by repeat' (first | rfl | trivial | apply And.intro)) (fun i x hx => ?_) ?_
  · obtain ⟨hi, rfl⟩ := rng_at hx
    have hsn : (ofK 1 l).take (i + 1) = (ofK 1 l).take i ++ [(ofK 1 l)[i]] := List.take_succ_eq_append_getElem hi
    have h1 := fstX_snoc ls name ((ofK 1 l).take i) (ofK 1 l)[i]
    have h2 := tsF_snoc name ts ((ofK 1 l).take i) (ofK 1 l)[i]
    have h3 := fstX_len ls name ((ofK 1 l).take i)
    rw [List.length_take] at h3
    rw [← hsn] at h1 h2
    generalize (ofK 1 l)[i] = e at *
    generalize fstX ls name ((ofK 1 l).take i) = o at *
    generalize tsF name ts ((ofK 1 l).take i) = ts' at *
    unfold fstN at h1
    unfold tsN at h2
    conv => whnf
    refine vif_split (fun h => ?_) (fun h => ?_)
    rotate_left 1
    · have hne : ¬ e.name = name := by simpa [sEq_tx] using h
      rw [if_neg (fun h => hne h.1)] at h1
      rw [if_neg hne] at h2
      conv => whnf
      refine arback [(5, .lab 5)] [] rfl ⟨(by repeat' (first | rfl | trivial | apply And.intro)), ?_, (by repeat' (first | rfl | trivial | apply And.intro)), (by repeat' (first | rfl | trivial | apply And.intro)), (by repeat' (first | rfl | trivial | apply And.intro)), ?_, trivial⟩
      · show Tm ls ts' = Tm ls _; rw [h2]
      · exact ⟨rfl, rfl, by rw [h1]⟩
    have hna : e.name = name := by simpa [sEq_tx] using h
    rw [if_pos hna] at h2
    conv => whnf
    refine acallM [0, 1, 5] [] (by kernel_rfl) (ownerOA ls ts' o e.id e.time hls (by omega)) rfl (by repeat' (first | rfl | trivial | apply And.intro)) (by repeat' (first | rfl | trivial | apply And.intro)) ?_
    rintro _ _ _ ⟨rfl, rfl, rfl⟩
    refine ⟨rfl, ?_⟩
    conv => whnf
    refine vif_split (fun h => ?_) (fun h => ?_)
    · rw [if_pos ⟨hna, by simpa using h⟩] at h1
      conv => whnf
      refine VReq.mk (app_ok (by simp only [List.length_map, List.length_cons, List.length_nil]; omega) (by kernel_rfl)) ?_
      conv => whnf
      refine arback [(5, .lab 8)] [] rfl ⟨(by repeat' (first | rfl | trivial | apply And.intro)), ?_, (by repeat' (first | rfl | trivial | apply And.intro)), (by repeat' (first | rfl | trivial | apply And.intro)), (by repeat' (first | rfl | trivial | apply And.intro)), ?_, trivial⟩
      · show Tm ls (e.time :: ts') = Tm ls _; rw [h2]
      · refine ⟨rfl, rfl, ?_⟩
        rw [h1, List.map_append]
        rfl
    · rw [if_neg (fun h' => by simp at h; omega)] at h1
      conv => whnf
      refine arback [(5, .lab 5)] [] rfl ⟨(by repeat' (first | rfl | trivial | apply And.intro)), ?_, (by repeat' (first | rfl | trivial | apply And.intro)), (by repeat' (first | rfl | trivial | apply And.intro)), (by repeat' (first | rfl | trivial | apply And.intro)), ?_, trivial⟩
      · show Tm ls (e.time :: ts') = Tm ls _; rw [h2]
      · exact ⟨rfl, rfl, by rw [h1]⟩
  · rw [List.length_map, List.take_length]
    conv => whnf
    exact aend (exL (fstX ls name (ofK 1 l))) 2 _ [] [5] ⟨rfl, rfl, rfl⟩ rfl (by repeat' (first | rfl | trivial | apply And.intro)) (by repeat' (first | rfl | trivial | apply And.intro))
set_option maxRecDepth 100000 in
theorem jFirstA (l : List Ev) (name : By) (hl : l.length ≤ 50000) : AFn Tryd.prog G 16 [el l, tv name] 0 [] (Is (exL (fstS l name))) := by
  have hls : (lksE l).length ≤ 50000 := by unfold lksE; rw [List.length_map]; have := ofK_le 3 l; omega
  refine afn_of Tryd.func16 rfl mixed (by kernel_rfl) ?_
  conv => whnf
  (refine acallF [] (by kernel_rfl) (meetA l (by omega)) ?_ ?_; (focus (repeat' (first | rfl | trivial | apply And.intro))))
  rintro _ _ _ ⟨rfl, rfl, rfl⟩
  conv => whnf
  refine acallM [0, 1] [] (by kernel_rfl) (jfirstA (lksE l) [] l name hls hl) rfl (by repeat' (first | rfl | trivial | apply And.intro)) (by repeat' (first | rfl | trivial | apply And.intro)) ?_
  rintro _ _ _ ⟨rfl, rfl, rfl⟩
  refine ⟨rfl, ?_⟩
  conv => whnf
  exact aret [] (by repeat' (first | rfl | trivial | apply And.intro))
set_option maxRecDepth 100000 in
theorem jOwnerA (l : List Ev) (xs : List Ex) (id : By) (t : Int) (hl : l.length ≤ 50000) (hx : xs.length ≤ 100000) : AFn Tryd.prog G 25 [el l, exL xs, tv id, iv t] 0 [] (Is (iv (owI (lksE l) xs id t))) := by
  have hls : (lksE l).length ≤ 50000 := by unfold lksE; rw [List.length_map]; have := ofK_le 3 l; omega
  refine afn_of Tryd.func25 rfl mixed (by kernel_rfl) ?_
  conv => whnf
  (refine acallF [] (by kernel_rfl) (meetA l (by omega)) ?_ ?_; (focus (repeat' (first | rfl | trivial | apply And.intro))))
  rintro _ _ _ ⟨rfl, rfl, rfl⟩
  conv => whnf
  refine acallM [0, 1] [] (by kernel_rfl) (ownerA (lksE l) [] xs id t hls hx) rfl (by repeat' (first | rfl | trivial | apply And.intro)) (by repeat' (first | rfl | trivial | apply And.intro)) ?_
  rintro _ _ _ ⟨rfl, rfl, rfl⟩
  refine ⟨rfl, ?_⟩
  conv => whnf
  exact aret [] (by repeat' (first | rfl | trivial | apply And.intro))
end
end Go.Proofs.YtmnjmdajgilhiaaDoor.Cl
